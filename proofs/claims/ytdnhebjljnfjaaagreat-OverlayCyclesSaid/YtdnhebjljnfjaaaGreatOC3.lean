/- Part 3 of what the statement stands on -/
import Derived.Test.YtdnhebjljnfjaaaGreatOC2
import Derived.ChangeKeysEq
import Derived.Lib.AppendZerosOnto
import Derived.Test.YtdnhebjljnfjaaaGreatRows
import Derived.ProofKit
import Derived.Carry
import Derived.SizedLaws
import Derived.Deep.SlicePairs
import Derived.Lib.SmallJoins
import Derived.Calls
import Derived.Shelf.SlSortCmp.NoneTotal
import Derived.Ground.SlsfProg
import Derived.Shelf.SlSortCmp.WholeK
set_option linter.all false
set_option maxRecDepth 100000
set_option maxHeartbeats 8000000
open Nat renaming beq->af,ne_of_beq_eq_false->fw,ne_of_gt->j4,zero_mul->xg,ble->iL,blt->dB,zero_le->ce,le_of_ble_eq_true->jA,eq_of_beq_eq_true->bm,one_mul->nk,le_trans->cZ,mod_lt->fJ,gcd->bw,gcd_comm->Cu,le_refl->bD,le_antisymm->nl,eq_zero_or_pos->nZ,zero_add->gR,le_succ->C4,le_of_eq->xv
open List renaming mem_singleton->bO,take_length->iM,length_take->fS,mem_cons->bh,lookup_cons->dD,mem_append->d7,take_left->uV,mem_map->cC,mem_filterMap->jx,mem_append_left->fu,map_map->gS,map_congr_left->mI,mem_append_right->ff,mem_cons_of_mem->dR,length_eq_zero_iff->iZ,length->fe,map_cons->cO,length_map->dt,map_nil->lI,cons.injEq->mG,replicate->bT,getElem?_map->dH,getElem?_eq_getElem->c8,getElem?_eq_none->d8,range->bN,take_add_one->pO,foldl_append->Cs,take->bM,drop->cP,take_of_length_le->ib,range_succ->pJ,map_append->dQ,sum_append->xq,all_eq_true->dY,getElem_of_mem->iA,mem_range->dZ,getElem_map->uY,getElem_range->uZ,length_append->dj,all_eq_false->Cv,any_eq_true->ni,any_eq_false->Cw,any->ig,mem_cons_self->eC,flatten->eZ,flatten_append->np,getElem_mem->du,drop_zero->mJ
open Option renaming map_some->dV
open Classical renaming choose_spec->Qf
open Go.Sem renaming run->eJ,run_bind->bk,run_pure->cG
open Go.Proofs.Tryz renaming prog->aH,underlying53->Qe,isAgg3->uT,underlying3->rG,sizeOf3->xk,underlying4->C5,underlying164->Qj,zeroValue164->Qk,underlying214->Ql,zeroValue214->Qm,underlying215->Qn,zeroValue215->Qo,underlying102->Qp,zeroValue102->Qq,underlying190->Qr,zeroValue190->Qs,underlying140->Qt,zeroValue140->Qu,underlying255->Qv,zeroValue255->Qw,underlying259->Qx,zeroValue259->Qy,underlying275->Qz,zeroValue275->Q0,underlying50->Q1
open Go.Op renaming equalIn->jV
open Go.Program renaming fieldsOf->xo
open Go.Value renaming int->cw
open Go.Result renaming andThen_ok->bq,andThen->pL,ok->uc
open Bool renaming eq_iff_iff->mD,not_true->xW,false_eq_true->nY,and_eq_true->cB,or_eq_true->jS
open Go.Instr renaming checkKey->uR
open Int renaming mul_nonneg->iz,natAbs->bj,tmod->dI,natAbs_tmod->Ct,tdiv->bg,emod_add_mul_ediv->Cy,emod_nonneg->Cz,emod_lt_of_pos->C2,lt_trichotomy->xu,mul_le_mul_of_nonneg_left->rJ,mul_lt_mul_of_pos_right->C3
open And renaming intro->cl
open Decidable renaming of_not_not->xt
open Go.IntKind renaming i64->dm
open Go.Sort renaming grow->xw
open Go.RowKit
open Go.Proofs.YtdnhebjljnfjaaaGreat.Geo
open Go.Proofs.YtdnhebjljnfjaaaGreat.Geo renaming sub->aB3,nth->aB0,bi->aB6,onP->aB7,bK->aB8
namespace Go.Proofs.YtdnhebjljnfjaaaGreat
noncomputable section
def tI(d:Nat)(F:Frm)(L:aM):Option (List Prop×Frm×aM):=match F.at d with
 | .ownx s n=>(match L.at s with
   |some (.arr _ ez cs)=>(match bK (avs cs),af ez 0 with
    |some _,false=>some ([],(d,.sl n cs)::F,(s,none)::L)
    |_,_=>none)
   |_=>none)
 | .own s _ n=>(match L.at s with
   |some (.row _ lt l)=>some ([n=l.length],(d,.lst lt l)::F,(s,none)::L)
   |_=>none)
 |_=>none
def vo{L:aM}{s:Nat}{ob:SOb}(hs:L.at s=some ob)(hf:ob.flat=true){k:Nat}{o:Ob}(h:aM.fn ((s,none)::L) k=some o):k≠aD s/\L.fn k=some o:=by have h1:=(bJ.flat (σ:=L.at) (rd:=[]) (W:=[(s,none)]) λq hq=>by rw[bO.1 hq,hs];exact⟨hf,rfl⟩).2.2;rw[aM.oh]at h1;have h2:aM.fn ((s,none)::L)=aY L.fn [(aD s,none)] :=h1.symm;rw[h2]at h;unfold aY at h;grind
def Gd{n d t:Nat}{v:SV}{F:Frm}(ht:t<n):(Frm.av n ((d,v)::F)).getD t .any=if t=d then v.av else(F.av n).getD t .any:=by rw[Frm.fU ht,Frm.fU ht,Frm.cW];split<;>rfl
def R9{n N d:Nat}{F F':Frm}{L L':aM}{ps:List Prop}(h:tI d F L=some (ps,F',L'))(hp:∀p∈ps,p):cU (F.av n) L.fn N (F'.av n) L'.fn N:=by
 unfold tI at h;split at h
 .rename_i s m hd;split at h
  case h_2=>cases h
  rename_i ty ez cs hs;split at h<;>cases h;rename_i q hq hz;refine yA (aD s) q (ty:=ty) (esz:=ez) ?_ (fw hz) (by rw[Frm.dv,Frm.dv]) ?_ λk ob hk=>⟨(vo hs rfl hk).1,.inl (vo hs rfl hk).2⟩
  .show Sg.a L.at (aD s)=_;rw[Sg.bZ,hs,<-fD hq];rfl
  .intro t ht;rw[Frm.dv]at ht;rw[Gd ht];by_cases e:t=d
   .subst e;rw[if_pos rfl,Frm.fU ht,hd];exact .inr (.inr ⟨m,q.length,rfl,by show(match bK (avs cs)with|some q=>AV.p (.sl m q)|none=> .any)=_;rw[hq,iM]⟩)
   .rw[if_neg e];exact .inr (.inl rfl)
 .rename_i s t0 m hd;split at h<;>cases h;rename_i ty lt l hs;have hm:m=l.length:=hp _ (by grind);refine yA (aD s) (lt.enc l) (ty:=ty) (esz:=lt.w) ?_ (j4 lt.gn) (by rw[Frm.dv,Frm.dv]) ?_ λk ob hk=>⟨(vo hs rfl hk).1,.inl (vo hs rfl hk).2⟩
  .show Sg.a L.at (aD s)=_;rw[Sg.bZ,hs];rfl
  .intro t ht;rw[Frm.dv]at ht;rw[Gd ht];by_cases e:t=d
   .subst e;rw[if_pos rfl,Frm.fU ht,hd];exact .inr (.inr ⟨m,(lt.enc l).length,rfl,by rw[iM,hm];rfl⟩)
   .rw[if_neg e];exact .inr (.inl rfl)
 .cases h
def CE(L:aM):SV->Option (List Prop×SV×Nat)
 | .ownx s n=>(match L.at s with
   |some (.arr _ ez cs)=>(match bK (avs cs),af ez 0 with
    |some _,false=>some ([],.sl n cs,s)
    |_,_=>none)
   |_=>none)
 | .own s _ n=>(match L.at s with
   |some (.row _ lt l)=>some ([n=l.length],.lst lt l,s)
   |_=>none)
 | .owns s _ 0 n=>(match L.at s with
   |some (.row _ lt l)=>some ([n<=l.length],.lst lt (l.take n),s)
   |_=>none)
 |_=>none
def T7{L:aM}{v w:SV}{s:Nat}{ps:List Prop}(h:CE L v=some (ps,w,s))(hp:∀p∈ps,p):∃ob,L.at s=some ob/\ob.flat=true/\∃ty esz,∃cells:List PV,∃n,ob.ob s=⟨ty,esz,cells.map .p⟩/\esz≠0/\v.av= .own (aD s) 0 n/\(∃kt,w.av= .p (.sl n (cells.take kt)))/\(∀ty cs,ob≠ .box ty cs):=by
 unfold CE at h;split at h
 .rename_i s m;split at h
  case h_2=>cases h
  rename_i ty ez cs hs;split at h<;>cases h;rename_i q hq hz;exact⟨_,hs,rfl,ty,ez,q,m,by rw[<-fD hq];rfl,fw hz,rfl,⟨q.length,by show(match bK (avs cs)with|some q=>AV.p (.sl m q)|none=> .any)=_;rw[hq,iM]⟩,λ_ _=>nofun⟩
 .rename_i s t0 m;split at h<;>cases h;rename_i ty lt l hs;have hm:m=l.length:=hp _ (by grind);exact⟨_,hs,rfl,ty,lt.w,lt.enc l,m,rfl,j4 lt.gn,rfl,⟨(lt.enc l).length,by rw[iM,hm];rfl⟩,λ_ _=>nofun⟩
 .rename_i s t0 m;split at h<;>cases h;rename_i ty lt l hs;have hm:m<=l.length:=hp _ (by grind);refine⟨_,hs,rfl,ty,lt.w,lt.enc l,m,rfl,j4 lt.gn,?_,⟨m*lt.w,?_⟩,λ_ _=>nofun⟩
  .show AV.own (aD s) (0*_) m=_;rw[xg]
  .rw[lt.wide.take];show AV.p (.sl (l.take m).length _)=_;rw[fS,Nat.min_eq_left hm]
 .cases h
def tJ(k i:Nat)(L:aM):Option (List Prop×aM):=match L.at k with
 |some (.box ty cs)=>(match cs[i]?,iL ty 2 with
  |some v,false=>(match CE L v with
   |some (ps,w,s)=>some (ps,(k,some (.box ty (cs.set i w)))::(s,none)::L)
   |none=>none)
  |_,_=>none)
 |_=>none
def SA{n N k i:Nat}{F:Frm}{L L':aM}{ps:List Prop}(h:tJ k i L=some (ps,L'))(hp:∀p∈ps,p):cU (F.av n) L.fn N (F.av n) L'.fn N:=by
 unfold tJ at h;split at h
 case h_2=>cases h
 rename_i ty cs hk;split at h
 case h_2=>cases h
 rename_i v hv hty;split at h<;>cases h;rename_i w s hf;obtain⟨ob,e1,e2,tys,esz,cells,m,e3,e4,e5,e6,e7⟩:=T7 hf hp;have hks:k≠s:=λe=>by grind
 have hty:¬ty<=2:=λhh=>by rw[Nat.ble_eq_true_of_le hh]at hty;cases hty
 have up:aM.fn ((k,some (.box ty (cs.set i w)))::(s,none)::L)=aY L.fn [(aD k,some ((SOb.box ty (cs.set i w)).ob k)),(aD s,none)] :=by
  have h1:=(bJ.flat (σ:=L.at) (rd:=[]) (W:=[(k,some (.box ty (cs.set i w))),(s,none)]) λq hq=>by
   rcases bh.1 hq with rfl|hq
   .rw[hk];exact⟨rfl,rfl⟩
   .rw[bO.1 hq,e1];exact⟨e2,rfl⟩).2.2
  rw[aM.oh]at h1;exact h1.symm
 refine yA (aD s) cells (ty:=tys) (esz:=esz) ?_ e4 rfl (λt ht=> .inr (.inl rfl)) λj ob' hj=> ?_
 .show Sg.a L.at (aD s)=_;rw[Sg.bZ,e1,dV,e3]
 .rw[up]at hj;unfold aY at hj;rw[dD,dD]at hj;by_cases h1:j=aD k
  .subst h1;rw[beq_iff_eq.2 rfl]at hj;cases hj;refine⟨λe=>hks (eD e),.inr ⟨(SOb.box ty cs).ob k,by show Sg.a L.at (aD k)=_;rw[Sg.bZ,hk];rfl,rfl,rfl,?_,?_,?_⟩⟩
   .rintro⟨_,hh⟩;exact hty hh
   .show(avs (cs.set i w)).length=(avs cs).length;rw[fT,fT,List.length_set]
   .intro a x hx;have hx:(avs (cs.set i w))[a]? =some x:=hx;rw[vw,List.getElem?_set]at hx;by_cases ha:i=a
    .subst ha;rw[if_pos rfl,if_pos (by grind)]at hx;cases hx;exact⟨v.av,by show(avs cs)[i]? =_;rw[qB,hv];rfl,.inr (by grind)⟩
    .rw[if_neg ha]at hx;exact⟨x,hx,.inr (.inl rfl)⟩
  .rw[beq_eq_false_iff_ne.2 h1]at hj;by_cases h2:j=aD s
   .grind
   .rw[beq_eq_false_iff_ne.2 h2]at hj;exact⟨h2,.inl hj⟩
def Sr{k i:Nat}{L L':aM}{ps:List Prop}(h:tJ k i L=some (ps,L')):∃q,L'=q++L:=by
 unfold tJ at h;split at h
 case h_2=>cases h
 split at h
 case h_2=>cases h
 split at h<;>cases h;exact⟨[(_,_),(_,_)],rfl⟩
def Bd(k:Nat):Nat->List SV->List (Nat×Nat)
 |_,[] =>[]
 |i,.lst _ _::r=>(k,i)::Bd k (i+1) r
 |i,_::r=>Bd k (i+1) r
def CG:List (Nat×SOb)->List (Nat×Nat)
 |[] =>[]
 |(k,.box _ cs)::r=>Bd k 0 cs++CG r
 |_::r=>CG r
def o7:List (Nat×Nat)->aM->List Prop×aM
 |[],L=>([],L)
 |d::ds,L=>match tJ d.1 d.2 L with
  |some (ps,L')=>(match o7 ds L' with|(qs,r)=>(ps++qs,r))
  |none=>o7 ds L
def yV{n N:Nat}{F:Frm}:∀{ds:List (Nat×Nat)} {L L':aM} {ps:List Prop},o7 ds L=(ps,L')->(∀p∈ps,p)->cU (F.av n) L.fn N (F.av n) L'.fn N
 |[],L,L',ps,h,_=>by cases h;exact cU.rfl
 |d::ds,L,L',ps,h,hp=>by
  unfold o7 at h;split at h
  .rename_i p1 L1 h1;split at h;rename_i qs r h2;cases h;have w1:=SA (n:=n) (N:=N) (F:=F) h1 λp hq=>hp p (by grind);have w2:=yV (n:=n) (N:=N) (F:=F) h2 λp hq=>hp p (by grind);exact λC0 B wI a w hst=>w2 C0 B wI a w (w1 C0 B wI a w hst)
  .exact yV h hp
def yo:∀{ds:List (Nat×Nat)} {L L':aM} {ps:List Prop},o7 ds L=(ps,L')->∃q,L'=q++L
 |[],L,L',ps,h=>by cases h;simp_all
 |d::ds,L,L',ps,h=>by
  unfold o7 at h;split at h
  .rename_i p1 L1 h1;split at h;rename_i qs r h2;obtain⟨q,e2⟩:=Sr h1;obtain⟨q',e4⟩:=yo h2;grind
  .exact yo h
def CF:Frm->List Nat
 |[] =>[]
 |(d,.lst _ _)::r=>d::CF r
 |_::r=>CF r
def pC:List Nat->Frm->aM->List Prop×Frm×aM
 |[],F,L=>([],F,L)
 |d::ds,F,L=>match tI d F L with
  |some (ps,F',L')=>(match pC ds F' L' with|(qs,r)=>(ps++qs,r))
  |none=>pC ds F L
def yn{n N:Nat}:∀{ds:List Nat} {F F':Frm} {L L':aM} {ps:List Prop},pC ds F L=(ps,F',L')->(∀p∈ps,p)->cU (F.av n) L.fn N (F'.av n) L'.fn N
 |[],F,F',L,L',ps,h,_=>by cases h;exact cU.rfl
 |d::ds,F,F',L,L',ps,h,hp=>by
  unfold pC at h;split at h
  .rename_i p1 F1 L1 h1;split at h;rename_i qs r h2;cases h;have w1:=R9 (n:=n) (N:=N) h1 λp hq=>hp p (by grind);have w2:=yn (n:=n) (N:=N) h2 λp hq=>hp p (by grind);exact λC0 B wI a w hst=>w2 C0 B wI a w (w1 C0 B wI a w hst)
  .exact yn h hp
def Sp{d:Nat}{F F':Frm}{L L':aM}{ps:List Prop}(h:tI d F L=some (ps,F',L')):(∃p,F'=p++F)/\∃q,L'=q++L:=by
 unfold tI at h;split at h
 .split at h
  case h_2=>cases h
  split at h<;>cases h;exact⟨⟨[_],rfl⟩,⟨[_],rfl⟩⟩
 .split at h<;>cases h;exact⟨⟨[_],rfl⟩,⟨[_],rfl⟩⟩
 .cases h
def zV:∀{ds:List Nat} {F F':Frm} {L L':aM} {ps:List Prop},pC ds F L=(ps,F',L')->(∃p,F'=p++F)/\∃q,L'=q++L
 |[],F,F',L,L',ps,h=>by cases h;simp_all
 |d::ds,F,F',L,L',ps,h=>by
  unfold pC at h;split at h
  .rename_i p1 F1 L1 h1;split at h;rename_i qs r h2;obtain⟨⟨p,e1⟩,⟨q,e2⟩⟩:=Sp h1;obtain⟨⟨p',e3⟩,⟨q',e4⟩⟩:=zV h2;grind
  .exact zV h
end
noncomputable section
inductive Ann:Type 1
 |mk (Y:Type) (wit:Frm->aM->Option Y) (rk:List Nat) (inv:Y->List Prop) (upd:Y->Frm) (obs:Y->List (Nat×SOb)) (mu:Y->Nat) (inner:Y->List (Nat×Ann))
def Lb:List (Nat×Ann)->Nat->Option Ann
 |[],_=>none
 |(k,a)::l,x=>match af x k with|true=>some a|false=>Lb l x
def asg:Code->List Nat
 | .region _ ops _=>ops.toList.filterMap (·.dst)
 | .seq a b=>asg a++asg b
 | .cond _ t e=>asg t++asg e
 | .block _ c=>asg c
 | .loop c=>asg c
 | .scope c=>asg c
 |_=>[]
def nI:Code->Option Nat
 | .region id _ _=>some id
 | .seq a b=>(match nI a with|some k=>some k|none=>nI b)
 | .cond _ t e=>(match nI t with|some k=>some k|none=>nI e)
 | .block _ c=>nI c
 | .loop c=>nI c
 | .scope c=>nI c
 |_=>none
def Bq(A:List (Nat×Ann))(c:Code)(j:Nat):Option Ann:=match nI c with
 |some k=>Lb A (k+j)
 |none=>none
def gZ(N:Nat):List Nat->Nat
 |[] =>N
 |s::l=>(match dB (ncl s) (gZ N l)with|true=>gZ N l|false=>ncl s+1)
abbrev jk:=Exit->Frm->aM->Nat->Fm
def Bt(X:Cx)(n:Nat)(raw:Nat->Nat->Bool)(id:Nat)(ops:List Oper)(draw:Bool)(F:Frm)(L:aM)(N:Nat)(K:Frm->aM->Fm):Fm:=match draw with
 |true=>(match X.P.follows .mixedOrders,qW ops (oe ops),dOk ops n with
  |true,true,true=>dX X n (raw id) N (ops.map (·.dst)) ops 0 F L [] λF L log=>(match mw (oe ops) log with|true=>K F L|false=> .stuck (id+100000))
  |_,_,_=> .stuck (id+200000))
 |false=>(match gOk ops with
  |true=>dX X n (raw id) N (ops.map (·.dst)) ops 0 F L [] λF L _=>K F L
  |false=> .stuck (id+300000))
def tz(n:Nat)(F:Frm)(L:aM)(N:Nat)(rk:List Nat)(upd:Frm)(obs:List (Nat×SOb))(qs:List Prop)(F':Frm)(L':aM):Fm:=match pC (CF upd) F' L' with
 |(pz,F0,La)=>match o7 (CG obs) La with
  |(pb,L0)=>match oi NM 100 (Av L0) F0 L0 with
   |(p0,F1,L1)=>(match co (λq:Nat×SV=>mem ((F'.take (F'.length-F.length)).map (·.1)) q.1) (F1.take (F1.length-F'.length)),wX n L N (gZ N rk) rk upd obs F1 L1 with
    |true,some ps=>needs (pz++(pb++(p0++(ps++qs)))) .tt
    |_,_=> .stuck 400000)
def exq{Y:Type}(w:Option Y)(f:Y->Fm):Fm:=match w with
 |some y=>f y
 |none=> .ex Y f
def yt{Y:Type}{w:Option Y}{f:Y->Fm}(h:(exq w f).holds):∃y,(f y).holds:=by
 cases w with
 |some y=>exact⟨y,h⟩
 |none=>exact h
def Io(A:List (Nat×Ann))(c:Code):Nat->Option Nat
 |0=>none
 |k+1=>(match Bq A c (30001+k)with|some _=>some (k+1)|none=>Io A c k)
def unr(body:jk->Frm->aM->Nat->Fm)(Q:jk):Nat->Frm->aM->Nat->Fm
 |0,_,_,_=> .stuck 810000
 |k+1,F,L,N=>body (λe F' L' N'=>match e with| .normal=>unr body Q k F' L' N'|e=>Q e F' L' N') F L N
abbrev Inl:=Nat->List SV->Frm->Nat->aM->Nat->(SV->aM->Nat->Fm)->Fm
def wU:Inl:=λ_ _ _ _ _ _ _=> .stuck 990000
inductive Spl where
 |call (f:Nat) (args:List Operand)
 |isnil (t:TypeId) (x y:Operand)
 |clo (t:Nat) (args:List Operand)
def km(X:Cx)(o:Oper):Option Spl:=match o.guard,o.op with
 |none,.call {callee:= .value (.func f),args, .. }=>(match X.inl f with|true=>some (.call f args.toList)|false=>none)
 |none,.call {callee:= .value (.tmp t),args, .. }=>(match X.inl 1000045 with|true=>some (.clo t args.toList)|false=>none)
 |none,.binOp .eql t x y _=>(match X.inl 1000044,br 0 [] y with|true,.nil=>some (.isnil t x y)|_,_=>none)
 |_,_=>none
def tO(X:Cx):List Oper->Option (List Oper×Oper×Spl×List Oper)
 |[] =>none
 |o::l=>(match km X o with
  |some s=>some ([],o,s,l)
  |none=>(match tO X l with
   |some (pre,q,s,post)=>some (o::pre,q,s,post)
   |none=>none))
def SK{X:Cx}{o:Oper}{f:Nat}{args:List Operand}(h:km X o=some (.call f args)):∃c:Call,o.op= .call c/\c.callee= .value (.func f)/\c.args.toList=args:=by
 unfold km at h;split at h
 .rename_i hg ho;split at h<;>cases h;exact⟨_,ho,rfl,rfl⟩
 .split at h<;>cases h
 .split at h<;>cases h
 .cases h
def TH{X:Cx}{o:Oper}{t:Nat}{args:List Operand}(h:km X o=some (.clo t args)):∃c:Call,o.op= .call c/\c.callee= .value (.tmp t)/\c.args.toList=args:=by
 unfold km at h;split at h
 .split at h<;>cases h
 .rename_i hg ho;split at h<;>cases h;exact⟨_,ho,rfl,rfl⟩
 .split at h<;>cases h
 .cases h
def TG{X:Cx}{o:Oper}{t:TypeId}{x y:Operand}(h:km X o=some (.isnil t x y)):∃t',o.op= .binOp .eql t x y t':=by
 unfold km at h;split at h
 .split at h<;>cases h
 .split at h<;>cases h
 .rename_i hg ho;split at h<;>cases h;exact⟨_,ho⟩
 .cases h
def yC{X:Cx}{o:Oper}{s:Spl}(h:km X o=some s):o.guard=none:=by
 unfold km at h;split at h
 .assumption
 .assumption
 .assumption
 .cases h
def uo{X:Cx}:∀{ops pre:List Oper} {o:Oper} {s:Spl} {post:List Oper},tO X ops=some (pre,o,s,post)->ops=pre++o::post/\km X o=some s
 |[],_,_,_,_,h=>by cases h
 |x::l,pre,o,s,post,h=>by
  unfold tO at h;split at h
  .rename_i h1;cases h;exact⟨rfl,h1⟩
  .split at h
   .rename_i h1;cases h;obtain⟨e,h2⟩:=uo h1;exact⟨by rw[e];rfl,h2⟩
   .cases h
def qh(X:Cx)(I:Inl):Prop:=∀(f:Nat) (xs:List SV) (F:Frm) (n:Nat) (L:aM) (N:Nat) (K:SV->aM->Nat->Fm) (o:Oper) (c:Call) (fo:Operand) (caps:List AV),o.op= .call c->c.callee= .value fo->xT (c6 (F.av n) fo) f caps->c.args.toList.map (c6 (F.av n))++caps=avs xs->(I f xs F n L N K).holds->
 cX X.P o (F.av n) L.fn N λFA LA N'=>∃r L',r.ok/\FA=cF (F.av n) o.dst r.av/\LA=L'.fn/\dr L L'/\(K r L' N').holds
def FP(X:Cx):qh X wU:=λ_ _ _ _ _ _ _ _ _ _ _ _ _ _ _ h=>h.elim
abbrev jt:=Nat->List Oper->Bool->Frm->aM->Nat->(Frm->aM->Nat->Fm)->Option Fm
def lZ:jt:=λ_ _ _ _ _ _ _=>none
structure Inls where
 call:Inl
 hook:jt
def nU:Code->List (Nat×Array Oper×Bool)
 | .region id ops draw=>[(id,ops,draw)]
 | .seq a b=>nU a++nU b
 | .cond _ t e=>nU t++nU e
 | .block _ c=>nU c
 | .loop c=>nU c
 | .scope c=>nU c
 |_=>[]
def nQ(X:Cx)(I:Inls)(n:Nat)(raw:Nat->Bool)(ds:List (Option Nat)):Nat->List Oper->Nat->Frm->aM->Nat->(Frm->aM->Nat->Fm)->Fm
 |0,ops,i,F,L,N,K=>dX X n raw N ds ops i F L [] λF L _=>K F L N
 |k+1,ops,i,F,L,N,K=>(match tO X ops with
  |some (pre,o,.call f args,post)=>dX X n raw N ds pre i F L [] λF L _=>I.call f (args.map (br n F)) F n L (N+(i+pre.length)) λr L' N'=>nQ X I n raw ds k post (i+(pre.length+1)) (di n F o.dst r) L' N' K
  |some (pre,o,.clo t args,post)=>dX X n raw N ds pre i F L [] λF L _=>(match br n F (.tmp t)with
   | .fn f [] caps=>I.call f (args.map (br n F)++caps) F n L (N+(i+pre.length)) λr L' N'=>nQ X I n raw ds k post (i+(pre.length+1)) (di n F o.dst r) L' N' K
   |_=> .stuck 995001)
  |some (pre,o,.isnil t x y,post)=>dX X n raw N ds pre i F L [] λF L _=>(match br n F x,br n F y,(bp X.P t).isSome with
   | .lst _ l,.nil,true=> .both (.imp (l=[]) (nQ X I n raw ds k post (i+(pre.length+1)) (di n F o.dst (.lit true)) L (N+(i+pre.length)) K)) (nQ X I n raw ds k post (i+(pre.length+1)) (di n F o.dst (.lit false)) L (N+(i+pre.length)) K)
   |_,_,_=> .stuck 995000)
  |none=>dX X n raw N ds ops i F L [] λF L _=>K F L N)
def vc(X:Cx)(I:Inls)(n:Nat)(raw:Nat->Nat->Bool):Code->(Nat->Bool)->List (Nat×Ann)->jk->Frm->aM->Nat->Fm
 | .skip,_,_,Q,F,L,N=>Q .normal F L N
 | .region id ops draw,_,_,Q,F,L,N=>(match I.hook id ops.toList draw F L N λF L N=>Q .normal F L N with
  |some f=>f
  |none=>(match draw,tO X ops.toList with
   |false,some _=>nQ X I n (raw id) (ops.toList.map (·.dst)) 6 ops.toList 0 F L N λF L N=>Q .normal F L (N+ops.size)
   |_,_=>Bt X n raw id ops.toList draw F L N λF L=>Q .normal F L (N+ops.size)))
 | .seq a b,al,A,Q,F,L,N=>(match Bq A b 10000 with
   |none=>vc X I n raw a al A (λe F L N=>match e with| .normal=>vc X I n raw b al A Q F L N|e=>Q e F L N) F L N
   |some (.mk Y wit rk inv upd obs _ inner)=>(match co al (hU F rk N F)with
    |true=> .both
     (vc X I n raw a (mem (asg a)) A (λe F1 L1 N1=>match e with| .normal=>exq (wit F1 L1) λy=>tz n F L N rk (upd y) (obs y) (inv y) F1 L1|e=>Q e F1 L1 N1) F L N)
     (.all Y λy=>CC (inv y) (match co (λq=>mem (asg a++hU F rk N F) q.1) (upd y)with
       |true=>vc X I n raw b al (inner y++A) Q (iu F (upd y) (asg a++hU F rk N F)) (gO L (obs y)) (gZ N rk)
       |false=> .stuck 500000))
    |false=> .stuck 600000))
 | .cond c t e,al,A,Q,F,L,N=>(match br n F c with
   | .lit true=>vc X I n raw t al A Q F L N
   | .lit false=>vc X I n raw e al A Q F L N
   | .prop p _=> .both (.imp p (vc X I n raw t al A Q F L N)) (.imp (¬p) (vc X I n raw e al A Q F L N))
   | .bool b=> .both (.imp (b=true) (vc X I n raw t al A Q F L N)) (.imp (b=false) (vc X I n raw e al A Q F L N))
   |_=> .stuck 700000)
 | .block id c,al,A,Q,F,L,N=>vc X I n raw c al A (λe F L N=>match e with| .exit id'=>(match af id' id with|true=>Q .normal F L N|false=>Q (.exit id') F L N)|e=>Q e F L N) F L N
 | .loop c,al,A,Q,F,L,N=>(match Bq A c 0 with
   |none=>(match Io A c 6 with
    |some k=>unr (λQ F L N=>vc X I n raw c al A Q F L N) Q k F L N
    |none=> .stuck 800000)
   |some (.mk Y wit rk inv upd obs mu inner)=>(match co al (hU F rk N F)with
    |true=> .both
     (exq (wit F L) λy=>tz n F L N rk (upd y) (obs y) (inv y) F L)
     (.all Y λx=>CC (inv x) (match co (λq=>mem (asg c++hU F rk N F) q.1) (upd x)with
       |true=>vc X I n raw c (mem (asg c)) (inner x++A) (λe F1 L1 N1=>match e with| .normal=>exq (wit F1 L1) λy=>tz n F L N rk (upd y) (obs y) (inv y++[mu y<mu x]) F1 L1|e=>Q e F1 L1 N1) (iu F (upd x) (asg c++hU F rk N F)) (gO L (obs x)) (gZ N rk)
       |false=> .stuck 500000))
    |false=> .stuck 600000))
 | .exit id,_,_,Q,F,L,N=>Q (.exit id) F L N
 | .ret,_,_,Q,F,L,N=>Q .ret F L N
 | .scope c,al,A,Q,F,L,N=>vc X I n raw c al A (λe F L N=>match e with| .goto _=> .stuck 910001|e=>Q e F L N) F L N
 | .label _,_,_,Q,F,L,N=>Q .normal F L N
 |_,_,_,_,_,_,_=> .stuck 900000
def eB.mono{n:Nat}{S T:Nat->Prop}{F:Frm}{L:aM}{FA:List AV}{LA:Sto}{G H:Frm->aM->Prop}(hS:∀d,S d->T d)(hG:∀F L,F.ok->G F L->H F L)(h:eB n S F L FA LA G):eB n T F L FA LA H:=by obtain⟨F',L',a,b,c,d,e,f⟩:=h;exact⟨F',L',a,b,c,d.mono hS,e,hG F' L' c f⟩
def least{p:Nat->Prop}(h:∃k,p k):∃k,p k/\∀j,p j->k<=j:=by
 obtain⟨k,hk⟩:=h;induction k using Nat.strongRecOn with
 |ind k ih=>
  grind
def Eb{F upd:Frm}{hav:List Nat}:Pre (λd=>d∈upd.map (·.1)\/d∈hav) F (iu F upd hav):=by refine⟨upd++(hav.map λd=>(d,SV.any)),by unfold iu;simp,λq hq=> ?_⟩;grind
def yl{L:aM}{obs:List (Nat×SOb)}:dr L (gO L obs):=⟨_,rfl⟩
def Fk{F upd:Frm}{hav:List Nat}(hF:F.ok)(hu:∀q∈upd,q.2.ok):(iu F upd hav).ok:=by
 intro t;unfold iu;rw[Frm.lQ,Frm.lQ];split
 .split
  .rename_i h;exact hu _ (wj h)
  .rw[JL];split<;>trivial
 .exact hF t
def HK{n:Nat}{F':Frm}:∀{upd:Frm} {ps:List Prop} {r:Rm},qr n F' upd=some (ps,r)->∀q∈upd,q.2.ok
 |[],ps,r,_,q,hq=>by cases hq
 |(d,v)::upd,ps,r,h,q,hq=>by
  unfold qr at h;split at h<;>cases h;rename_i p1 m1 p2 m2 h1 h2 h3 h4;rcases bh.1 hq with rfl|hq
  .exact SV.jh h2
  .exact HK h4 q hq
def AL{n:Nat}{F F' upd:Frm}{L L':aM}{N N':Nat}{rk:List Nat}{obs:List (Nat×SOb)}{hav:List Nat}{qs:List Prop}(h:(tz n F L N rk upd obs qs F' L').holds)
  (hF:Pre (λd=>d∈hav) F F') (hbad:∀d∈hU F rk N F,d∈hav) (hL:dr L L'):
  cU (F'.av n) L'.fn N' ((iu F upd hav).av n) (gO L obs).fn (gZ N rk)/\(∀p∈qs,p)/\∀q∈upd,q.2.ok:=by
 unfold tz at h;split at h;rename_i pz F0 La hz;split at h;rename_i pb L0 hb;split at h;rename_i p0 F1 L1 h0;split at h
 .rename_i ps hc hm;have hp:=(j8 h).1;obtain⟨⟨pa,ea1⟩,⟨qa,ea2⟩⟩:=yX h0;obtain⟨⟨pb',eb1⟩,⟨qb,eb2⟩⟩:=zV hz;obtain⟨qc,ec2⟩:=yo hb;obtain⟨p,e1⟩:∃p,F1=p++F':=by grind
  obtain⟨q,e2⟩:∃q,L1=q++L':=by grind
  have wz1:=yn (n:=n) (N:=N') hz λp hpp=>hp p (by grind);have wz2:=yV (n:=n) (N:=N') (F:=F0) hb λp hpp=>hp p (by grind);have wz:cU (F'.av n) L'.fn N' (F0.av n) L0.fn N':=λC0 B wI a w hst=>wz2 C0 B wI a w (wz1 C0 B wI a w hst);have hp:∀p∈p0++(ps++qs),p:=λp hpp=>hp p (by grind);have hF1:Pre (λd=>d∈hav) F F1:=by
   obtain⟨pre,e3,hpre⟩:=hF;refine⟨p++pre,by grind,λr hr=> ?_⟩;rcases d7.1 hr with hr|hr
   .have:=dE hc r (by rw[e1,show(p++F').length-F'.length=p.length by simp,uV];exact hr);obtain⟨r',h1,h2⟩:=cC.1 ((mem_iff _ _).1 this);grind
   .grind
  have hL1:dr L L1:=by obtain⟨pre,e3⟩:=hL;exact⟨q++pre,by grind⟩
  have hps:∀p∈ps,p:=λp hpp=>hp p (by grind);refine⟨?_,λp hpp=>hp p (by grind),?_⟩
  .rcases yJ (n:=n) h0 (λp hpp=>hp p (by grind)) N' with⟨_,f1,f2⟩|w
   .have:=ES (N':=N') hm hps hF1 hbad hL1;rw[f1,f2]at this;exact λC0 B wI a w' hst=>this C0 B wI a w' (wz C0 B wI a w' hst)
   .have:=ES (N':=NM) hm hps hF1 hbad hL1;exact λC0 B wI a w' hst=>this C0 B wI a w' (w C0 B wI a w' (wz C0 B wI a w' hst))
  unfold wX at hm;split at hm
  .cases hm
  .rename_i h1;exact HK h1
 .exact h.elim
def GM{X:Cx}(hX:X.Ok){n:Nat}{raw:Nat->Nat->Bool}{id:Nat}{ops:Array Oper}{draw:Bool}{F:Frm}{L:aM}{N:Nat}{K:Frm->aM->Fm}(hF:F.ok)(h:(Bt X n raw id ops.toList draw F L N K).holds):
  xR X.P draw ops.toList (F.av n) L.fn N λFA LA=>eB n (λd=>d∈asg (.region id ops draw)) F L FA LA λF' L'=>(K F' L').holds:=by
 have hd:∀o∈ops.toList,o.dst∈ops.toList.map (·.dst):=by grind
 have hS:∀d,some d∈ops.toList.map (·.dst)->d∈asg (.region id ops draw):=by intro d hd;obtain⟨o,ho,e⟩:=cC.1 hd;exact jx.2 ⟨o,ho,e⟩
 unfold Bt at h;split at h
 .split at h
  .rename_i h1 h2 h3;refine⟨_,h1,h2,by rw[Frm.dv];exact h3,?_⟩;refine dw ?_ (iC hX ops.toList 0 F L [] hd hF h);intro FA LA log ht;have hf:mw (oe ops.toList) log=true:=by
    obtain⟨_,_,_,_,_,_,_,hh⟩:=ht;split at hh
    .assumption
    .exact hh.elim
   refine⟨hf,ht.mono hS λF L _ hh=> ?_⟩;grind
  .exact h.elim
 .split at h
  .rename_i h1;exact⟨h1,dw (λ_ _ _ ht=>ht.mono hS λ_ _ _ h=>h) (iC hX ops.toList 0 F L [] hd hF h)⟩
  .exact h.elim
def vj{X:Cx}(hX:X.Ok){I:Inls}(hI:qh X I.call){n:Nat}{raw:Nat->Bool}{ds:List (Option Nat)}{K:Frm->aM->Nat->Fm}:∀(k:Nat) (ops:List Oper) (i:Nat) (F:Frm) (L:aM) (N:Nat),(∀o∈ops,o.dst∈ds)->F.ok->(nQ X I n raw ds k ops i F L N K).holds->
  kP X.P ds k ops i (F.av n) L.fn N λFA LA N'=>eB n (λd=>some d∈ds) F L FA LA λF' L'=>(K F' L' N').holds
 |0,ops,i,F,L,N,hd,hF,h=>iC hX ops i F L [] hd hF h
 |k+1,ops,i,F,L,N,hd,hF,h=>by
  unfold nQ at h;split at h
  .rename_i pre o f args post hin;obtain⟨e1,e6⟩:=uo hin;have e2:=yC e6;obtain⟨c,e3,e4,e5⟩:=SK e6;refine .inr ⟨pre,o,post,e1,e2,dw ?_ (iC hX pre i F L [] (λo' ho=>hd o' (by rw[e1];exact fu _ ho)) hF h)⟩;rintro FA LA log ⟨F',L',rfl,rfl,hF',hpre,hpreL,hh⟩;refine(hI f _ F' n L' _ _ o c (.func f) [] e3 e4 (.inr ⟨[],rfl,rfl⟩) ?_ hh).mono ?_
   .rw[e5,fy,gS,List.append_nil];exact mI λx _=>(eG x).symm
   .rintro FA LA N' ⟨r,L2,hr,rfl,rfl,hpl,hq⟩;have hg:=vj hX hI k post (i+(pre.length+1)) _ _ _ (λo' ho=>hd o' (by rw[e1];exact ff _ (dR _ ho))) (mg hF' hr) hq;rw[ik];refine pZ ?_ hg;intro FA LA N' ht;exact(ht.step (pi λt ht=>by rw[<-ht];exact hd o (by rw[e1];simp)) hpl).step hpre hpreL
  .rename_i pre o t args post hin;obtain⟨e1,e6⟩:=uo hin;have e2:=yC e6;obtain⟨c,e3,e4,e5⟩:=TH e6;refine .inr ⟨pre,o,post,e1,e2,dw ?_ (iC hX pre i F L [] (λo' ho=>hd o' (by rw[e1];exact fu _ ho)) hF h)⟩;rintro FA LA log ⟨F',L',rfl,rfl,hF',hpre,hpreL,hh⟩;split at hh
   case h_2=>exact hh.elim
   rename_i f caps hf;refine(hI f _ F' n L' _ _ o c (.tmp t) (avs caps) e3 e4 (.inl ?_) ?_ hh).mono ?_
   .rw[<-eG,hf];rfl
   .rw[e5,lN];refine congrArg (λu=>u++avs caps) ?_;rw[fy,gS];exact mI λx _=>(eG x).symm
   .rintro FA LA N' ⟨r,L2,hr,rfl,rfl,hpl,hq⟩;have hg:=vj hX hI k post (i+(pre.length+1)) _ _ _ (λo' ho=>hd o' (by rw[e1];exact ff _ (dR _ ho))) (mg hF' hr) hq;rw[ik];refine pZ ?_ hg;intro FA LA N' ht;exact(ht.step (pi λt ht=>by rw[<-ht];exact hd o (by rw[e1];simp)) hpl).step hpre hpreL
  .rename_i pre o t x y post hin;obtain⟨e1,e6⟩:=uo hin;have e2:=yC e6;obtain⟨t',e3⟩:=TG e6;refine .inr ⟨pre,o,post,e1,e2,dw ?_ (iC hX pre i F L [] (λo' ho=>hd o' (by rw[e1];exact fu _ ho)) hF h)⟩;rintro FA LA log ⟨F',L',rfl,rfl,hF',hpre,hpreL,hh⟩;split at hh
   case h_2=>exact hh.elim
   rename_i lt l hx hy ht;obtain⟨hh1,hh2⟩:=Fm.lM hh;have fin:∀r:SV,r.ok->(nQ X I n raw ds k post (i+(pre.length+1)) (di n F' o.dst r) L' (N+(i+pre.length)) K).holds->
     kP X.P ds k post (i+(pre.length+1)) (cF (F'.av n) o.dst r.av) L'.fn (N+(i+pre.length)) λFA LA N'=>eB n (λd=>some d∈ds) F L FA LA λF' L'=>(K F' L' N').holds:=by
    intro r hr hq;have hg:=vj hX hI k post (i+(pre.length+1)) _ _ _ (λo' ho=>hd o' (by rw[e1];exact ff _ (dR _ ho))) (mg hF' hr) hq;rw[ik];refine pZ ?_ hg;intro FA LA N' ht;exact(ht.step (pi λt ht=>by rw[<-ht];exact hd o (by rw[e1];simp)) dr.rfl).step hpre hpreL
   refine VS (m:=l.length) (cs:=lt.enc l) e3 ht (by rw[<-eG,hx];rfl) (by rw[<-eG,hy];rfl) (λhm _=> ?_) ?_
   .exact fin (.lit true) trivial ((hh1:l=[]->_) (iZ.1 hm))
   .exact fin (.lit false) trivial hh2
  .exact .inl (iC hX ops i F L [] hd hF h)
def wk(X:Cx)(n:Nat)(H:jt)(r:Nat×Array Oper×Bool):Prop:=∀(F:Frm) (L:aM) (N:Nat) (K:Frm->aM->Nat->Fm) (f:Fm),H r.1 r.2.1.toList r.2.2 F L N K=some f->f.holds->F.ok->
 awp X.P (.region r.1 r.2.1 r.2.2) (λe FA LA N'=>e= .normal/\eB n (λd=>d∈asg (.region r.1 r.2.1 r.2.2)) F L FA LA λF' L'=>(K F' L' N').holds) (F.av n) L.fn N
def nD(X:Cx)(n:Nat)(H:jt)(c:Code):Prop:=∀r∈nU c,wk X n H r
def mQ(X:Cx)(n:Nat)(c:Code):nD X n lZ c:=λ_ _ _ _ _ _ _ h=>by cases h
def y3{X:Cx}(hX:X.Ok){I:Inls}(hI:qh X I.call){n:Nat}{raw:Nat->Nat->Bool}:∀(c:Code),nD X n I.hook c->∀(al:Nat->Bool) (A:List (Nat×Ann)) (Q:jk) (F:Frm) (L:aM) (N:Nat),(∀d∈asg c,al d=true)->F.ok->(vc X I n raw c al A Q F L N).holds->
  awp X.P c (λe FA LA N'=>eB n (λd=>al d=true) F L FA LA λF' L'=>(Q e F' L' N').holds) (F.av n) L.fn N:=by
 intro c;induction c with
 |skip=>intro hH al A Q F L N hal hF h;exact⟨F,L,rfl,rfl,hF,Pre.rfl,dr.rfl,h⟩
 |region id ops draw=>
  intro hH al A Q F L N hal hF h;unfold vc at h;split at h
  .rename_i f hf;have hS:∀d,d∈asg (.region id ops draw)->al d=true:=λd hd=>hal d hd;refine gi _ ?_ (hH _ (bO.2 rfl) F L N _ f hf h hF);rintro e FA LA N' ⟨rfl,ht⟩;exact ht.mono hS λ_ _ _ h=>h
  cases draw with
  |true=>
   have:=GM (draw:=true) hX hF h;left;obtain⟨anc,h1,h2,h3,h4⟩:=this;exact⟨anc,h1,h2,h3,dw (λF L log ⟨a,b⟩=>⟨a,b.mono hal λ_ _ _ h=>h⟩) h4⟩
  |false=>
  split at h
  .have hS:∀d,some d∈ops.toList.map (·.dst)->al d=true:=by intro d hd;obtain⟨o',ho,e⟩:=cC.1 hd;exact hal d (jx.2 ⟨o',ho,e⟩)
   refine .inr (.inl ⟨rfl,_,pZ ?_ (vj hX hI 6 ops.toList 0 F L N (by grind) hF h)⟩);intro FA LA N' ht;exact⟨_,_,_,cU.rfl,ht.mono hS λ_ _ _ h=>h⟩
  .have:=GM (draw:=false) hX hF h;left;obtain⟨h1,h2⟩:=this;exact⟨h1,dw (λF L log b=>b.mono hal λ_ _ _ h=>h) h2⟩
 |seq a b iha ihb=>
  intro hH al A Q F L N hal hF h;have hala:∀d∈asg a,al d=true:=λd hd=>hal d (fu _ hd);have halb:∀d∈asg b,al d=true:=λd hd=>hal d (ff _ hd);unfold vc at h;split at h
  .have h1:=iha (λr hr=>hH r (fu _ hr)) al A _ F L N hala hF h;refine⟨λFA LA N'=>eB n (λd=>al d=true) F L FA LA λF' L'=>(vc X I n raw b al A Q F' L' N').holds,gi a ?_ h1,?_⟩
   .grind
   .rintro FA LA N' ⟨F',L',rfl,rfl,hF',hpre,hpreL,hh⟩;refine⟨_,_,_,cU.rfl,gi b ?_ (ihb (λr hr=>hH r (ff _ hr)) al A Q F' L' N' halb hF' hh)⟩;intro e FA LA N' ht;exact ht.step hpre hpreL
  .rename_i Y wit rk inv upd obs mu inner hA;split at h
   case h_2=>exact h.elim
   rename_i hbad;have hbad:=dE hbad;obtain⟨h1,h2⟩:=Fm.lM h;have hmem:∀d,mem (asg a) d=true->d∈asg a:=λd=>(mem_iff d _).1;have h1:=iha (λr hr=>hH r (fu _ hr)) (mem (asg a)) A _ F L N (λd hd=>(mem_iff _ _).2 hd) hF h1;refine Ri (λFA LA N'=>∃y,(∀p∈inv y,p)/\(∀q∈upd y,q.2.ok)/\FA=(iu F (upd y) (asg a++hU F rk N F)).av n/\LA=(gO L (obs y)).fn/\N'=gZ N rk) (gi a ?_ h1) ?_
   .intro e FA LA N' ht;cases e
    case normal=>
     obtain⟨F',L',rfl,rfl,hF',hpre,hpreL,hh⟩:=ht;obtain⟨y,hh⟩:=yt hh;obtain⟨k1,k2,k3⟩:=AL (N':=N') (hav:=asg a++hU F rk N F) hh (hpre.mono (by grind)) (by grind) hpreL;grind
    all_goals exact ht.mono (by grind) λ_ _ _ h=>h
   .rintro FA LA N' ⟨y,hy,hok,rfl,rfl,rfl⟩;have h2:=D6 ((h2:∀y:Y,Fm.holds _) y) hy;split at h2
    case h_2=>exact h2.elim
    rename_i hu;have hu:=dE hu;refine gi b ?_ (ihb (λr hr=>hH r (ff _ hr)) al (inner y++A) Q _ _ _ halb (Fk hF hok) h2);intro e FA LA N' ht;refine ht.step (Eb.mono ?_) yl;rintro d (hd|hd)
    .obtain⟨q,hq,rfl⟩:=cC.1 hd;rcases d7.1 ((mem_iff _ _).1 (hu q hq))with hd|hd
     .grind
     grind
    grind
 |cond c t e iht ihe=>
  intro hH al A Q F L N hal hF h;have halt:∀d∈asg t,al d=true:=λd hd=>hal d (fu _ hd);have hale:∀d∈asg e,al d=true:=λd hd=>hal d (ff _ hd);unfold vc at h;have ev:∀v,br n F c=v->c6 (F.av n) c=v.av:=λv hv=>by rw[<-eG,hv]
  split at h
  .rename_i hc;exact⟨true,ev _ hc,λ_=>iht (λr hr=>hH r (fu _ hr)) al A Q F L N halt hF h,λhh=>by cases hh⟩
  .rename_i hc;exact⟨false,ev _ hc,(λhh=>by cases hh),λ_=>ihe (λr hr=>hH r (ff _ hr)) al A Q F L N hale hF h⟩
  .rename_i p d hc;obtain⟨h1,h2⟩:=Fm.lM h;refine⟨@decide p d,ev _ hc,λhh=>iht (λr hr=>hH r (fu _ hr)) al A Q F L N halt hF ((h1:p->_) (by grind)),λhh=>ihe (λr hr=>hH r (ff _ hr)) al A Q F L N hale hF ((h2:¬p->_) (by grind))⟩
  .rename_i b hc;obtain⟨h1,h2⟩:=Fm.lM h;exact⟨b,ev _ hc,λhh=>iht (λr hr=>hH r (fu _ hr)) al A Q F L N halt hF ((h1:b=true->_) hh),λhh=>ihe (λr hr=>hH r (ff _ hr)) al A Q F L N hale hF ((h2:b=false->_) hh)⟩
  .exact h.elim
 |block id c ih=>
  intro hH al A Q F L N hal hF h;have:=ih hH al A _ F L N hal hF h;refine gi c ?_ this;intro e FA LA N' ht;cases e
  case exit id'=>
   dsimp only at ht|-;cases hb:af id' id with
   |true=>
    simp_all
   |false=>
    rw[if_neg (fw hb)];grind
  all_goals exact ht
 |loop c ih=>
  intro hH al A Q F L N hal hF h;unfold vc at h;split at h
  .split at h
   case h_2=>exact h.elim
   rename_i k0 _
   let rep:Nat->List AV->Sto->Nat->Prop:=λk FA LA N'=>eB n (λd=>al d=true) F L FA LA λF' L'=>(unr (λQ F L N=>vc X I n raw c al A Q F L N) Q k F' L' N').holds
   have hmu:∃μ:List AV->Sto->Nat->Nat,∀FA LA N',(∃k,rep k FA LA N')->rep (μ FA LA N') FA LA N'/\∀k,rep k FA LA N'->μ FA LA N'<=k:=by
    have:∀FA LA N',∃k,(∃k,rep k FA LA N')->rep k FA LA N'/\∀j,rep j FA LA N'->k<=j:=by
     intro FA LA N';by_cases hh:∃k,rep k FA LA N'
     .obtain⟨k,h1,h2⟩:=least hh;exact⟨k,by grind⟩
     .simp_all
    exact⟨λFA LA N'=>Classical.choose (this FA LA N'),λFA LA N'=>Qf (this FA LA N')⟩
   obtain⟨μ,hμ⟩:=hmu;refine Em (λFA LA N'=>∃k,rep k FA LA N') μ ⟨_,_,_,cU.rfl,k0,⟨F,L,rfl,rfl,hF,Pre.rfl,dr.rfl,h⟩⟩ ?_;intro FA LA N' hr;have hk:=(hμ FA LA N' hr).1;generalize hkk:μ FA LA N'=k at hk|-;obtain⟨F',L',rfl,rfl,hF',hpre,hpreL,hh⟩:=hk;cases k with
   |zero=>exact hh.elim
   |succ k=>
    refine gi c ?_ (ih hH al A _ F' L' N' hal hF' hh);intro e FA LA N2 ht;have ht:=ht.step hpre hpreL;cases e
    case normal=>
     have hr2:rep k FA LA N2:=ht;exact⟨_,_,_,cU.rfl,⟨k,hr2⟩,Nat.lt_succ_of_le ((hμ _ _ _ ⟨k,hr2⟩).2 k hr2)⟩
    all_goals exact ht
  rename_i Y wit rk inv upd obs mu inner hA;split at h
  case h_2=>exact h.elim
  rename_i hbad;have hbad:=dE hbad;obtain⟨h1,h2⟩:=Fm.lM h;obtain⟨y0,h1⟩:=yt h1;have hmem:∀d,mem (asg c) d=true->d∈asg c:=λd=>(mem_iff d _).1
  let hav:=asg c++hU F rk N F
  let rep:Y->List AV->Sto->Prop:=λy FA LA=>(∀p∈inv y,p)/\(∀q∈upd y,q.2.ok)/\FA=(iu F (upd y) hav).av n/\LA=(gO L (obs y)).fn
  obtain⟨k1,k2,k3⟩:=AL (N':=N) (hav:=hav) h1 Pre.rfl (by grind) dr.rfl;have hmu:∃μ:List AV->Sto->Nat,∀FA LA,(∃y,rep y FA LA)->∃y,rep y FA LA/\mu y=μ FA LA/\∀z,rep z FA LA->μ FA LA<=mu z:=by
   have:∀FA LA,∃k,(∃y,rep y FA LA)->∃y,rep y FA LA/\mu y=k/\∀z,rep z FA LA->k<=mu z:=by
    intro FA LA;by_cases hh:∃y,rep y FA LA
    .obtain⟨y,hy⟩:=hh;obtain⟨k,⟨z,hz,e⟩,hk⟩:=least (p:=λk=>∃y,rep y FA LA/\mu y=k) ⟨_,y,hy,rfl⟩;exact⟨k,by grind⟩
    .exact⟨0,by grind⟩
   exact⟨λFA LA=>Classical.choose (this FA LA),λFA LA=>Qf (this FA LA)⟩
  obtain⟨μ,hμ⟩:=hmu;refine WC (λFA LA N'=>(∃y,rep y FA LA)/\N'=gZ N rk) μ (by grind) ?_;rintro FA LA N' ⟨hr,rfl⟩;obtain⟨x,⟨hx,hok,rfl,rfl⟩,hmx,_⟩:=hμ FA LA hr;have h2:=D6 ((h2:∀x:Y,Fm.holds _) x) hx;split at h2
  case h_2=>exact h2.elim
  rename_i hu;have hu:=dE hu;have hpre0:Pre (λd=>d∈hav) F (iu F (upd x) hav):=by
   refine Eb.mono ?_;rintro d (hd|hd)
   .obtain⟨q,hq,rfl⟩:=cC.1 hd;exact(mem_iff _ _).1 (hu q hq)
   .exact hd
  refine gi c ?_ (ih hH (mem (asg c)) (inner x++A) _ _ _ _ (λd hd=>(mem_iff _ _).2 hd) (Fk hF hok) h2);intro e FA' LA' N' ht;have up:∀(G:Frm->aM->Prop),eB n (λd=>mem (asg c) d=true) (iu F (upd x) hav) (gO L (obs x)) FA' LA' G->eB n (λd=>al d=true) F L FA' LA' G:=by
   intro G ht;refine(ht.mono (λd hd=>hal d (hmem d hd)) λ_ _ _ h=>h).step (hpre0.mono ?_) yl;intro d hd;rcases d7.1 hd with hd|hd
   .exact hal d hd
   .grind
  cases e
  case normal=>
   obtain⟨F',L',rfl,rfl,hF',hpre,hpreL,hh⟩:=ht;obtain⟨y,hh⟩:=yt hh;obtain⟨k1,k2,k3⟩:=AL (N':=N') (hav:=hav) hh (hpre0.trans (hpre.mono (by grind))) (by grind) (yl.trans hpreL);have hry:rep y ((iu F (upd y) hav).av n) (gO L (obs y)).fn:=⟨λp h=>k2 p (by grind),k3,rfl,rfl⟩;refine⟨_,_,_,k1,by grind,?_⟩;obtain⟨z,_,ez,hz⟩:=hμ _ _ ⟨y,hry⟩;have g1:=hz y hry;have g2:mu y<mu x:=k2 _ (by grind);omega
  all_goals exact up _ ht
 |exit id=>intro hH al A Q F L N hal hF h;exact⟨F,L,rfl,rfl,hF,Pre.rfl,dr.rfl,h⟩
 |ret=>intro hH al A Q F L N hal hF h;exact⟨F,L,rfl,rfl,hF,Pre.rfl,dr.rfl,h⟩
 |rangeFunc f params x y _ _=>intro hH al A Q F L N hal hF h;exact h.elim
 |scope c ih=>
  intro hH al A Q F L N hal hF h;refine gi c ?_ (ih hH al A _ F L N hal hF h);intro e FA LA N' ht;cases e<;>first|exact ht|(obtain⟨_,_,_,_,_,_,_,hh⟩:=ht;exact hh.elim)
 |label l=>intro hH al A Q F L N hal hF h;exact⟨F,L,rfl,rfl,hF,Pre.rfl,dr.rfl,h⟩
 |goto l=>intro hH al A Q F L N hal hF h;exact h.elim
 |refuse s=>intro hH al A Q F L N hal hF h;exact h.elim
end
noncomputable section
def kN(P:Program)(n:Nat)(F:Frm)(σ:Sg):List ResultVar->Option (List SV)
 |[] =>some []
 | .tmp t::rs=>(match dB t n,kN P n F σ rs with|true,some l=>some (F.at t::l)|_,_=>none)
 | .cell a t::rs=>(match dB a n,F.at a,kN P n F σ rs with
   |true,.ptr s off,some l=>(match σ s with
    |some (.box _ cs)=>(match ko P t cs off with|some r=>some (r::l)|none=>none)
    |some (.arr _ _ cs)=>(match ko P t cs off with|some r=>some (r::l)|none=>none)
    |_=>none)
   |_,_,_=>none)
def lS{P:Program}{n:Nat}{F:Frm}{σ:Sg}:∀{rs:List ResultVar} {l:List SV} {K:List AV->Prop},kN P n F σ rs=some l->K (avs l)->fj P rs (F.av n) σ.a K
 |[],l,K,h,hK=>by cases h;exact hK
 | .tmp t::rs,l,K,h,hK=>by
   unfold kN at h;split at h<;>cases h;rename_i l' h1 h2;unfold fj;refine lS h2 ?_;rw[Frm.fU ((dU _ _).1 h1)];exact hK
 | .cell a t::rs,l,K,h,hK=>by
   unfold kN at h;split at h
   case h_2=>cases h
   rename_i s off l' h1 h2 h3;unfold fj;rw[Frm.fU ((dU _ _).1 h1),h2];split at h
   .rename_i ty cs hs;split at h<;>cases h;rename_i r hr;exact⟨_,by rw[Sg.bZ,hs];rfl,mW hr (lS h3 hK)⟩
   .rename_i ty ez cs hs;split at h<;>cases h;rename_i r hr;exact⟨_,by rw[Sg.bZ,hs];rfl,mW hr (lS h3 hK)⟩
   .cases h
def o9:List SV->SV
 |[x] =>x
 |l=> .tup l
def xL(P:Program)(n:Nat)(rs:List ResultVar)(r:SV)(F:Frm)(L:aM):Fm:=match kN P n F L.at rs with
 |some l=>(match gD (eT 3 L.at) l with
  |some (ps,m)=>(match eqv 3 r (o9 m)with
   |some (qs,[])=>needs (ps++qs) .tt
   |_=> .stuck 920000)
  |none=> .stuck 930000)
 |none=> .stuck 940000
def ww(P:Program)(n:Nat)(rs:List ResultVar)(r:SV):jk:=λe F L _=>match e with
 | .normal=>xL P n rs r F L
 | .ret=>xL P n rs r F L
 |_=> .stuck 910000
def zn{P:Program}{n:Nat}{rs:List ResultVar}{r:SV}{q:PV}(hr:r.av= .p q){e:Exit}{F:Frm}{L:aM}{N:Nat}(h:(ww P n rs r e F L N).holds):qj P rs q e (F.av n) L.fn N:=by
 have key:(xL P n rs r F L).holds->fj P rs (F.av n) L.fn λl=>∃m,cJ (ci 3 L.fn) l=some m/\jK m=q:=by
  intro h;unfold xL at h;split at h
  case h_2=>exact h.elim
  rename_i l hl;split at h
  case h_2=>exact h.elim
  rename_i ps m hm;split at h
  case h_2=>exact h.elim
  rename_i qs he;have hp:=(j8 h).1;have e2:Sg.a L.at=L.fn:=rfl;rw[<-e2];refine lS hl ?_;obtain⟨u,h1,h2⟩:=p7 (λx ps y=>rn) hm (λp hpp=>hp p (by grind));refine⟨u,h1,?_⟩;have h3:=sW (m:=λ_=>none) 3 r (o9 m) qs [] he (λp hpp=>hp p (by grind)) (λq hq=>by cases hq);rw[hr]at h3;unfold dh at h3;have h4:(o9 m).av= .p (jK u):=by
   cases m with
   |nil=>
    have:u=[] :=by have:=congrArg fe h2;simp[avs]at this;grind
    subst this;rfl
   |cons x m=>
    cases m with
    |nil=>
     cases u with
     |nil=>simp[avs]at h2
     |cons y u=>
      have h5:u=[] :=by have:=congrArg fe h2;simp only[avs,cO,List.length_cons,List.length_nil,dt]at this;grind
      subst h5;simp only[avs,cO,lI,mG,and_true]at h2;exact h2
    |cons y m=>
     have h5:(o9 (x::y::m)).av=iE (avs (x::y::m)):=rfl;rw[h5,h2];unfold iE;rw[cQ];cases u with
     |nil=>simp[avs]at h2
     |cons a u=>
      cases u with
      |nil=>simp[avs]at h2
      |cons b u=>rfl
  rw[h4]at h3;cases h3;rfl
 cases e<;>first|exact h.elim|exact key h
structure Ar(α:Type) where
 enc:α->SV
 dec:SV->Option α
 ok:∀s a,dec s=some a->s.av=(enc a).av
 pl:∀a,∃q,(enc a).av= .p q
structure Arl(α:Type) where
 enc:α->List SV
 dec:List SV->Option α
 ok:∀s a,dec s=some a->avs s=avs (enc a)
 pl:∀a,∃q:List PV,avs (enc a)=q.map .p
def a0:Arl Unit:=⟨λ_=>[],λl=>match l with|[] =>some ()|_=>none,by grind,λ_=>⟨[],rfl⟩⟩
def a1{α:Type}(A:Ar α):Arl α:=⟨λa=>[A.enc a],λl=>match l with|[x] =>A.dec x|_=>none,λs a h=>by
  match s,h with
  |[x],h=>simp only[avs,A.ok x a h],
 λa=>by obtain⟨q,h⟩:=A.pl a;exact⟨[q],by simp only[avs,h,cO,lI]⟩⟩
def ac{α β:Type}(A:Ar α)(B:Arl β):Arl (α×β):=⟨λa=>A.enc a.1::B.enc a.2,λl=>match l with
  |x::r=>(match A.dec x,B.dec r with|some a,some b=>some (a,b)|_,_=>none)
  |_=>none,λs a h=>by
  match s,h with
  |x::r,h=>
   dsimp only at h;split at h<;>cases h;rename_i a b h1 h2;simp only[avs,A.ok x a h1,B.ok r b h2],
 λa=>by obtain⟨q,h⟩:=A.pl a.1;obtain⟨r,k⟩:=B.pl a.2;exact⟨q::r,by simp only[avs,h,k,cO]⟩⟩
def aI:Ar Int:=⟨λn=> .int .i64 n,λs=>match s with| .int .i64 n=>some n|_=>none,by grind,λ_=>⟨_,rfl⟩⟩
def aN:Ar Nat:=⟨λn=> .int .i64 (n:Int),λs=>match s with| .int .i64 (.ofNat n)=>some n|_=>none,λ_ _ h=>by
 (split at h<;>cases h;rfl),λ_=>⟨_,rfl⟩⟩
def aB:Ar Bool:=⟨λb=> .bool b,td,λ_ _ h=>sG h,λ_=>⟨_,rfl⟩⟩
def aV:Ar V:=⟨λv=> .agg [.int .i64 v.x,.int .i64 v.y],λs=>match s with| .agg [.int .i64 x,.int .i64 y] =>some ⟨x,y⟩|_=>none,by grind,λ_=>⟨_,rfl⟩⟩
def aS:Ar Geo.S:=⟨λs=> .agg [.int .i64 s.a.x,.int .i64 s.a.y,.int .i64 s.b.x,.int .i64 s.b.y],λs=>match s with| .agg [.int .i64 x,.int .i64 y,.int .i64 z,.int .i64 w] =>some ⟨⟨x,y⟩,⟨z,w⟩⟩|_=>none,by grind,λ_=>⟨_,rfl⟩⟩
def aT:Ar Pt:=⟨λp=> .agg [.int .i64 p.x,.int .i64 p.y,.int .i64 p.den],λs=>match s with| .agg [.int .i64 x,.int .i64 y,.int .i64 z] =>some ⟨x,y,z⟩|_=>none,by grind,λ_=>⟨_,rfl⟩⟩
def iY(t:LT)(s:SV):Option (List t.ty):=match s with
 | .lst t' l=>(match decEq t' t with| .isTrue h=>some (h▸l)| .isFalse _=>none)
 | .sl 0 [] =>some []
 | .sl n cs=>t.decs n cs
 |_=>none
def jE{t:LT}{s:SV}{l:List t.ty}(h:iY t s=some l):s.av= .p (.sl l.length (t.enc l)):=by
 unfold iY at h;split at h
 .split at h
  .rename_i e _;subst e;cases h;rfl
  .cases h
 .cases h;rfl
 .rename_i n cs _;obtain⟨e1,e2⟩:=LT.oT h;show(match bK (avs cs)with|some q=>AV.p (.sl n q)|none=> .any)=_;rw[e2,cQ,e1]
 .cases h
def aL(t:LT):Ar (List t.ty):=⟨λl=> .lst t l,iY t,λ_ _ h=>jE h,λ_=>⟨_,rfl⟩⟩
def shD(s:SV):Option Shape:=match s with
 | .agg [r,h] =>(match iY .V r,iY .R h with|some o,some hs=>some ⟨o,hs⟩|_,_=>none)
 |_=>none
def X3(s:SV)(a:Shape)(h:shD s=some a):s.av=(SV.agg [.lst .V a.outer,.lst .R a.holes]).av:=by
 unfold shD at h;split at h
 .split at h<;>cases h;rename_i o hs h1 h2;simp only[SV.av,avs,jE h1,jE h2]
 .cases h
def aSh:Ar Shape:=⟨λs=> .agg [.lst .V s.outer,.lst .R s.holes],shD,X3,λ_=>⟨_,rfl⟩⟩
noncomputable def con{α:Type}(A:Arl α)(pre:α->List Prop)(res:α->SV):Con:=⟨α,A.dec,pre,.val false res⟩
def jr(l:List SV):Nat->Frm
 |k=>match l with
  |[] =>[]
  |x::l=>(k,x)::jr l (k+1)
def AX:∀(l:List SV) (k t:Nat),(jr l k).at t=if k<=t then(match l[t-k]? with|some x=>x|none=> .undef)else .undef
 |[],k,t=>by simp[jr,Frm.at]
 |x::l,k,t=>by
  unfold jr;rw[Frm.cW,AX l (k+1) t];grind
def zf{l:List SV}{n:Nat}(hn:l.length<=n):(jr l 0).av n=avs l++bT (n-(avs l).length) .undef:=by
 apply List.ext_getElem?;intro i;unfold Frm.av;rw[dH];by_cases hi:i<n
 .rw[List.getElem?_range hi,dV,AX,if_pos (ce _),Nat.sub_zero];by_cases h2:i<l.length
  .rw[List.getElem?_append_left (by rw[fT];exact h2),qB,c8 h2];rfl
  .rw[List.getElem?_append_right (by rw[fT];omega),List.getElem?_replicate,d8 (by omega),fT,if_pos (by omega)];rfl
 .rw[d8 (by simp;omega),d8 (by simp[fT];omega)];rfl
def vx{args:List SV}(hpe:∀v∈args,v.ape=false):(jr args 0).ok:=by
 intro t;rw[AX,if_pos (ce _)];split
 .rename_i x hx;exact SV.jh (by grind)
 .trivial
def Ip:aM.fn [] =λ_=>none:=by
 funext s
 rcases gT s with⟨x,rfl⟩|⟨x,a,rfl⟩|hno
 .exact Sg.bZ _ x
 .exact Sg.cq _ x a
 .exact Sg.fp _ hno
def aw:Nat->Nat->Bool:=λ_ _=>false
structure InD:Type 1 where
 hook:jt
 raw:Nat->Nat->Bool
 ann:List SV->aM->List (Nat×Ann)
def noD:Nat->InD:=λ_=>⟨lZ,aw,λ_ _=>[]⟩
def nO(X:Cx)(D:Nat->InD):Prop:=∀(f:Nat) (fn:Func) (c:Code),X.P.funcs[f]? =some fn->fn.body=some c->nD X fn.ntmps (D f).hook c
def IZ(X:Cx):nO X noD:=λ_ _ _ _ _=>mQ _ _ _
def xF(X:Cx)(D:Nat->InD)(J:Inl):Inl:=λf xs F n L N K=>match gA X.P f,X.P.funcs[f]?,L.at 0 with
 |true,some fn,some (.box 0 (.undef::S))=>(match fn.body with
  |some c=>(match iL xs.length fn.ntmps,co (λv:SV=>match v.ape with|true=>false|false=>true) xs with
   |true,true=>
    let fin:Frm->aM->Nat->Fm:=λF' L' N'=>match co (λq:Nat×Option SOb=>match af q.1 0 with|true=>false|false=>true) (L'.take (L'.length-(L.length+1)))with
     |true=>(match kN X.P fn.ntmps F' L'.at fn.results.toList with
      |some [] =>K .undef (L'.take (L'.length-(L.length+1))++L) N'
      |some [r] =>(match r.ape with|false=>K r (L'.take (L'.length-(L.length+1))++L) N'|true=> .stuck 991001)
      |_=> .stuck 991002)
     |false=> .stuck 991003
    vc X ⟨J,(D f).hook⟩ fn.ntmps (D f).raw c (λ_=>true) ((D f).ann xs L) (λe F' L' N'=>match e with
     | .normal=>fin F' L' N'
     | .ret=>fin F' L' N'
     |_=> .stuck 991004) (jr xs 0) ((0,some (.box 0 (.undef::(S++(bN n).map F.at))))::L) N
   |_,_=> .stuck 991005)
  |none=> .stuck 991006)
 |_,_,_=> .stuck 991007
def GH{L:aM}{pre:aM}{s:Nat}(h:∀q∈pre,q.1≠s):aM.at (pre++L) s=L.at s:=by
 induction pre with
 |nil=>rfl
 |cons q pre ih=>
  obtain⟨k,x⟩:=q;have hk:af s k=false:=by
   cases hb:af s k with
   |false=>rfl
   |true=>simp_all
  show(match af s k with|true=>x|false=>aM.at (pre++L) s)=_;grind
def DP{A B:aM}{y:Nat}(h:aM.at A y=aM.at B y):∀pre:aM,aM.at (pre++A) y=aM.at (pre++B) y
 |[] =>h
 |(k,x)::pre=>by
  show(match af y k with|true=>x|false=>aM.at (pre++A) y)=(match af y k with|true=>x|false=>aM.at (pre++B) y);rw[DP h pre]
def GQ{L:aM}{cs T:List SV}(hL:L.at 0=some (.box 0 cs)):aM.fn ((0,some (.box 0 T))::L)=aY L.fn [(dg,some ⟨0,0,avs T⟩)] :=by have h:=(bJ.flat (σ:=L.at) (rd:=[]) (W:=[(0,some (.box 0 T))]) λq hq=>by rw[bO.1 hq,hL];exact⟨rfl,rfl⟩).2.2;rw[aM.oh]at h;have e:aD 0=dg:=ur (by unfold NM;omega);unfold aM.fn;rw[show aM.at ((0,some (.box 0 T))::L)=aM.at ([(0,some (SOb.box 0 T))] ++L)from rfl,<-h,<-e];rfl
def IH{L:aM}{cs:List SV}(hL:L.at 0=some (.box 0 cs)):L.fn dg=some ⟨0,0,avs cs⟩:=by have e:aD 0=dg:=ur (by unfold NM;omega);rw[<-e];show Sg.a L.at (aD 0)=_;rw[Sg.bZ,hL];rfl
def Uc(F:Frm)(n:Nat):avs ((bN n).map F.at)=F.av n:=by rw[fy,gS];rfl
def G8{X:Cx}(hX:X.Ok){D:Nat->InD}(hD:nO X D){J:Inl}(hJ:qh X J):qh X (xF X D J):=by
 intro f xs F n L N K o c fo caps ho hc hclo hargs h;unfold xF at h;split at h
 case h_2=>exact h.elim
 rename_i fn S hok hf hL;split at h
 case h_2=>exact h.elim
 rename_i body hb;split at h
 case h_2=>exact h.elim
 rename_i hn hpe;have hn:=jA hn;have hpe:∀v∈xs,v.ape=false:=λv hv=>by have:=dE hpe v hv;grind
 have hw:=y3 hX (I:=⟨J,(D f).hook⟩) hJ body (hD f fn body hf hb) (λ_=>true) _ _ _ _ N (λ_ _=>rfl) (vx hpe) h;rw[zf hn,GQ hL]at hw;have hT:avs (.undef::(S++(bN n).map F.at))= .undef::(avs S++F.av n):=by rw[WM,lN,Uc];rfl
 rw[hT]at hw;refine Vi (fid:=f) (A:=avs xs) (S:=avs S) (f:=fo) ho hc hclo hargs hok hf hb (by rw[IH hL];rfl) (gi body ?_ hw);rintro e FA LA N' ⟨F',L',rfl,rfl,hF',hpre,⟨pre,hpl⟩,hh⟩;have fin:(match co (λq:Nat×Option SOb=>match af q.1 0 with|true=>false|false=>true) (L'.take (L'.length-(L.length+1)))with
    |true=>(match kN X.P fn.ntmps F' L'.at fn.results.toList with
     |some [] =>K .undef (L'.take (L'.length-(L.length+1))++L) N'
     |some [r] =>(match r.ape with|false=>K r (L'.take (L'.length-(L.length+1))++L) N'|true=> .stuck 991001)
     |_=> .stuck 991002)
    |false=> .stuck 991003).holds->
   fj X.P fn.results.toList (F'.av fn.ntmps) L'.fn λl=>∃S2 F2,L'.fn dg=some ⟨0,0,.undef::(S2++F2)⟩/\S2.length=(avs S).length/\F2.length=(F.av n).length/\
    (λFA LA N'=>∃r L2,r.ok/\FA=cF (F.av n) o.dst r.av/\LA=aM.fn L2/\dr L L2/\(K r L2 N').holds) (cF F2 o.dst (w9 l)) (aY L'.fn [(dg,some ⟨0,0,.undef::S2⟩)]) N':=by
  intro hh;split at hh
  case h_2=>exact hh.elim
  rename_i h0;have hat:L'.at 0=some (.box 0 (.undef::(S++(bN n).map F.at))):=by rw[hpl];have h1:=dE h0;rw[hpl,show(pre++(0,some (SOb.box 0 (.undef::(S++(bN n).map F.at))))::L).length-(L.length+1)=pre.length by simp,uV]at h1;rw[GH λq hq e=>by have:=h1 q hq;simp_all];rfl
  have hst:L'.fn dg=some ⟨0,0,.undef::(avs S++F.av n)⟩:=by rw[IH hat,hT]
  have hL2:aM.fn ((0,some (.box 0 (.undef::S)))::L')=aY L'.fn [(dg,some ⟨0,0,.undef::avs S⟩)] :=GQ hat;have hpl2:dr L (L'.take (L'.length-(L.length+1))++L):=⟨_,rfl⟩;have hL3:aM.fn (L'.take (L'.length-(L.length+1))++L)=aY L'.fn [(dg,some ⟨0,0,.undef::avs S⟩)] :=by
   rw[<-hL2];refine congrArg Sg.a ?_
   funext y
   by_cases hy:y=0
   .subst hy;rw[GH (λq hq e=>by have:=dE h0 q hq;rw[e]at this;cases this)];exact hL
   .have e1:aM.at ((0,some (.box 0 (.undef::S)))::L') y=aM.at L' y:=by show(match af y 0 with|true=>_|false=>_)=_;rw[show af y 0=false from by cases hb:af y 0 with|false=>rfl|true=>exact absurd (bm hb) hy]
    rw[e1];have e2:L'=L'.take (L'.length-(L.length+1))++((0,some (.box 0 (.undef::(S++(bN n).map F.at))))::L):=by
     conv=>lhs;rw[hpl]
     rw[hpl,show(pre++(0,some (SOb.box 0 (.undef::(S++(bN n).map F.at))))::L).length-(L.length+1)=pre.length by simp,uV]
    conv=>rhs;rw[e2]
    refine DP ?_ _;show aM.at L y=(match af y 0 with|true=>_|false=>aM.at L y);rw[show af y 0=false from by cases hb:af y 0 with|false=>rfl|true=>exact absurd (bm hb) hy]
  split at hh
  .rename_i hr;exact lS hr ⟨avs S,F.av n,hst,rfl,rfl,.undef,_,trivial,rfl,hL3.symm,hpl2,hh⟩
  .rename_i r hr;split at hh
   .rename_i hrp;exact lS hr ⟨avs S,F.av n,hst,rfl,rfl,r,_,SV.jh hrp,rfl,hL3.symm,hpl2,hh⟩
   .exact hh.elim
  .exact hh.elim
 cases e<;>first|exact fin hh|exact hh.elim
def CA(X:Cx)(D:Nat->InD):Inl:=xF X D (xF X D wU)
def XJ{X:Cx}(hX:X.Ok){D:Nat->InD}(hD:nO X D):qh X (CA X D):=G8 hX hD (G8 hX hD (FP X))
def qL(X:Cx)(D:Nat->InD)(H:jt)(st:Bool)(raw:Nat->Nat->Bool)(f:Nat)(ann:List (Nat×Ann))(args:List SV)(post:Nat->List ResultVar->jk):Fm:=match gA X.P f,X.P.funcs[f]? with
 |true,some fn=>(match fn.body with
  |some c=>(match iL args.length fn.ntmps,co (λv=>match v.ape with|true=>false|false=>true) args with
   |true,true=>(match st with
    |false=>vc X ⟨wU,H⟩ fn.ntmps raw c (λ_=>true) ann (post fn.ntmps fn.results.toList) (jr args 0) [] 0
    |true=>vc X ⟨CA X D,H⟩ fn.ntmps raw c (λ_=>true) ann (post fn.ntmps fn.results.toList) (jr args 0) [(0,some (.box 0 [.undef]))] 1)
   |_,_=> .stuck 950000)
  |none=> .stuck 960000)
 |_,_=> .stuck 970000
def JP(X:Cx)(st:Bool)(raw:Nat->Nat->Bool)(f:Nat)(ann:List (Nat×Ann))(args:List SV)(post:Nat->List ResultVar->jk):Fm:=qL X noD lZ st raw f ann args post
def JO(X:Cx)(raw:Nat->Nat->Bool)(f:Nat)(ann:List (Nat×Ann))(args:List SV)(post:Nat->List ResultVar->jk):Fm:=JP X false raw f ann args post
def MR(X:Cx)(raw:Nat->Nat->Bool)(f:Nat)(ann:List (Nat×Ann))(args:List SV)(r:SV):Fm:=JO X raw f ann args λn rs=>ww X.P n rs r
def YY:aM.fn [(0,some (.box 0 [.undef]))] =ti:=by
 have e:aD 0=dg:=ur (by unfold NM;omega)
 funext s
 unfold ti;rcases gT s with⟨x,rfl⟩|⟨x,a,rfl⟩|hno
 .show Sg.a _ (aD x)=_;rw[Sg.bZ];by_cases hx:x=0
  .subst hx;rw[if_pos e];rfl
  .rw[if_neg (λh=>hx (eD (h.trans e.symm)))];show Option.map _ (match af x 0 with|true=>_|false=>none)=none;cases hb:af x 0 with
   |true=>simp_all
   |false=>rfl
 .show Sg.a _ (inn x (a+1))=_;rw[Sg.cq,if_neg (λh=>by have h:inn x (a+1)=aD 0:=h.trans e.symm;have:=(cI h).2;omega)];show Option.bind (match af x 0 with|true=>_|false=>none) _=none;cases af x 0<;>rfl
 .show Sg.a _ s=_;rw[Sg.fp _ hno,if_neg (λh=>hno 0 0 (h.trans e.symm))]
def vJ{X:Cx}(hX:X.Ok){D:Nat->InD}(hD:nO X D){H:jt}{st:Bool}{raw:Nat->Nat->Bool}{f:Nat}{ann:List (Nat×Ann)}{args:List SV}{post:Nat->List ResultVar->jk}{A:List PV}{Q:List ResultVar->kL}(hA:avs args=A.map .p)(hH:∀(fn:Func) (c:Code),X.P.funcs[f]? =some fn->fn.body=some c->nD X fn.ntmps H c)
  (hQ:∀n rs e (F:Frm) (L:aM) N,(post n rs e F L N).holds->Q rs e (F.av n) L.fn N) (h:(qL X D H st raw f ann args post).holds):
  gA X.P f=true/\∃fn c L0 N0,X.P.funcs[f]? =some fn/\fn.body=some c/\nB L0 N0/\awp X.P c (Q fn.results.toList) (A.map .p++bT (fn.ntmps-A.length) .undef) L0 N0:=by
 unfold qL at h;split at h
 case h_2=>exact h.elim
 rename_i fn hok hf;split at h
 case h_2=>exact h.elim
 rename_i c hb;split at h
 case h_2=>exact h.elim
 rename_i hn hpe;have hn:=jA hn;have hpe:∀v∈args,v.ape=false:=λv hv=>by have:=dE hpe v hv;grind
 have hal:(A.map AV.p).length=A.length:=by grind
 have hAF:A.map .p++bT (fn.ntmps-A.length) .undef=(jr args 0).av fn.ntmps:=by rw[zf hn,hA,hal]
 split at h
 .refine⟨hok,fn,c,aM.fn [],0,hf,hb,.inl ⟨Ip,rfl⟩,?_⟩;rw[hAF];refine gi c ?_ (y3 hX (I:=⟨wU,H⟩) (FP X) c (hH fn c hf hb) (λ_=>true) ann _ _ [] 0 (λ_ _=>rfl) (vx hpe) h);rintro e FA LA N' ⟨F',L',rfl,rfl,_,_,_,hh⟩;grind
 .refine⟨hok,fn,c,aM.fn [(0,some (.box 0 [.undef]))],1,hf,hb,.inr ⟨YY,rfl⟩,?_⟩;rw[hAF];refine gi c ?_ (y3 hX (I:=⟨CA X D,H⟩) (XJ hX hD) c (hH fn c hf hb) (λ_=>true) ann _ _ _ 1 (λ_ _=>rfl) (vx hpe) h);rintro e FA LA N' ⟨F',L',rfl,rfl,_,_,_,hh⟩;grind
def Er{X:Cx}(hX:X.Ok){st:Bool}{raw:Nat->Nat->Bool}{f:Nat}{ann:List (Nat×Ann)}{args:List SV}{post:Nat->List ResultVar->jk}{A:List PV}{Q:List ResultVar->kL}(hA:avs args=A.map .p)
  (hQ:∀n rs e (F:Frm) (L:aM) N,(post n rs e F L N).holds->Q rs e (F.av n) L.fn N) (h:(JP X st raw f ann args post).holds):
  gA X.P f=true/\∃fn c L0 N0,X.P.funcs[f]? =some fn/\fn.body=some c/\nB L0 N0/\awp X.P c (Q fn.results.toList) (A.map .p++bT (fn.ntmps-A.length) .undef) L0 N0:=
 vJ hX (IZ X) hA (λ_ _ _ _=>mQ _ _ _) hQ h
def Ug{X:Cx}(hX:X.Ok){raw:Nat->Nat->Bool}{f:Nat}{ann:List (Nat×Ann)}{args:List SV}{r:SV}{A:List PV}{q:PV}(hA:avs args=A.map .p)(hq:r.av= .p q)(h:(MR X raw f ann args r).holds):Sat X.P false f A q:=by obtain⟨hok,fn,c,L0,N0,hf,hb,h0,hw⟩:=Er hX (st:=false) (Q:=λrs=>qj X.P rs q) hA (λn rs e F L N hh=>zn hq hh) h;exact uq hok hf hb h0 hw
def xM(P:Program)(n:Nat)(rs:List ResultVar)(ty:Nat)(t:LT)(l:List t.ty)(ys:List SV)(F:Frm)(L:aM):Fm:=match kN P n F L.at rs with
 |some (v::r)=>(match k9 (eqv 3) ys r with
  |some (qs,[])=>(match v with
   | .nil=>needs ((l=[])::qs) .tt
   | .own s _ k=>(match L.at s with
     |some (.row ty' t' l')=>(match af ty' ty,decEq t' t with
      |true,.isTrue h=>needs ([(h▸l':List t.ty)=l,k=l'.length] ++qs) .tt
      |_,_=> .stuck 980001)
     |_=> .stuck 980002)
   |_=> .stuck 980003)
  |_=> .stuck 980004)
 |_=> .stuck 980005
def LJ(P:Program)(ty:Nat)(t:LT)(l:List t.ty)(ys:List SV)(n:Nat)(rs:List ResultVar):jk:=λe F L _=>match e with
 | .normal=>xM P n rs ty t l ys F L
 | .ret=>xM P n rs ty t l ys F L
 |_=> .stuck 910000
def FG{m:Rf}:∀{q:List PV} {r:List AV},dG m (q.map .p) r->r=q.map .p
 |[],r,h=>by exact h
 |x::q,r,h=>by
  obtain⟨y,r',rfl,h1,h2⟩:=h;rw[h1,FG h2];rfl
def VC{P:Program}{n:Nat}{rs:List ResultVar}{ty:Nat}{t:LT}{l:List t.ty}{ys:List SV}{Y:List PV}(hY:avs ys=Y.map .p){e:Exit}{F:Frm}{L:aM}{N:Nat}(h:(LJ P ty t l ys n rs e F L N).holds):B5 P rs ty t.w (t.enc l) l.length Y e (F.av n) L.fn N:=by
 have key:(xM P n rs ty t l ys F L).holds->fj P rs (F.av n) L.fn λlA=>(∃s,lA= .own s 0 l.length::Y.map .p/\L.fn s=some ⟨ty,t.w,(t.enc l).map .p⟩)\/(lA= .nil::Y.map .p/\l.length=0/\t.enc l=[]):=by
  intro h;unfold xM at h;split at h
  case h_2=>exact h.elim
  rename_i v r hl;split at h
  case h_2=>exact h.elim
  rename_i qs he;have e2:Sg.a L.at=L.fn:=rfl;have hr:(∀p∈qs,p)->avs r=Y.map .p:=λhp=>by have:=mY (m:=λ_=>none) (sW 3) he hp (λq hq=>by cases hq);rw[hY]at this;exact FG this
  rw[<-e2];refine lS hl ?_;split at h
  .have hp:=(j8 h).1;have hl0:l=[] :=hp _ (by grind);subst hl0;refine .inr ⟨?_,rfl,rfl⟩;show AV.nil::avs r=_;grind
  .rename_i s t2 k;split at h
   case h_2=>exact h.elim
   rename_i ty' t' l' hs;split at h
   case h_2=>exact h.elim
   rename_i h2 hty _;subst h2;have hp:=(j8 h).1;have h3:l'=l:=hp _ (by grind);have h4:k=l'.length:=hp _ (by grind);subst h3;refine .inl ⟨aD s,?_,?_⟩
   .show AV.own (aD s) 0 k::avs r=_;grind
   .rw[Sg.bZ,hs,<-bm hty];rfl
  .exact h.elim
 cases e<;>first|exact h.elim|exact key h
def Oo{α:Type}(A:Arl α)(pre:α->List Prop)(ty:Nat)(t:LT)(l:α->List t.ty)(ys:α->List SV):Con:=⟨α,A.dec,pre,.own ty t l ys⟩
def Xb{X:Cx}(hX:X.Ok){raw:Nat->Nat->Bool}{f:Nat}{α:Type}{A:Arl α}{pre:α->List Prop}{ty:Nat}{t:LT}{l:α->List t.ty}{ys:α->List SV}(ann:α->List (Nat×Ann))(hr:∀x,∃q:List PV,avs (ys x)=q.map .p)
  (h:∀x,kS (pre x)->(JO X raw f (ann x) (A.enc x) (LJ X.P ty t (l x) (ys x))).holds):(Oo A pre ty t l ys).Ok X.P f:=by
 intro s x hd hp;obtain⟨B,hB⟩:=A.pl x;obtain⟨q,hq⟩:=hr x;obtain⟨hok,fn,c,L0,N0,hf,hb,h0,hw⟩:=Er hX (st:=false) (Q:=λrs=>B5 X.P rs ty t.w (t.enc (l x)) (l x).length q) hB (λn rs e F L N hh=>VC hq hh) (h x (fN.2 hp));exact⟨B,q,by rw[A.ok s x hd,hB],hq,Ru hok (j4 t.gn) hf hb h0 hw⟩
def bA{X:Cx}(hX:X.Ok){raw:Nat->Nat->Bool}{f:Nat}{α:Type}{A:Arl α}{pre:α->List Prop}{res:α->SV}(ann:α->List (Nat×Ann))(hr:∀x,∃q,(res x).av= .p q)(h:∀x,kS (pre x)->(MR X raw f (ann x) (A.enc x) (res x)).holds):(con A pre res).Ok X.P f:=by intro s x hd hp;obtain⟨B,hB⟩:=A.pl x;obtain⟨q,hq⟩:=hr x;exact⟨B,q,by rw[A.ok s x hd,hB],hq,Ug hX hB hq (h x (fN.2 hp))⟩
open Classical in
def az{p q:Prop}(h:p=q)(hq:q):p:=h▸hq
def aq:List (Nat×Con)->Tab->Tab
 |[],T,f=>T f
 |(k,c)::l,T,f=>match af f k with|true=>some c|false=>aq l T f
def MQ(P:Program):List (Nat×Con)->Prop
 |[] =>True
 |q::l=>q.2.Ok P q.1/\MQ P l
def au{P:Program}{T:Tab}(hT:T.Ok P):∀{l:List (Nat×Con)},MQ P l->(aq l T).Ok P
 |[],_=>hT
 |(k,c)::l,h=>by
  intro f d hd;unfold aq at hd;split at hd
  .rename_i e;cases hd;rw[bm e];exact h.1
  .exact au hT h.2 f d hd
def wu:Tab:=λ_=>none
def WU{P:Program}:wu.Ok P:=λ_ _ h=>by cases h
end
noncomputable section
def Zj(N:Nat)(a b c d:Int)(w:World):eJ aH (jV (N+1+1) 53 (.agg #[.int .i64 a,.int .i64 b]) (.agg #[.int .i64 c,.int .i64 d])) w= .ok (a==c&&b==d) w:=by
 have hS:aH.underlying 53=some (.struct (aH.fieldsOf 53)):=by kernel_rfl
 have hp:aH.stoodInHeld 53=false:=by kernel_rfl
 rw[run_equalIn_agg w (N+1) 53 _ _ hS hp];simp only[xo,Qe]
 go_simp
 grind
def Zm(a b c d a' b' c' d':Int)(w:World)(N:Nat):eJ aH (jV (N+1+1+1) 57 (.agg #[.int .i64 a,.int .i64 b,.int .i64 c,.int .i64 d]) (.agg #[.int .i64 a',.int .i64 b',.int .i64 c',.int .i64 d'])) w= .ok ((a==a'&&b==b')&&(c==c'&&d==d')) w:=by
 have hS6:aH.underlying 57=some (.struct (aH.fieldsOf 57)):=by kernel_rfl
 have hp6:aH.stoodInHeld 57=false:=by kernel_rfl
 rw[run_equalIn_agg w (N+1+1) 57 _ _ hS6 hp6];unfold xo;rw[Tryz.underlying57];have a44:=Tryz.isAgg53;have z44:=Tryz.sizeOf53;have p1:∀a b c d:Int,(part 53 #[cw .i64 a,cw .i64 b,cw .i64 c,cw .i64 d] 0).run aH w= .ok (.agg #[.int .i64 a,.int .i64 b]) w:=by intro a b c d;simp[part,a44,z44]
 have p2:∀a b c d:Int,(part 53 #[cw .i64 a,cw .i64 b,cw .i64 c,cw .i64 d] 2).run aH w= .ok (.agg #[.int .i64 c,.int .i64 d]) w:=by intro a b c d;simp[part,a44,z44]
 have hE:=Zj N;unfold Op.eqFields;unfold Op.eqFields;unfold Op.eqFields;rw[if_pos (by decide)];simp only[bk,p1,bq,hE];cases h1:(a==a')<;>cases h2:(b==b')<;>simp[hE,p2,bk,bq];grind
def Fx:og aH 57 4:=by
 intro xs ys x y w hx hy;match xs,ys,hx,hy with
 |[a,b,c,d],[a',b',c',d'],_,_=>
  have h1:=Zm a b c d a' b' c' d' w 9997;have e:(([a,b,c,d] :List Int)==[a',b',c',d'])=((a==a'&&b==b')&&(c==c'&&d==d')):=by rw[mD];simp[and_assoc]
  refine⟨?_,?_⟩
  .simp only[eqGuard,bk];simp[pL];rw[run_eql_struct,h1];simp_all
  .unfold bne;rw[e];simp[eqGuard];rw[run_neq_struct,h1];simp_all
def Zl(N:Nat)(a b c a' b' c':Int)(w:World):eJ aH (jV (N+1+1) 60 (.agg #[.int .i64 a,.int .i64 b,.int .i64 c]) (.agg #[.int .i64 a',.int .i64 b',.int .i64 c'])) w= .ok (a==a'&&(b==b'&&c==c')) w:=by
 have hS:aH.underlying 60=some (.struct (aH.fieldsOf 60)):=by kernel_rfl
 have hp:aH.stoodInHeld 60=false:=by kernel_rfl
 rw[run_equalIn_agg w (N+1) 60 _ _ hS hp];simp only[xo,Tryz.underlying60]
 go_simp
 grind
def Fw:og aH 60 3:=by
 intro xs ys x y w hx hy;match xs,ys,hx,hy with
 |[a,b,c],[a',b',c'],_,_=>
  have h1:=Zl 9998 a b c a' b' c' w;have e:(([a,b,c] :List Int)==[a',b',c'])=(a==a'&&(b==b'&&c==c')):=by rw[mD];simp
  refine⟨?_,?_⟩
  .simp only[eqGuard,bk];simp[pL];rw[run_eql_struct,h1];simp_all
  .unfold bne;rw[e];simp[eqGuard];rw[run_neq_struct,h1];simp_all
noncomputable def ltL:List (Nat×LT)->Nat->Option LT
 |[],_=>none
 |(k,x)::l,t=>match af t k with|true=>some x|false=>ltL l t
def u67:aH.underlying 104=some (.array 2 3):=by kernel_rfl
def qT(w:World)(xs:Array Value)(i:Nat)(a:Value)(h:xs[i]? =some a):(part 3 xs i).run aH w= .ok a w:=by have a3:=uT;simp[part,a3,h]
def YI:MKey aH 104 2:=by
 have hu3:aH.underlying 3=some (.int .i64):=by kernel_rfl
 obtain⟨i3,hi3⟩:=info_of_underlying hu3;have c3:aH.cellsOf 3=1:=by kernel_rfl
 have two:∀{xs:List Int},xs.length=2->∃a b,xs=[a,b] :=λ{xs} h=>by
  match xs,h with
  |[a,b],_=>grind
 refine⟨?_,?_,⟨_,u67,λa b=>rfl⟩⟩
 .intro w em xs hx;obtain⟨a,b,rfl⟩:=two hx;show(uR em (9999+1) 104 (.agg #[.int .i64 a,.int .i64 b])).run _ w=_;have p0:=qT w #[cw .i64 a,.int .i64 b] 0 (.int .i64 a) rfl;have p1:=qT w #[cw .i64 a,.int .i64 b] 1 (.int .i64 b) rfl;have ck:∀a:Int,(uR em 9999 3 (.int .i64 a)).run aH w= .ok () w:=by intro a;show(uR em (9998+1) 3 (.int .i64 a)).run _ w=_;generalize 9998=N;simp only[uR,bk,run_underlying hu3,bq,cG]
  rw[uR];simp only[bk,run_underlying u67,bq];simp only[Std.Legacy.Range.forIn_eq_forIn_range',Std.Legacy.Range.size,Nat.sub_zero,Nat.add_one_sub_one,Nat.div_one];simp only[show List.range' 0 2=[0,1]from rfl,List.forIn_cons,List.forIn_nil,bk,run_sizeOf w hi3,bq,c3,p0,p1,ck,cG,xg,nk]
 .intro w xs ys hx hy;obtain⟨a,b,rfl⟩:=two hx;obtain⟨c,d,rfl⟩:=two hy;have p0:=qT w #[cw .i64 a,.int .i64 b] 0 (.int .i64 a) rfl;have p1:=qT w #[cw .i64 a,.int .i64 b] 1 (.int .i64 b) rfl;have q0:=qT w #[cw .i64 c,.int .i64 d] 0 (.int .i64 c) rfl;have q1:=qT w #[cw .i64 c,.int .i64 d] 1 (.int .i64 d) rfl;have e1:∀a b:Int,(jV 9999 3 (.int .i64 a) (.int .i64 b)).run aH w= .ok (a==b) w:=λa b=>run_equalIn_int w 9998 3 _ _ a b hu3;show(jV (9999+1) 104 (.agg #[.int .i64 a,.int .i64 b]) (.agg #[.int .i64 c,.int .i64 d])).run _ w=_;rw[run_equalIn_array w 9999 _ _ u67 hi3,c3,show bN 2=[0,1]from rfl];simp only[Op.eqItems,bk,xg,nk,p0,q0,e1,bq];by_cases h1:a=c
  .subst h1;simp only[beq_self_eq_true,xW,nY,if_false,bk];by_cases h2:b=d
   .simp_all
   simp_all
  simp_all
noncomputable def cx(T:Tab):Cx:=⟨aH,T,ltL [(53,.V),(57,.S),(64,.R),(3,.I),(2,.I),(1,.I),(4,.B),(60,.T),(25,.U),(45,.E),(49,.F),(43,.Q)],[(53,2),(57,4),(60,3)],λ_=>false,λ_=>false⟩
def a7{T:Tab}(h:T.Ok aH):(cx T).Ok:=⟨h,λt m hm=>by
 rcases bh.1 hm with h|hm
 .cases h;exact Fy
 rcases bh.1 hm with h|h
 .cases h;exact Fx
 .rw[bO]at h;cases h;exact Fw,λt ht=>by cases ht⟩
noncomputable def nG(F:Frm)(d:Nat):Option Nat:=match F.at d with
 | .int _ v=>some v.toNat
 |_=>none
noncomputable def LZ(F:Frm)(d:Nat):Option Int:=match F.at d with
 | .int _ v=>some v
 |_=>none
noncomputable def Og(F:Frm)(d e:Nat):Option (Int×Int):=match LZ F d,LZ F e with
 |some x,some y=>some (x,y)
 |_,_=>none
noncomputable def lp(key d n:Nat)(I:Nat->List Prop)(rk:List Nat)(upd:Nat->Frm)(obs:Nat->List (Nat×SOb))(inner:Nat->List (Nat×Ann):=λ_=>[]):Nat×Ann:=
 (key,.mk Nat (λF _=>nG F d) rk (λk=>(k<=n)::I k) (λk=>(d,.int .i64 (k:Int))::upd k) obs (λk=>n-k) inner)
noncomputable def cnt(key d n:Nat)(I:Nat->Prop)(inner:Nat->List (Nat×Ann):=λ_=>[]):Nat×Ann:=lp key d n (λk=>[I k]) [] (λ_=>[]) (λ_=>[]) inner
noncomputable def jb(key d:Nat)(b:Bool):Nat×Ann:=(key+10000,.mk Unit (λ_ _=>some ()) [] (λ_=>[]) (λ_=>[(d,.bool b)]) (λ_=>[]) (λ_=>0) (λ_=>[]))
noncomputable def jP(key:Nat)(I:List Prop):Nat×Ann:=(key+10000,.mk Unit (λ_ _=>some ()) [] (λ_=>I) (λ_=>[]) (λ_=>[]) (λ_=>0) (λ_=>[]))
noncomputable def jU(key:Nat)(u:Frm):Nat×Ann:=(key+10000,.mk Unit (λ_ _=>some ()) [] (λ_=>[]) (λ_=>u) (λ_=>[]) (λ_=>0) (λ_=>[]))
noncomputable def jN(key d:Nat)(I:Nat->List Prop)(inner:Nat->List (Nat×Ann):=λ_=>[]):Nat×Ann:=(key+10000,.mk Nat (λF _=>nG F d) [] I (λk=>[(d,.int .i64 (k:Int))]) (λ_=>[]) (λ_=>0) inner)
noncomputable def lU(key k:Nat):Nat×Ann:=(key+30000+k,.mk Unit (λ_ _=>none) [] (λ_=>[]) (λ_=>[]) (λ_=>[]) (λ_=>0) (λ_=>[]))
noncomputable def ao(q:Nat->Prop)(k:Nat):Prop:=∀j,j<k->q j
def nb{b:Bool}(h:(!b)=false):b=true:=by grind
def nb'{b:Bool}(h:(!b)=true):b=false:=by grind
theorem eN(q:Nat->Prop):ao q 0:=λj h=>by grind
theorem cA{q:Nat->Prop}{k:Nat}(h:ao q k)(hk:q k):ao q (k+1):=λj hj=>by
 rcases Nat.lt_or_ge j k with h1|h1
 .exact h j h1
 grind
def JR:wu.Ok aH:=WU
end
attribute [grind =] aG ix
attribute [grind ←] eN cA
def iD{x y A B:Int}(hx: -A<=x/\x<=A)(hy: -B<=y/\y<=B): -(A*B)<=x*y/\x*y<=A*B:=by have h1:0<=(A-x)*(B-y):=iz (by omega) (by omega);have h2:0<=(A+x)*(B+y):=iz (by omega) (by omega);have h3:0<=(A-x)*(B+y):=iz (by omega) (by omega);have h4:0<=(A+x)*(B-y):=iz (by omega) (by omega);grind
def bd(M:Int)(v:V):Prop:=(-M<=v.x/\v.x<=M)/\ -M<=v.y/\v.y<=M
def tg{m M:Int}{v:V}(h:bS v m=true)(hm:m<=M:=by decide):bd M v:=by unfold bS at h;unfold bd;grind
def bd.mono{m M:Int}{v:V}(h:bd m v)(hm:m<=M:=by decide):bd M v:=by unfold bd at*;omega
def pm{M:Int}{a b:V}(ha:bd M a)(hb:bd M b):(-(M*M)<=a.x*b.y/\a.x*b.y<=M*M)/\ -(M*M)<=a.y*b.x/\a.y*b.x<=M*M:=⟨iD ha.1 hb.2,iD ha.2 hb.1⟩
def je{m:Int}{a b:V}(ha:bd m a)(hb:bd m b):bd (m+m) (aB3 a b):=by unfold bd aB3 at*;grind
def X4(n:Int): -1<=sgn n/\sgn n<=1:=by unfold sgn;grind
def cd{x:Int}(h: -9000000000000000000<=x/\x<=9000000000000000000):aG x:=by unfold aG;omega
noncomputable def Pw:Con:=con (ac aV (a1 aV)) (λ(_,_)=>[]) (λ(a,b)=> .bool (bV a b)
 )
def aBp:Pw.Ok aH 171:=bA (a7 JR) (raw:=aw) (λ(_,_)=>[]) (λ(_,_)=>⟨_,rfl⟩) λ(a,b) _=>az (q:=(a.y<b.y->true=bV a b)/\
 (¬a.y<b.y->(a.y=b.y->decide (a.x<b.x)=bV a b)/\
  (¬a.y=b.y->false=bV a b))) (by kernel_rfl) (by
  unfold bV;grind)
noncomputable def Nt:Tab:=aq [(171,Pw)] wu
def Kb:Nt.Ok aH:=au JR ⟨aBp,trivial⟩
noncomputable def c80:Con:=con (a1 aI) (λ_=>[]) (λn=> .int .i64 (sgn n)
 )
def k80:c80.Ok aH 129:=bA (a7 Kb) (raw:=aw) (λ_=>[]) (λ_=>⟨_,rfl⟩) λn _=>az (q:=(0<n->1=sgn n)/\
 (¬0<n->(n<0-> -1=sgn n)/\
  (¬n<0->0=sgn n))) (by kernel_rfl) (by
  unfold sgn;grind)
noncomputable def t80:Tab:=aq [(129,c80)] Nt
def Z8:t80.Ok aH:=au Kb ⟨k80,trivial⟩
noncomputable def t79:Tab:=t80
def Mf:t79.Ok aH:=Z8
noncomputable def c35:Con:=con (ac aV (a1 aI)) (λ(_,m)=>[0<=m,m<=1000000000000]) (λ(a,m)=> .bool (bS a m)
 )
def k35:c35.Ok aH 20:=bA (a7 Mf) (raw:=aw) (λ(_,_)=>[]) (λ(_,_)=>⟨_,rfl⟩) λ(a,m) hp=>az (q:=aG (0-m)/\(0-m<=a.x->(a.x<=m->aG (0-m)/\(0-m<=a.y->decide (a.y<=m)=bS a m)/\
   (¬0-m<=a.y->false=bS a m))/\
  (¬a.x<=m->false=bS a m))/\
 (¬0-m<=a.x->false=bS a m)) (by kernel_rfl) (by change 0<=m/\m<=1000000000000 at hp;unfold bS;have:= @aG;grind[aG])
noncomputable def t35:Tab:=aq [(20,c35)] t79
def M7:t35.Ok aH:=au Mf ⟨k35,trivial⟩
noncomputable def c98:Con:=con (a1 aS) (λ_=>[]) (λs=> .bool (bR s)
 )
def k98:c98.Ok aH 68:=bA (a7 M7) (raw:=aw) (λ_=>[]) (λ_=>⟨_,rfl⟩) λs _=>az (q:=(0:Int)<=4000/\(4000:Int)<=1000000000000/\(bS s.a 4000=true->(0:Int)<=4000/\(4000:Int)<=1000000000000/\bS s.b 4000=bR s)/\
 (bS s.a 4000=false->false=bR s)) (by kernel_rfl) (by unfold bR;grind)
noncomputable def t98:Tab:=aq [(68,c98)] t35
def MT:t98.Ok aH:=au M7 ⟨k98,trivial⟩
noncomputable def QJ:Con:=con (a1 aV) (λ_=>[]) (λv=>(aT).enc (bQ v)
 )
def aBK:QJ.Ok aH 23:=bA (a7 MT) (raw:=aw) (λ_=>[]) (λ_=>⟨_,rfl⟩) λv _=>az (q:=v.x=(bQ v).x/\v.y=(bQ v).y/\1=(bQ v).den) (by kernel_rfl) (by exact⟨rfl,rfl,rfl⟩)
noncomputable def OL:Tab:=aq [(23,QJ)] t98
def K9:OL.Ok aH:=au MT ⟨aBK,trivial⟩
noncomputable def P0:Con:=con (ac aV (a1 aV)) (λ(a,b)=>[bd 2000000000 a,bd 2000000000 b]) (λ(a,b)=> .int .i64 (cross a b)
 )
def aBt:P0.Ok aH 130:=bA (a7 K9) (raw:=aw) (λ(_,_)=>[]) (λ(_,_)=>⟨_,rfl⟩) λ(a,b) hp=>az (q:=aG (a.x*b.y)/\aG (a.y*b.x)/\aG (a.x*b.y-a.y*b.x)/\a.x*b.y-a.y*b.x=cross a b) (by kernel_rfl) (by change bd 2000000000 a/\bd 2000000000 b at hp;have:=pm hp.1 hp.2;exact⟨cd (by omega),cd (by omega),cd (by omega),rfl⟩)
noncomputable def Ny:Tab:=aq [(130,P0)] OL
def Ke:Ny.Ok aH:=au K9 ⟨aBt,trivial⟩
noncomputable def Pz:Con:=con (ac aV (a1 aV)) (λ(a,b)=>[bd 1000000000 a,bd 1000000000 b]) (λ(a,b)=>aV.enc (aB3 a b)
 )
def aBs:Pz.Ok aH 131:=bA (a7 Ke) (raw:=aw) (λ(_,_)=>[]) (λ(_,_)=>⟨_,rfl⟩) λ(a,b) hp=>az (q:=aG (a.x-b.x)/\aG (a.y-b.y)/\a.x-b.x=(aB3 a b).x/\a.y-b.y=(aB3 a b).y) (by kernel_rfl) (by change bd 1000000000 a/\bd 1000000000 b at hp;unfold bd at hp;exact⟨cd (by omega),cd (by omega),rfl,rfl⟩)
noncomputable def Nx:Tab:=aq [(131,Pz)] Ny
def Kd:Nx.Ok aH:=au Ke ⟨aBs,trivial⟩
def kE{s:S}(h:(!bR s)=false){M:Int}(hM:4000<=M:=by decide):bd M s.a/\bd M s.b:=by unfold bR at h;simp only[Bool.not_eq_false',cB]at h;exact⟨tg h.1 hM,tg h.2 hM⟩
def Il{s:S}{p:V}{M:Int}(h1:bd M s.a/\bd M s.b)(h:fG s p=true):bd M p:=by unfold fG at h;unfold bd at*;grind
def vO(s:S)(p:V): -1<=ew s p/\ew s p<=1:=by
 unfold ew ba;split
 .omega
 .exact X4 _
noncomputable def c70:Con:=con (ac aV (ac aV (a1 aV))) (λ(a,b,c)=>[bd 1000000000 a,bd 1000000000 b,bd 1000000000 c]) (λ(a,b,c)=> .int .i64 (ba a b c)
 )
def k70:c70.Ok aH 69:=bA (a7 Kd) (raw:=aw) (λ(_,_,_)=>[]) (λ(_,_,_)=>⟨_,rfl⟩) λ(a,b,c) hp=>az (q:=bd 1000000000 b/\bd 1000000000 a/\bd 1000000000 c/\bd 1000000000 a/\bd 2000000000 (aB3 b a)/\bd 2000000000 (aB3 c a)/\sgn (cross (aB3 b a) (aB3 c a))=ba a b c) (by kernel_rfl) (by change bd 1000000000 a/\bd 1000000000 b/\bd 1000000000 c at hp;exact⟨hp.2.1,hp.1,hp.2.2,hp.1,je hp.2.1 hp.1,je hp.2.2 hp.1,rfl⟩)
noncomputable def t70:Tab:=aq [(69,c70)] Nx
def Mp:t70.Ok aH:=au Kd ⟨k70,trivial⟩
noncomputable def QN:Con:=con (ac aS (a1 aV)) (λ(_,_)=>[]) (λ(s,p)=> .int .i64 (ew s p)
 )
def aBO:QN.Ok aH 140:=bA (a7 Mp) (raw:=aw) (λ(_,_)=>[]) (λ(_,_)=>⟨_,rfl⟩) λ(s,p) _=>az (q:=((!bR s)=true->0=ew s p)/\
 ((!bR s)=false->(0:Int)<=4000/\(4000:Int)<=1000000000000/\((!bS p 4000)=true->0=ew s p)/\
  ((!bS p 4000)=false->bd 1000000000 s.a/\bd 1000000000 s.b/\bd 1000000000 p/\ba s.a s.b p=ew s p))) (by kernel_rfl) (by
  unfold ew;refine⟨λh=>by rw[h];rfl,λh=>⟨by decide,by decide,λh2=>by grind,λh2=>⟨(kE h).1,(kE h).2,tg (by simpa using h2),by grind⟩⟩⟩)
noncomputable def OP:Tab:=aq [(140,QN)] t70
def LE:OP.Ok aH:=au Mp ⟨aBO,trivial⟩
noncomputable def Pk:Con:=con (ac aS (a1 aV)) (λ(_,_)=>[]) (λ(s,p)=> .bool (onS s p))
def aBf:Pk.Ok aH 21:=bA (a7 LE) (raw:=aw) (λ(s,p)=>[jb 4 5 (fG s p)]
  ) (λ(_,_)=>⟨_,rfl⟩) λ(s,p) _=>az (q:=((!bR s)=true->false=onS s p)/\
 ((!bR s)=false->((Min.min s.a.x s.b.x<=p.x->(p.x<=Max.max s.a.x s.b.x->(Min.min s.a.y s.b.y<=p.y->decide (p.y<=Max.max s.a.y s.b.y)=fG s p)/\
     (¬Min.min s.a.y s.b.y<=p.y->false=fG s p))/\
    (¬p.x<=Max.max s.a.x s.b.x->false=fG s p))/\
   (¬Min.min s.a.x s.b.x<=p.x->false=fG s p))/\
  (∀y:Unit,(fG s p=true->bd 1000000000 s.a/\bd 1000000000 s.b/\bd 1000000000 p/\decide (ba s.a s.b p=0)=onS s p)/\
   (fG s p=false->false=onS s p)))) (by kernel_rfl) (by
  refine⟨λh=>by unfold onS;grind,λh=>⟨by unfold fG;grind,λ_=>⟨λh2=>⟨(kE h).1,(kE h).2,Il (kE h) h2,by unfold onS;grind⟩,λh2=>by unfold onS;rw[h2];simp⟩⟩⟩)
noncomputable def Nk:Tab:=aq [(21,Pk)] OP
def KP:Nk.Ok aH:=au LE ⟨aBf,trivial⟩
def so(l:List V)(k:Nat):List V:=jc (l.take k)
def qso(l:List V)(k j:Nat):Prop:=bV (aB0 (so l k) j) (aB0 l k)=true
def cm(s t:S)(k:Nat):List V:=([s.a,s.b,t.a,t.b].take k).filter λp=>onS s p&&onS t p
def zl{l:List V}{k:Nat}(h:k<l.length):so l (k+1)=gu (so l k) (aB0 l k):=by unfold so jc;rw[pO,c8 h,Cs,nth_eq h];rfl
def yi{p:V}:∀{l:List V} {k:Nat},k<=l.length->(∀j,j<k->bV (aB0 l j) p=true)->(k<l.length->¬bV (aB0 l k) p=true)->
  gu l p=if k<l.length/\aB0 l k=p then l else l.take k++p::l.drop k
 |[],k,h1,_,_=>by simp at h1;subst h1;rfl
 |q::r,0,_,_,h3=>by
  have h3:¬bV q p=true:=h3 (by simp);unfold gu;rw[if_neg h3];show(if q=p then q::r else p::q::r)=if 0<(q::r).length/\q=p then q::r else p::q::r;simp
 |q::r,k+1,h1,h2,h3=>by
  have h0:bV q p=true:=h2 0 (by omega);unfold gu;rw[if_pos h0,yi (l:=r) (k:=k) (by grind) (λj hj=>h2 (j+1) (by omega)) (λhk=>h3 (by grind))];show(q::if _ then _ else _)=if k+1<(q::r).length/\aB0 r k=p then q::r else q::(r.take k++p::r.drop k);grind
def Vg(l:List V)(p:V):(gu l p).length<=l.length+1:=by
 induction l with
 |nil=>simp[gu]
 |cons q r ih=>unfold gu;grind
def II{l:List V}{k y:Nat}(hk:k<l.length)(h1:y<=(so l k).length)(h2:ao (qso l k) y)(h3:y<(so l k).length->¬qso l k y)(h4:¬(y<(so l k).length/\aB0 (so l k) y=aB0 l k)):
  ([] :List V)++bM y (cP 0 (so l k))++[aB0 l k] ++bM ((so l k).length-y) (cP y (so l k))=so l (k+1):=by
 have e:bM ((so l k).length-y) (cP y (so l k))=cP y (so l k):=ib (by simp);rw[zl hk,yi h1 h2 h3,if_neg h4,e];simp
def GU{l:List V}{k y:Nat}(hk:k<l.length)(h1:y<=(so l k).length)(h2:ao (qso l k) y)(h3:y<(so l k).length->¬qso l k y)(h4:y<(so l k).length)(h5:aB0 (so l k) y=aB0 l k):so l k=so l (k+1):=by rw[zl hk,yi h1 h2 h3,if_pos ⟨h4,h5⟩]
def Xf(s t:S){k:Nat}(h:k<4):cm s t (k+1)=if(onS s (aB0 [s.a,s.b,t.a,t.b] k)&&onS t (aB0 [s.a,s.b,t.a,t.b] k))=true then cm s t k++[aB0 [s.a,s.b,t.a,t.b] k]else cm s t k:=by unfold cm;rw[pO,c8 (show k<[s.a,s.b,t.a,t.b].length from h),List.filter_append,nth_eq (show k<[s.a,s.b,t.a,t.b].length from h)];grind
def Yh(s t:S)(k:Nat):(cm s t k).length<=4:=cZ (List.length_filter_le _ _) (by simp;omega)
noncomputable def Pj:Con:=con (a1 (aL .V)) (λl=>[l.length<=1000]) (λl=> .lst .V (jc l))
def aBe:Pj.Ok aH 209:=bA (a7 KP) (raw:=aw) (λl=>[lp 3 4 l.length (λk=>[(so l k).length<=k]) [900] (λk=>[(3,.own 900 .V (so l k).length)]) (λk=>[(900,.row 53 .V (so l k))]) λk=>[cnt 6 5 (so l k).length (ao (qso l k)),jN 8 5 (λj=>[j<=(so l k).length,ao (qso l k) j,j<(so l k).length->¬qso l k j]) λj=>[jP 9 [¬(j<(so l k).length/\aB0 (so l k) j=aB0 l k)]]]]
  ) (λ_=>⟨_,rfl⟩) λl hp=>az (q:=(0=(0:Int)/\(so l 0).length=0/\so l 0=([] :List V)/\(0:Nat)<=l.length/\(so l 0).length<=0)/\
 (∀x:Nat,x<=l.length/\(so l x).length<=x->((x:Int)<l.length->((0=(0:Int)/\(0:Nat)<=(so l x).length/\ao (qso l x) 0)/\
    (∀x_1:Nat,x_1<=(so l x).length/\ao (qso l x) x_1->((x_1:Int)<(so l x).length->ix (x_1:Int) (so l x).length/\x_1<(so l x).length/\ix (x:Int) l.length/\(bV (aB0 (so l x) x_1) (aB0 l x)=true->aG ((x_1:Int)+1)/\(x_1:Int)+1=((x_1+1:Nat):Int)/\x_1+1<=(so l x).length/\ao (qso l x) (x_1+1)/\(so l x).length-(x_1+1)<(so l x).length-x_1)/\
      (bV (aB0 (so l x) x_1) (aB0 l x)=false->(x_1:Int)=x_1/\x_1<=(so l x).length/\ao (qso l x) x_1/\(x_1<(so l x).length->¬qso l x x_1)))/\
     (¬(x_1:Int)<(so l x).length->(x_1:Int)=x_1/\x_1<=(so l x).length/\ao (qso l x) x_1/\(x_1<(so l x).length->¬qso l x x_1))))/\
   (∀y:Nat,y<=(so l x).length/\ao (qso l x) y/\(y<(so l x).length->¬qso l x y)->(((y:Int)<(so l x).length->ix (y:Int) (so l x).length/\y<(so l x).length/\ix (x:Int) l.length/\((aB0 (so l x) y)=(aB0 l x)->aG ((x:Int)+1)/\(x:Int)+1=((x+1:Nat):Int)/\(so l x).length=(so l (x+1)).length/\so l x=so l (x+1)/\x+1<=l.length/\(so l (x+1)).length<=x+1/\l.length-(x+1)<l.length-x)/\
      (¬(aB0 (so l x) y)=(aB0 l x)->¬(y<(so l x).length/\aB0 (so l x) y=aB0 l x)))/\
     (¬(y:Int)<(so l x).length->¬(y<(so l x).length/\aB0 (so l x) y=aB0 l x)))/\
    (∀y_1:Unit,¬(y<(so l x).length/\aB0 (so l x) y=aB0 l x)->(0<=(y:Int)/\(y:Int)<=(so l x).length)/\0+y<=(so l x).length/\([] :List V).length+(bM y (cP 0 (so l x))).length<=1000000/\ix (x:Int) l.length/\(([] :List V)++bM y (cP 0 (so l x))).length=(([] :List V)++bM y (cP 0 (so l x))).length/\(([] :List V)++bM y (cP 0 (so l x))).length+[(aB0 l x)].length<=1000000/\(0<=(y:Int)/\(y:Int)<=(so l x).length)/\(([] :List V)++bM y (cP 0 (so l x))++[(aB0 l x)]).length=(([] :List V)++bM y (cP 0 (so l x))++[(aB0 l x)]).length/\y+((so l x).length-y)<=(so l x).length/\(([] :List V)++bM y (cP 0 (so l x))++[(aB0 l x)]).length+(bM ((so l x).length-y) (cP y (so l x))).length<=1000000/\aG ((x:Int)+1)/\(x:Int)+1=((x+1:Nat):Int)/\(([] :List V)++bM y (cP 0 (so l x))++[(aB0 l x)] ++bM ((so l x).length-y) (cP y (so l x))).length=(so l (x+1)).length/\([] :List V)++bM y (cP 0 (so l x))++[(aB0 l x)] ++bM ((so l x).length-y) (cP y (so l x))=so l (x+1)/\x+1<=l.length/\(so l (x+1)).length<=x+1/\l.length-(x+1)<l.length-x)))/\
  (¬(x:Int)<l.length->(so l x).length=(so l x).length/\so l x=jc l))) (by kernel_rfl) (by
  change l.length<=1000 at hp;have e0:so l 0=[] :=rfl;have e1:so l l.length=jc l:=by unfold so;rw[iM]
  have el:∀x,x<l.length->(so l x).length<=x->(so l (x+1)).length<=x+1:=by intro x h h2;rw[zl h];exact cZ (Vg _ _) (by omega)
  have e2:(so l 0).length=0:=rfl
  with_reducible ((repeat' first|apply cl|intro);all_goals repeat cases‹_/\_›)
  all_goals first|assumption|rfl|exact trivial|exact nb ‹_› |exact nb' ‹_› |omega|exact eu (by omega)|(unfold ix;omega)|(unfold aG;omega)|exact eN _|exact cA ‹_› ‹_› |(refine cA ‹_› ?_;simp_all;done)|exact II (by omega) ‹_› ‹_› ‹_› ‹_› |exact congrArg fe (II (by omega) ‹_› ‹_› ‹_› ‹_›)|exact GU (by omega) ‹_› ‹_› ‹_› (by omega) ‹_› |exact congrArg fe (GU (by omega) ‹_› ‹_› ‹_› (by omega) ‹_›)|exact el _ (by omega) ‹_› |(unfold qso at*;simp_all;done)|grind)
noncomputable def Nj:Tab:=aq [(209,Pj)] Nk
def KO:Nj.Ok aH:=au KP ⟨aBe,trivial⟩
noncomputable def c99:Con:=con (ac aS (a1 aS)) (λ(_,_)=>[]) (λ(s,t)=> .lst .V (eo s t))
def k99:c99.Ok aH 139:=bA (a7 KO) (raw:=aw) (λ(s,t)=>[lp 4 7 4 (λ_=>[]) [900,11] (λk=>[(6,.own 900 .V (cm s t k).length),(5,.own 11 .V 4)]) (λk=>[(900,.row 53 .V (cm s t k)),(11,.row 53 .V [s.a,s.b,t.a,t.b])]) λk=>[jb 7 34 (onS s (aB0 [s.a,s.b,t.a,t.b] k)&&onS t (aB0 [s.a,s.b,t.a,t.b] k))]]
  ) (λ(_,_)=>⟨_,rfl⟩) λ(s,t) _=>az (q:=(0=(0:Int)/\(cm s t 0).length=0/\(4:Nat)=4/\cm s t 0=([] :List V)/\[s.a,s.b,t.a,t.b] =[s.a,s.b,t.a,t.b]/\(0:Nat)<=4)/\
 (∀x:Nat,x<=4->((x:Int)<4->(ix (x:Int) 4/\x<[s.a,s.b,t.a,t.b].length/\(onS s (aB0 [s.a,s.b,t.a,t.b] x)=true->ix (x:Int) 4/\x<[s.a,s.b,t.a,t.b].length/\onS t (aB0 [s.a,s.b,t.a,t.b] x)=(onS s (aB0 [s.a,s.b,t.a,t.b] x)&&onS t (aB0 [s.a,s.b,t.a,t.b] x)))/\
    (onS s (aB0 [s.a,s.b,t.a,t.b] x)=false->false=(onS s (aB0 [s.a,s.b,t.a,t.b] x)&&onS t (aB0 [s.a,s.b,t.a,t.b] x))))/\
   (∀y:Unit,((onS s (aB0 [s.a,s.b,t.a,t.b] x)&&onS t (aB0 [s.a,s.b,t.a,t.b] x))=true->ix (x:Int) 4/\x<[s.a,s.b,t.a,t.b].length/\(cm s t x).length=(cm s t x).length/\(cm s t x).length+[(aB0 [s.a,s.b,t.a,t.b] x)].length<=1000000/\aG ((x:Int)+1)/\(x:Int)+1=((x+1:Nat):Int)/\(cm s t x++[(aB0 [s.a,s.b,t.a,t.b] x)]).length=(cm s t (x+1)).length/\(4:Nat)=4/\cm s t x++[(aB0 [s.a,s.b,t.a,t.b] x)] =cm s t (x+1)/\[s.a,s.b,t.a,t.b] =[s.a,s.b,t.a,t.b]/\x+1<=4/\4-(x+1)<4-x)/\
    ((onS s (aB0 [s.a,s.b,t.a,t.b] x)&&onS t (aB0 [s.a,s.b,t.a,t.b] x))=false->aG ((x:Int)+1)/\(x:Int)+1=((x+1:Nat):Int)/\(cm s t x).length=(cm s t (x+1)).length/\(4:Nat)=4/\cm s t x=cm s t (x+1)/\[s.a,s.b,t.a,t.b] =[s.a,s.b,t.a,t.b]/\x+1<=4/\4-(x+1)<4-x)))/\
  (¬(x:Int)<4->(cm s t x).length=(cm s t x).length/\(cm s t x).length<=1000/\jc (cm s t x)=eo s t))) (by kernel_rfl) (by
  have e0:cm s t 0=[] :=rfl;have e4:jc (cm s t 4)=eo s t:=rfl;have es:=λk=> @Xf s t k;have el:=Yh s t
  with_reducible ((repeat' first|apply cl|intro);all_goals repeat cases‹_/\_›)
  all_goals grind)
noncomputable def t99:Tab:=aq [(139,c99)] Nj
def MS:t99.Ok aH:=au KO ⟨k99,trivial⟩
noncomputable def c32:Con:=con (ac aS (a1 aS)) (λ(_,_)=>[]) (λ(s,t)=> .int .i64 (cy s t)
 )
def k32:c32.Ok aH 78:=bA (a7 MS) (raw:=aw) (λ(_,_)=>[]) (λ(_,_)=>⟨_,rfl⟩) λ(s,t) _=>az (q:=((!bR s)=true->0=cy s t)/\
 ((!bR s)=false->((!bR t)=true->0=cy s t)/\
  ((!bR t)=false->(1<((eo s t).length:Int)->3=cy s t)/\
   (¬1<((eo s t).length:Int)->(((eo s t).length:Int)=1->1=cy s t)/\
    (¬((eo s t).length:Int)=1->aG (ew s t.a*ew s t.b)/\(ew s t.a*ew s t.b<0->aG (ew t s.a*ew t s.b)/\(ew t s.a*ew t s.b<0->2=cy s t)/\
      (¬ew t s.a*ew t s.b<0->0=cy s t))/\
     (¬ew s t.a*ew s t.b<0->0=cy s t)))))) (by kernel_rfl) (by
  have d1:=vO s t.a;have d2:=vO s t.b;have d3:=vO t s.a;have d4:=vO t s.b;have m1:=iD d1 d2;have m2:=iD d3 d4;unfold cy
  with_reducible ((repeat' first|apply cl|intro);all_goals repeat cases‹_/\_›)
  all_goals grind)
noncomputable def t32:Tab:=aq [(78,c32)] t99
def M9:t32.Ok aH:=au MS ⟨k32,trivial⟩
def eg(r:bF)(k:Nat):List S:=(bN k).map (cu r)
def XY(r:bF)(k:Nat):eg r k++[(⟨aB0 r k,aB0 r ((k+1) % r.length)⟩:S)] =eg r (k+1):=by unfold eg;rw[pJ,dQ];rfl
def Yc(r:bF)(k:Nat):(eg r k).length=k:=by unfold eg;simp
def ar(r:bF)(k:Nat):Int:=((bN k).map λi=>cross (aB0 r i) (nxt r i)).sum
def AY(r:bF)(k:Nat):ar r (k+1)=ar r k+cross (aB0 r k) (aB0 r ((k+1) % r.length)):=by unfold ar;rw[pJ,dQ,xq];simp[nxt]
def mr{r:bF}(h:near r=true){i:Nat}(hi:i<r.length){M:Int}(hM:2000<=M:=by decide):bd M (aB0 r i):=tg (vT h i hi) hM
def Wy{r:bF}{i:Nat}(hi:i<r.length)(h:(!bS (aB0 r i) 2000)=true):near r=false:=by
 cases hn:near r with
 |false=>rfl
 |true=>have:=vT hn i hi;grind
def VU{r:bF}(h:ao (λi=>bS (aB0 r i) 2000=true) r.length):near r=true:=by unfold near;rw[dY];intro v hv;obtain⟨j,hj,rfl⟩:=iA hv;rw[<-nth_eq hj];exact h j hj
def Bp{r:bF}(h:near r=true):∀k:Nat,k<=r.length-> -8000000*(k:Int)<=ar r k/\ar r k<=8000000*k
 |0,_=>by simp[ar]
 |k+1,hk=>by
  have ih:=Bp h k (by omega);have:=pm (mr h (i:=k) (by omega) (M:=2000)) (mr h (i:=(k+1) % r.length) (fJ _ (by omega)) (M:=2000));rw[AY];unfold cross;omega
noncomputable def QL:Con:=con (a1 (aL .V)) (λr=>[r.length<=100000]) (λr=> .lst .S (aQ r))
def aBM:QL.Ok aH 25:=bA (a7 M9) (raw:=aw) (λr=>[lp 5 4 r.length (λ_=>[]) [900] (λk=>[(3,.own 900 .S (eg r k).length)]) (λk=>[(900,.row 57 .S (eg r k))])]
  ) (λ_=>⟨_,rfl⟩) λr hp=>az (q:=((r.length:Int)<2->aQ r=([] :List S))/\
 (¬(r.length:Int)<2->(0=(0:Int)/\(eg r 0).length=0/\eg r 0=([] :List S)/\(0:Nat)<=r.length)/\
  (∀x:Nat,x<=r.length->((x:Int)<r.length->ix (x:Int) r.length/\aG ((x:Int)+1)/\(r.length:Int)≠0/\ix (((x+1) % r.length:Nat):Int) r.length/\(eg r x).length=(eg r x).length/\(eg r x).length+[(⟨(aB0 r x),(aB0 r ((x+1) % r.length))⟩:S)].length<=1000000/\aG ((x:Int)+1)/\(x:Int)+1=((x+1:Nat):Int)/\(eg r x++[(⟨(aB0 r x),(aB0 r ((x+1) % r.length))⟩:S)]).length=(eg r (x+1)).length/\eg r x++[(⟨(aB0 r x),(aB0 r ((x+1) % r.length))⟩:S)] =eg r (x+1)/\x+1<=r.length/\r.length-(x+1)<r.length-x)/\
   (¬(x:Int)<r.length->(eg r x).length=(eg r x).length/\eg r x=aQ r)))) (by kernel_rfl) (by
  change r.length<=100000 at hp;have e0:eg r 0=[] :=rfl;have es:=XY r;have el:=Yc r;have ee:aQ r=if r.length<2 then []else eg r r.length:=rfl
  repeat' first|with_reducible apply cl|with_reducible intro
  all_goals repeat with_reducible cases‹_/\_›
  all_goals first|assumption|rfl|exact trivial|exact nb ‹_› |exact nb' ‹_› |omega|exact eu (by omega)|(unfold ix;omega)|(unfold aG;omega)|exact eN _|exact cA ‹_› ‹_› |(refine cA ‹_› ?_;simp_all;done)|grind)
noncomputable def ON:Tab:=aq [(25,QL)] t32
def LC:ON.Ok aH:=au M9 ⟨aBM,trivial⟩
noncomputable def Pn:Con:=con (a1 (aL .V)) (λr=>[r.length<=100000]) (λr=> .bool (near r))
def aBh:Pn.Ok aH 77:=bA (a7 LC) (raw:=aw) (λr=>[cnt 2 3 r.length (ao λi=>bS (aB0 r i) 2000=true)]
  ) (λ_=>⟨_,rfl⟩) λr hp=>az (q:=(0=(0:Int)/\(0:Nat)<=r.length/\ao (λi=>bS (aB0 r i) 2000=true) 0)/\
 (∀x:Nat,x<=r.length/\ao (λi=>bS (aB0 r i) 2000=true) x->((x:Int)<r.length->ix (x:Int) r.length/\(0:Int)<=2000/\(2000:Int)<=1000000000000/\((!bS (aB0 r x) 2000)=true->false=near r)/\
   ((!bS (aB0 r x) 2000)=false->aG ((x:Int)+1)/\(x:Int)+1=((x+1:Nat):Int)/\x+1<=r.length/\ao (λi=>bS (aB0 r i) 2000=true) (x+1)/\r.length-(x+1)<r.length-x))/\
  (¬(x:Int)<r.length->true=near r))) (by kernel_rfl) (by
  change r.length<=100000 at hp;have e1:= @Wy r;have e2:= @VU r
  repeat' first|with_reducible apply cl|with_reducible intro
  all_goals repeat with_reducible cases‹_/\_›
  all_goals first|assumption|rfl|exact trivial|exact nb ‹_› |exact nb' ‹_› |omega|exact eu (by omega)|(unfold ix;omega)|(unfold aG;omega)|exact eN _|exact cA ‹_› ‹_› |(refine cA ‹_› ?_;simp_all;done)|exact(e2 (by rw[show r.length=_ from(by omega)];assumption)).symm|grind)
noncomputable def Nm:Tab:=aq [(77,Pn)] ON
def KR:Nm.Ok aH:=au LC ⟨aBh,trivial⟩
noncomputable def QE:Con:=con (a1 (aL .V)) (λr=>[near r=true,r.length<=100000]) (λr=> .int .i64 (gH r))
def aBF:QE.Ok aH 79:=bA (a7 KR) (raw:=aw) (λr=>[lp 3 4 r.length (λ_=>[]) [] (λk=>[(3,.int .i64 (ar r k))]) (λ_=>[])]
  ) (λ_=>⟨_,rfl⟩) λr hp=>az (q:=(0=(0:Int)/\0=ar r 0/\(0:Nat)<=r.length)/\
 (∀x:Nat,x<=r.length->((x:Int)<r.length->ix (x:Int) r.length/\aG ((x:Int)+1)/\(r.length:Int)≠0/\ix (((x+1) % r.length:Nat):Int) r.length/\bd 2000000000 (aB0 r x)/\bd 2000000000 (aB0 r ((x+1) % r.length))/\aG (ar r x+cross (aB0 r x) (aB0 r ((x+1) % r.length)))/\aG ((x:Int)+1)/\(x:Int)+1=((x+1:Nat):Int)/\ar r x+cross (aB0 r x) (aB0 r ((x+1) % r.length))=ar r (x+1)/\x+1<=r.length/\r.length-(x+1)<r.length-x)/\
  (¬(x:Int)<r.length->ar r x=gH r))) (by kernel_rfl) (by
  change near r=true/\r.length<=100000 at hp;have e0:ar r r.length=gH r:=rfl;have es:=AY r;have eb:∀x,x<r.length->aG (ar r x+cross (aB0 r x) (aB0 r ((x+1) % r.length))):=λx h=>by rw[<-es];exact cd (by have:=Bp hp.1 (x+1) (by omega);omega)
  have en:=λi hi=> @mr r hp.1 i hi 2000000000
  repeat' first|with_reducible apply cl|with_reducible intro
  all_goals repeat with_reducible cases‹_/\_›
  all_goals first|assumption|rfl|exact trivial|exact nb ‹_› |exact nb' ‹_› |omega|exact eu (by omega)|(unfold ix;omega)|(unfold aG;omega)|exact eN _|exact cA ‹_› ‹_› |(refine cA ‹_› ?_;simp_all;done)|exact eb _ (by omega)|exact en _ (by omega) (by decide)|exact en _ (fJ _ (by omega)) (by decide)|(rw[es])|grind)
noncomputable def OF:Tab:=aq [(79,QE)] Nm
def Kz:OF.Ok aH:=au KR ⟨aBF,trivial⟩
noncomputable def PS:Con:=con (a1 aI) (λn=>[-9000000000000000000<=n,n<=9000000000000000000]) (λn=> .int .i64 (n.natAbs:Int)
 )
def aAY:PS.Ok aH 247:=bA (a7 Kz) (raw:=aw) (λ_=>[]) (λ_=>⟨_,rfl⟩) λn hp=>az (q:=(0<=n->n=bj n)/\
 (¬0<=n->aG (0-n)/\0-n=bj n)) (by kernel_rfl) (by
  change-9000000000000000000<=n/\n<=9000000000000000000 at hp
  repeat' first|with_reducible apply cl|with_reducible intro
  all_goals repeat with_reducible cases‹_/\_›
  all_goals first|assumption|rfl|exact trivial|exact nb ‹_› |exact nb' ‹_› |omega|exact eu (by omega)|(unfold ix;omega)|(unfold aG;omega)|exact eN _|exact cA ‹_› ‹_› |(refine cA ‹_› ?_;simp_all;done)|grind)
noncomputable def NQ:Tab:=aq [(247,PS)] OF
def J3:NQ.Ok aH:=au Kz ⟨aAY,trivial⟩
noncomputable def PT:Con:=con (ac aI (a1 aI)) (λ(a,b)=>[0<=a,0<=b]) (λ(a,b)=> .int .i64 ((bw a.natAbs b.natAbs:Nat):Int))
def aAZ:PT.Ok aH 246:=bA (a7 J3) (raw:=aw) (λ(a,b)=>[(1,.mk (Int×Int) (λF _=>Og F 0 1) [] (λp=>[0<=p.1,0<=p.2,bw p.1.natAbs p.2.natAbs=bw a.natAbs b.natAbs]) (λp=>[(0,.int .i64 p.1),(1,.int .i64 p.2)]) (λ_=>[]) (λp=>p.2.natAbs) (λ_=>[]))]
  ) (λ(_,_)=>⟨_,rfl⟩) λ(a,b) hp=>az (q:=(a=a/\b=b/\0<=a/\0<=b/\bw (bj a) (bj b)=bw (bj a) (bj b))/\
 (∀x:Prod Int Int,0<=x.1/\0<=x.2/\bw (bj x.1) (bj x.2)=bw (bj a) (bj b)->(¬x.2=0->x.2≠0/\x.2=x.2/\dI x.1 x.2=dI x.1 x.2/\0<=x.2/\0<=dI x.1 x.2/\bw (bj x.snd) (bj (dI x.1 x.2))=bw (bj a) (bj b)/\bj (dI x.1 x.2)<bj x.2)/\
  (¬(¬x.2=0)->x.1=bw (bj a) (bj b)))) (by kernel_rfl) (by
  change 0<=a/\0<=b at hp;have e1:∀x y:Int,0<=x->0<=y->bw y.natAbs (dI x y).natAbs=bw x.natAbs y.natAbs:=λx y _ _=>by rw[Ct,Cu,<-Nat.gcd_rec,Cu]
  have e2:∀x y:Int,0<=x->¬y=0->(dI x y).natAbs<y.natAbs:=λx y _ h=>by rw[Ct];exact fJ _ (by omega)
  have e3:∀x y:Int,0<=x->0<=dI x y:=λx y h=>Int.tmod_nonneg _ h
  repeat' first|with_reducible apply cl|with_reducible intro
  all_goals repeat with_reducible cases‹_/\_›
  all_goals first|assumption|rfl|exact trivial|exact nb ‹_› |exact nb' ‹_› |omega|exact eu (by omega)|(unfold ix;omega)|(unfold aG;omega)|exact eN _|exact cA ‹_› ‹_› |(refine cA ‹_› ?_;simp_all;done)|exact e3 _ _ ‹_› |exact e2 _ _ (by assumption) ‹_› |(rw[e1 _ _ (by assumption) (by assumption)];assumption)|(have h0:=xt ‹¬¬_›;simp_all;omega)|grind)
noncomputable def NR:Tab:=aq [(246,PT)] NQ
def J4:NR.Ok aH:=au J3 ⟨aAZ,trivial⟩
def PtB(p:Pt):Prop:=(1<=p.den/\p.den<=134217728)/\(-600000000000<=p.x/\p.x<=600000000000)/\(-600000000000<=p.y/\p.y<=600000000000)
def PtB.of{p:Pt}(h:c9 p=true):PtB p:=by unfold c9 dW bS at h;simp only[cB,decide_eq_true_eq]at h;unfold PtB;omega
def PtB.off{p:Pt}(hp:PtB p){v:V}(hv:bd 10000 v):(-1400000000000<=v.x*p.den/\v.x*p.den<=1400000000000)/\(-1400000000000<=v.y*p.den/\v.y*p.den<=1400000000000):=by have h1:=iD (x:=v.x) (y:=p.den) (A:=10000) (B:=134217728) (by unfold bd at hv;omega) (by unfold PtB at hp;omega);have h2:=iD (x:=v.y) (y:=p.den) (A:=10000) (B:=134217728) (by unfold bd at hv;omega) (by unfold PtB at hp;omega);omega
noncomputable def Pm:Con:=con (a1 aT) (λ_=>[]) (λp=> .bool (c9 p))
def aBg:Pm.Ok aH 230:=bA (a7 J4) (raw:=aw) (λp=>[jb 2 42 (!dW p 4000)]
  ) (λ_=>⟨_,rfl⟩) λp _=>az (q:=((p.den<1->true=(!dW p 4000))/\
  (¬p.den<1->(134217728<p.den->true=(!dW p 4000))/\
   (¬134217728<p.den->aG (-4000*p.den)/\(p.x< -4000*p.den->true=(!dW p 4000))/\
    (¬p.x< -4000*p.den->aG (4000*p.den)/\(4000*p.den<p.x->true=(!dW p 4000))/\
     (¬4000*p.den<p.x->aG (-4000*p.den)/\(p.y< -4000*p.den->true=(!dW p 4000))/\
      (¬p.y< -4000*p.den->aG (4000*p.den)/\decide (4000*p.den<p.y)=(!dW p 4000)))))))/\
 (∀y:Unit,((!dW p 4000)=true->false=c9 p)/\
  ((!dW p 4000)=false-> -9000000000000000000<=p.x/\p.x<=9000000000000000000/\ -9000000000000000000<=p.y/\p.y<=9000000000000000000/\0<=(bj p.x:Int)/\0<=(bj p.y:Int)/\0<=(bw (bj (bj p.x:Int)) (bj (bj p.y:Int)):Int)/\0<=p.den/\decide ((bw (bj (bw (bj (bj p.x:Int)) (bj (bj p.y:Int)):Int)) (bj p.den):Int)=1)=c9 p))) (by kernel_rfl) (by
  unfold c9 dW bS;simp only[Int.natAbs_natCast]
  repeat' first|with_reducible apply cl|with_reducible intro
  all_goals repeat with_reducible cases‹_/\_›
  all_goals first|assumption|rfl|exact trivial|exact nb ‹_› |exact nb' ‹_› |omega|exact eu (by omega)|(unfold ix;omega)|(unfold aG;omega)|exact eN _|exact cA ‹_› ‹_› |(refine cA ‹_› ?_;simp_all;done)|grind)
noncomputable def Nl:Tab:=aq [(230,Pm)] NR
def KQ:Nl.Ok aH:=au J4 ⟨aBg,trivial⟩
noncomputable def Ph:Con:=con (ac aV (ac aV (a1 aT))) (λ(a,b,p)=>[bd 10000 a,bd 10000 b,PtB p]) (λ(a,b,p)=> .int .i64 (sgn (fR ⟨a,b⟩ p))
 )
def aBc:Ph.Ok aH 200:=bA (a7 KQ) (raw:=aw) (λ(_,_,_)=>[]) (λ(_,_,_)=>⟨_,rfl⟩) λ(a,b,p) hp=>az (q:=bd 1000000000 b/\bd 1000000000 a/\aG (a.y*p.den)/\aG (p.y-a.y*p.den)/\aG ((aB3 b a).x*(p.y-a.y*p.den))/\aG (a.x*p.den)/\aG (p.x-a.x*p.den)/\aG ((aB3 b a).y*(p.x-a.x*p.den))/\aG ((aB3 b a).x*(p.y-a.y*p.den)-(aB3 b a).y*(p.x-a.x*p.den))/\sgn ((aB3 b a).x*(p.y-a.y*p.den)-(aB3 b a).y*(p.x-a.x*p.den))=sgn (fR (⟨a,b⟩:S) p)) (by kernel_rfl) (by change bd 10000 a/\bd 10000 b/\PtB p at hp;have h1:=hp.2.2.off hp.1;have h2:=je hp.2.1 hp.1;have h3:=hp.2.2;unfold PtB at h3;have m1:=iD (A:=20000) (B:=2000000000000) h2.1 (y:=p.y-a.y*p.den) (by omega);have m2:=iD (A:=20000) (B:=2000000000000) h2.2 (y:=p.x-a.x*p.den) (by omega);exact⟨hp.2.1.mono,hp.1.mono,cd (by omega),cd (by omega),cd (by omega),cd (by omega),cd (by omega),cd (by omega),cd (by omega),rfl⟩)
noncomputable def Nh:Tab:=aq [(200,Ph)] Nl
def KM:Nh.Ok aH:=au KQ ⟨aBc,trivial⟩
def inR(s:S)(p:Pt):Bool:=decide (min s.a.x s.b.x*p.den<=p.x)&&decide (p.x<=max s.a.x s.b.x*p.den)&&decide (min s.a.y s.b.y*p.den<=p.y)&&decide (p.y<=max s.a.y s.b.y*p.den)
noncomputable def Pi:Con:=con (ac aS (a1 aT)) (λ(s,p)=>[bd 10000 s.a,bd 10000 s.b,PtB p]) (λ(s,p)=> .bool (onR s p))
def aBd:Pi.Ok aH 231:=bA (a7 KM) (raw:=aw) (λ(s,p)=>[jb 2 5 (inR s p)]
  ) (λ(_,_)=>⟨_,rfl⟩) λ(s,p) hp=>az (q:=(aG (Min.min s.a.x s.b.x*p.den)/\(Min.min s.a.x s.b.x*p.den<=p.x->aG (Max.max s.a.x s.b.x*p.den)/\(p.x<=Max.max s.a.x s.b.x*p.den->aG (Min.min s.a.y s.b.y*p.den)/\(Min.min s.a.y s.b.y*p.den<=p.y->aG (Max.max s.a.y s.b.y*p.den)/\decide (p.y<=Max.max s.a.y s.b.y*p.den)=inR s p)/\
    (¬Min.min s.a.y s.b.y*p.den<=p.y->false=inR s p))/\
   (¬p.x<=Max.max s.a.x s.b.x*p.den->false=inR s p))/\
  (¬Min.min s.a.x s.b.x*p.den<=p.x->false=inR s p))/\
 (∀y:Unit,(inR s p=true->bd 10000 s.a/\bd 10000 s.b/\PtB p/\decide (sgn (fR s p)=0)=onR s p)/\
  (inR s p=false->false=onR s p))) (by kernel_rfl) (by
  change bd 10000 s.a/\bd 10000 s.b/\PtB p at hp;have h1:=hp.2.2.off (v:=⟨min s.a.x s.b.x,min s.a.y s.b.y⟩) (by unfold bd at*;grind);have h2:=hp.2.2.off (v:=⟨max s.a.x s.b.x,max s.a.y s.b.y⟩) (by unfold bd at*;grind);dsimp only at h1 h2;have e:onR s p=(inR s p&&sgn (fR s p)==0):=rfl;unfold inR at*
  repeat' first|with_reducible apply cl|with_reducible intro
  all_goals repeat with_reducible cases‹_/\_›
  all_goals first|assumption|rfl|exact trivial|exact nb ‹_› |exact nb' ‹_› |omega|exact eu (by omega)|(unfold ix;omega)|(unfold aG;omega)|exact eN _|exact cA ‹_› ‹_› |(refine cA ‹_› ?_;simp_all;done)|grind)
noncomputable def Ni:Tab:=aq [(231,Pi)] Nh
def KN:Ni.Ok aH:=au KM ⟨aBd,trivial⟩
def f8(r:bF)(i k:Nat):Bool:=if k=i+1\/(i=0/\k=r.length-1)then cy (cu r i) (cu r k)==1 else cy (cu r i) (cu r k)==0
def un(r:bF):dJ r=true↔3<=r.length/\r.length<=40/\near r=true/\(∀i,i<r.length->ba (aB0 r i) (aB0 r ((i+1) % r.length)) (aB0 r ((i+2) % r.length))≠0)/\(∀i k,i<k->k<r.length->f8 r i k=true)/\0<gH r:=by
 unfold dJ;simp only[cB,decide_eq_true_eq,dY,dZ,bne_iff_ne,jS];constructor
 .rintro⟨⟨⟨⟨⟨h1,h2⟩,h3⟩,h4⟩,h5⟩,h6⟩;refine⟨h1,h2,h3,h4,λi k hik hk=> ?_,h6⟩;rcases h5 i (by omega) k hk with h|h
  .omega
  .exact h
 .rintro⟨h1,h2,h3,h4,h5,h6⟩;refine⟨⟨⟨⟨⟨h1,h2⟩,h3⟩,h4⟩,λi hi k hk=> ?_⟩,h6⟩;by_cases h:k<=i
  .exact .inl h
  .exact .inr (h5 i k (by omega) hk)
def rQ(r:bF)(h:2<=r.length):(aQ r).length=r.length:=by unfold aQ;grind
def rV{r:bF}{i:Nat}(h:2<=r.length)(hi:i<r.length):aO (aQ r) i=cu r i:=by rw[mq (by rw[rQ r h];exact hi)];simp only[aQ,if_neg (show¬r.length<2 by omega),uY,uZ]
def tn(p:Pt)(l:List S):Bool:=l.foldl (λb s=>b !=gv s p) false
def Tf{p:Pt}{l:List S}{k:Nat}(h:k<l.length):tn p (l.take (k+1))=(tn p (l.take k) !=gv (aO l k) p):=by unfold tn;rw[pO,c8 h,Cs,mq h];rfl
def E8{p:Pt}:∀{l:List S} {k:Nat} (ins:Bool),k<l.length->(∀j,j<k->onR (aO l j) p=false)->onR (aO l k) p=true->jg p l ins=1
 |[],k,ins,h,_,_=>by simp at h
 |s::l,0,ins,h,_,h2=>by
  unfold jg;rw[show onR s p=true from h2];rfl
 |s::l,k+1,ins,h,h1,h2=>by
  unfold jg;rw[show onR s p=false from h1 0 (by omega)];exact E8 (l:=l) (k:=k) _ (by simpa using h) (λj hj=>h1 (j+1) (by omega)) h2
def EM{p:Pt}:∀{l:List S} (ins:Bool),(∀j,j<l.length->onR (aO l j) p=false)->jg p l ins=if l.foldl (λb s=>b !=gv s p) ins=true then 2 else 0
 |[],ins,_=>rfl
 |s::l,ins,h1=>by
  unfold jg;rw[show onR s p=false from h1 0 (by simp)];exact EM (l:=l) _ (λj hj=>h1 (j+1) (by grind))
def pr(r:bF)(p:Pt)(k:Nat):Bool:=tn p ((aQ r).take k)
def HN{r:bF}(h:dJ r=true){j:Nat}(hj:j<(aQ r).length):bd 2000 (aO (aQ r) j).a/\bd 2000 (aO (aQ r) j).b:=by obtain⟨h1,h2,h3,_⟩:=(un r).1 h;rw[rQ r (by omega)]at hj;rw[rV (by omega) hj];exact⟨mr h3 hj,mr h3 (fJ _ (by omega))⟩
def nxR(r:bF)(i k:Nat):Bool:=decide (k=i+1\/(i=0/\k=r.length-1))
abbrev nE(r:bF)(i:Nat):S:=aO (aQ r) i
def upR(e:S)(p:Pt):Bool:=decide (e.a.y*p.den<=p.y)&&decide (p.y<e.b.y*p.den)
def dnR(e:S)(p:Pt):Bool:=decide (e.b.y*p.den<=p.y)&&decide (p.y<e.a.y*p.den)
def tp(r:bF)(i:Nat):Prop:=ba (aB0 r i) (aB0 r ((i+1) % r.length)) (aB0 r ((i+2) % r.length))≠0
noncomputable def c91:Con:=con (a1 (aL .V)) (λr=>[r.length<=100000]) (λr=> .bool (dJ r))
def k91:c91.Ok aH 24:=bA (a7 KN) (raw:=aw) (λr=>[jP 4 [3<=r.length,r.length<=40,near r=true],cnt 5 4 r.length (ao (tp r)),cnt 11 6 r.length (ao λi=>∀k,i<k->k<r.length->f8 r i k=true) λi=>[(14,.mk Nat (λF _=>nG F 7) [] (λk=>[i<k,k<=r.length,∀j,i<j->j<k->f8 r i j=true]) (λk=>[(7,.int .i64 (k:Int))]) (λ_=>[]) (λk=>r.length-k) λk=>[jb 17 8 (nxR r i k),jb 19 97 (!f8 r i k)])]]
  ) (λ_=>⟨_,rfl⟩) λr hp=>az (q:=(((r.length:Int)<3->false=dJ r)/\
  (¬(r.length:Int)<3->(40<(r.length:Int)->false=dJ r)/\
   (¬40<(r.length:Int)->r.length<=100000/\((!near r)=true->false=dJ r)/\
    ((!near r)=false->(3:Nat)<=r.length/\r.length<=40/\near r=true))))/\
 (∀y:Unit,(3:Nat)<=r.length/\r.length<=40/\near r=true->(0=(0:Int)/\(0:Nat)<=r.length/\ao (tp r) 0)/\
  (∀x:Nat,x<=r.length/\ao (tp r) x->((x:Int)<r.length->ix (x:Int) r.length/\aG ((x:Int)+1)/\(r.length:Int)≠0/\ix (((x+1) % r.length:Nat):Int) r.length/\aG ((x:Int)+2)/\(r.length:Int)≠0/\ix (((x+2) % r.length:Nat):Int) r.length/\bd 1000000000 (aB0 r x)/\bd 1000000000 (aB0 r ((x+1) % r.length))/\bd 1000000000 (aB0 r ((x+2) % r.length))/\(ba (aB0 r x) (aB0 r ((x+1) % r.length)) (aB0 r ((x+2) % r.length))=0->false=dJ r)/\
    (¬ba (aB0 r x) (aB0 r ((x+1) % r.length)) (aB0 r ((x+2) % r.length))=0->aG ((x:Int)+1)/\(x:Int)+1=((x+1:Nat):Int)/\x+1<=r.length/\ao (tp r) (x+1)/\r.length-(x+1)<r.length-x))/\
   (¬(x:Int)<r.length->r.length<=100000/\(0=(0:Int)/\(0:Nat)<=r.length/\ao (λi=>∀k:Nat,i<k->k<r.length->f8 r i k=true) 0)/\
    (∀x_1:Nat,x_1<=r.length/\ao (λi=>∀k:Nat,i<k->k<r.length->f8 r i k=true) x_1->((x_1:Int)<r.length->aG ((x_1:Int)+1)/\((x_1:Int)+1=((x_1+1:Nat):Int)/\x_1<x_1+1/\x_1+1<=r.length/\(∀j:Nat,x_1<j->j<x_1+1->f8 r x_1 j=true))/\
      (∀x_2:Nat,x_1<x_2/\x_2<=r.length/\(∀j:Nat,x_1<j->j<x_2->f8 r x_1 j=true)->((x_2:Int)<r.length->(aG ((x_1:Int)+1)/\((x_2:Int)=x_1+1->true=nxR r x_1 x_2)/\
         (¬(x_2:Int)=x_1+1->((x_1:Int)=0->aG ((r.length:Int)-1)/\decide ((x_2:Int)=r.length-1)=nxR r x_1 x_2)/\
          (¬(x_1:Int)=0->false=nxR r x_1 x_2)))/\
        (∀y_1:Unit,ix (x_1:Int) (aQ r).length/\ix (x_2:Int) (aQ r).length/\((nxR r x_1 x_2=true->(¬cy (aO (aQ r) x_1) (aO (aQ r) x_2)=1->true=(!f8 r x_1 x_2))/\
           (¬(¬cy (aO (aQ r) x_1) (aO (aQ r) x_2)=1)->((!nxR r x_1 x_2)=true->decide (¬cy (aO (aQ r) x_1) (aO (aQ r) x_2)=0)=(!f8 r x_1 x_2))/\
            ((!nxR r x_1 x_2)=false->false=(!f8 r x_1 x_2))))/\
          (nxR r x_1 x_2=false->((!nxR r x_1 x_2)=true->decide (¬cy (aO (aQ r) x_1) (aO (aQ r) x_2)=0)=(!f8 r x_1 x_2))/\
           ((!nxR r x_1 x_2)=false->false=(!f8 r x_1 x_2))))/\
         (∀y_2:Unit,((!f8 r x_1 x_2)=true->false=dJ r)/\
          ((!f8 r x_1 x_2)=false->aG ((x_2:Int)+1)/\(x_2:Int)+1=((x_2+1:Nat):Int)/\x_1<x_2+1/\x_2+1<=r.length/\(∀j:Nat,x_1<j->j<x_2+1->f8 r x_1 j=true)/\r.length-(x_2+1)<r.length-x_2))))/\
       (¬(x_2:Int)<r.length->aG ((x_1:Int)+1)/\(x_1:Int)+1=((x_1+1:Nat):Int)/\x_1+1<=r.length/\ao (λi=>∀k:Nat,i<k->k<r.length->f8 r i k=true) (x_1+1)/\r.length-(x_1+1)<r.length-x_1)))/\
     (¬(x_1:Int)<r.length->near r=true/\r.length<=100000/\decide (0<gH r)=dJ r)))))) (by kernel_rfl) (by
  change r.length<=100000 at hp;have iff:=un r;have hf:(dJ r=true->False)->false=dJ r:=λh=>by grind
  have el:3<=r.length->(aQ r).length=r.length:=λh=>rQ r (by omega);have en:near r=true->∀i,i<r.length->bd 1000000000 (aB0 r i):=λh i hi=>mr h hi;have hp':3<=r.length->∀i k,i<k->k<r.length->f8 r i k=if nxR r i k=true then cy (aO (aQ r) i) (aO (aQ r) k)==1 else cy (aO (aQ r) i) (aO (aQ r) k)==0:=λh i k h1 h2=>by unfold f8 nxR;rw[rV (by omega) (by omega),rV (by omega) (by omega)];grind
  have hE:3<=r.length->r.length<=40->near r=true->∀x y:Nat,¬(x:Int)<r.length->¬(y:Int)<r.length->ao (tp r) x->ao (λi=>∀k:Nat,i<k->k<r.length->f8 r i k=true) y->decide (0<gH r)=dJ r:=λh1 h2 h3 x y hx hy h4 h5=>by rw[mD,iff,decide_eq_true_eq];exact⟨λh=>⟨h1,h2,h3,λi hi=>h4 i (by omega),λi k hi hk=>h5 i (by omega) k hi hk,h⟩,λh=>h.2.2.2.2.2⟩
  repeat' first|with_reducible apply cl|with_reducible intro
  all_goals repeat with_reducible cases‹_/\_›
  all_goals first|assumption|rfl|exact trivial|exact nb ‹_› |exact nb' ‹_› |omega|exact eu (by omega)|(unfold ix;omega)|(unfold aG;omega)|exact eN _|exact cA ‹_› ‹_› |(refine cA ‹_› ?_;simp_all;done)|exact en ‹_› _ (by omega)|exact en ‹_› _ (fJ _ (by omega))|(rw[el ‹_›];exact tG (by omega))|exact hE ‹_› ‹_› ‹_› _ _ ‹_› ‹_› ‹_› ‹_› |(refine hf λh=> ?_;have h:=iff.1 h;first|omega|(exact h.2.2.2.1 _ (by omega) ‹_=0›)|(have h2:=h.2.2.2.2.1 _ _ ‹_› (by omega);simp_all;done)|(simp_all;done))|(refine cA ‹_› ?_;grind)|(unfold nxR;exact(decide_eq_true (by omega)).symm)|(unfold nxR;exact(decide_eq_false (by omega)).symm)|(unfold nxR;exact decide_eq_decide.2 (by omega))|(rw[hp' ‹_› _ _ ‹_› (by omega),‹nxR _ _ _=_›];grind)|(intro j h1 h2;omega)|grind)
noncomputable def t91:Tab:=aq [(24,c91)] Ni
def Ma:t91.Ok aH:=au KN ⟨k91,trivial⟩
noncomputable def QK:Con:=con (ac (aL .V) (a1 aT)) (λ(r,_)=>[r.length<=100000]) (λ(r,p)=> .int .i64 (dK r p))
def aBL:QK.Ok aH 168:=bA (a7 Ma) (raw:=aw) (λ(r,p)=>[jP 3 [dJ r=true,c9 p=true],lp 6 7 (aQ r).length (λk=>[ao (λj=>onR (nE r j) p=false) k]) [] (λk=>[(6,.bool (pr r p k))]) (λ_=>[]) λk=>[(10012,.mk Unit (λ_ _=>some ()) [] (λ_=>[]) (λ_=>[(10,.bool (upR (nE r k) p)),(11,.bool (dnR (nE r k) p))]) (λ_=>[]) (λ_=>0) λ_=>[]),jb 13 97 (gv (nE r k) p)]]
  ) (λ(_,_)=>⟨_,rfl⟩) λ(r,p) hp=>az (q:=(r.length<=100000/\((!dJ r)=true->0=dK r p)/\
  ((!dJ r)=false->((!c9 p)=true->0=dK r p)/\
   ((!c9 p)=false->dJ r=true/\c9 p=true)))/\
 (∀y:Unit,dJ r=true/\c9 p=true->r.length<=100000/\(0=(0:Int)/\false=pr r p 0/\(0:Nat)<=(aQ r).length/\ao (λj=>onR (nE r j) p=false) 0)/\
  (∀x:Nat,x<=(aQ r).length/\ao (λj=>onR (nE r j) p=false) x->((x:Int)<(aQ r).length->ix (x:Int) (aQ r).length/\bd 10000 (nE r x).a/\bd 10000 (nE r x).b/\PtB p/\(onR (nE r x) p=true->1=dK r p)/\
    (onR (nE r x) p=false->ix (x:Int) (aQ r).length/\ix (x:Int) (aQ r).length/\(aG ((nE r x).a.y*p.den)/\((nE r x).a.y*p.den<=p.y->aG ((nE r x).b.y*p.den)/\aG ((nE r x).b.y*p.den)/\((nE r x).b.y*p.den<=p.y->aG ((nE r x).a.y*p.den)/\decide (p.y<(nE r x).b.y*p.den)=upR (nE r x) p/\decide (p.y<(nE r x).a.y*p.den)=dnR (nE r x) p)/\
       (¬(nE r x).b.y*p.den<=p.y->decide (p.y<(nE r x).b.y*p.den)=upR (nE r x) p/\false=dnR (nE r x) p))/\
      (¬(nE r x).a.y*p.den<=p.y->aG ((nE r x).b.y*p.den)/\((nE r x).b.y*p.den<=p.y->aG ((nE r x).a.y*p.den)/\false=upR (nE r x) p/\decide (p.y<(nE r x).a.y*p.den)=dnR (nE r x) p)/\
       (¬(nE r x).b.y*p.den<=p.y->false=upR (nE r x) p/\false=dnR (nE r x) p)))/\
     (∀y_1:Unit,((upR (nE r x) p=true->bd 10000 (nE r x).a/\bd 10000 (nE r x).b/\PtB p/\(0<sgn (fR (nE r x) p)->true=gv (nE r x) p)/\
        (¬0<sgn (fR (nE r x) p)->(dnR (nE r x) p=true->bd 10000 (nE r x).a/\bd 10000 (nE r x).b/\PtB p/\decide (sgn (fR (nE r x) p)<0)=gv (nE r x) p)/\
         (dnR (nE r x) p=false->false=gv (nE r x) p)))/\
       (upR (nE r x) p=false->(dnR (nE r x) p=true->bd 10000 (nE r x).a/\bd 10000 (nE r x).b/\PtB p/\decide (sgn (fR (nE r x) p)<0)=gv (nE r x) p)/\
        (dnR (nE r x) p=false->false=gv (nE r x) p)))/\
      (∀y_2:Unit,(gv (nE r x) p=true->aG ((x:Int)+1)/\(x:Int)+1=((x+1:Nat):Int)/\(!pr r p x)=pr r p (x+1)/\x+1<=(aQ r).length/\ao (λj=>onR (nE r j) p=false) (x+1)/\(aQ r).length-(x+1)<(aQ r).length-x)/\
       (gv (nE r x) p=false->aG ((x:Int)+1)/\(x:Int)+1=((x+1:Nat):Int)/\pr r p x=pr r p (x+1)/\x+1<=(aQ r).length/\ao (λj=>onR (nE r j) p=false) (x+1)/\(aQ r).length-(x+1)<(aQ r).length-x)))))/\
   (¬(x:Int)<(aQ r).length->(pr r p x=true->2=dK r p)/\
    (pr r p x=false->0=dK r p))))) (by kernel_rfl) (by
  change r.length<=100000 at hp;have e0:pr r p 0=false:=rfl;have es:∀k,k<(aQ r).length->pr r p (k+1)=(pr r p k !=gv (nE r k) p):=λk h=>Tf h;have eh:∀e,gv e p=(upR e p&&decide (0<sgn (fR e p))||dnR e p&&decide (sgn (fR e p)<0)):=λe=>rfl;have hw0:dJ r=false\/c9 p=false->0=dK r p:=λh=>by unfold dK;grind
  have hw:dJ r=true->c9 p=true->dK r p=jg p (aQ r) false:=λh1 h2=>by unfold dK;simp[h1,h2]
  have eb:dJ r=true->∀j,j<(aQ r).length->bd 2000 (nE r j).a/\bd 2000 (nE r j).b:=λh j hj=>HN h hj;have el:(aQ r).length<=100000:=by unfold aQ;split<;>simp<;>omega
  have ey:dJ r=true->c9 p=true->∀j,j<(aQ r).length->aG ((nE r j).a.y*p.den)/\aG ((nE r j).b.y*p.den):=λh1 h2 j hj=>⟨cd (by have:=(PtB.of h2).off (eb h1 j hj).1.mono;omega),cd (by have:=(PtB.of h2).off (eb h1 j hj).2.mono;omega)⟩;have s1:∀j,j<(aQ r).length->ao (λj=>onR (nE r j) p=false) j->onR (nE r j) p=true->jg p (aQ r) false=1:=λj h1 h2 h3=>E8 false h1 h2 h3;have s2:∀k:Nat,¬(k:Int)<(aQ r).length->k<=(aQ r).length->ao (λj=>onR (nE r j) p=false) k->jg p (aQ r) false=if pr r p k=true then 2 else 0:=λk h1 h2 h=>by
   obtain rfl:k=(aQ r).length:=by omega
   rw[EM false h];unfold pr tn;grind
  repeat' first|with_reducible apply cl|with_reducible intro
  all_goals repeat with_reducible cases‹_/\_›
  all_goals first|assumption|rfl|exact trivial|exact nb ‹_› |exact nb' ‹_› |omega|exact eu (by omega)|(unfold ix;omega)|(unfold aG;omega)|exact eN _|exact cA ‹_› ‹_› |(refine cA ‹_› ?_;simp_all;done)|exact(eb ‹_› _ (by omega)).1.mono|exact(eb ‹_› _ (by omega)).2.mono|exact(ey ‹_› ‹_› _ (by omega)).1|exact(ey ‹_› ‹_› _ (by omega)).2|exact PtB.of ‹_› |exact hw0 (.inl (nb' ‹_›))|exact hw0 (.inr (nb' ‹_›))|(rw[hw ‹_› ‹_›,s1 _ (by omega) ‹_› ‹_›])|(rw[hw ‹_› ‹_›,s2 _ ‹_› ‹_› ‹_›,‹pr _ _ _=_›];rfl)|(rw[es _ (by omega),‹gv _ _=_›];simp;done)|(rw[eh,‹upR _ _=_›,‹dnR _ _=_›];grind)|(rw[eh,‹upR _ _=_›];simp_all;done)|(unfold upR;simp_all;done)|(unfold dnR;simp_all;done)|grind)
noncomputable def OM:Tab:=aq [(168,QK)] t91
def LB:OM.Ok aH:=au Ma ⟨aBL,trivial⟩
noncomputable def c36:Con:=con (ac (aL .V) (a1 aV)) (λ(r,_)=>[r.length<=100000]) (λ(r,v)=> .int .i64 (iO r v)
 )
def k36:c36.Ok aH 167:=bA (a7 LB) (raw:=aw) (λ(_,_)=>[]) (λ(_,_)=>⟨_,rfl⟩) λ(r,v) hp=>az (q:=(0:Int)<=8000/\(8000:Int)<=1000000000000/\((!bS v 8000)=true->0=iO r v)/\
 ((!bS v 8000)=false->r.length<=100000/\dK r (bQ v)=iO r v)) (by kernel_rfl) (by change r.length<=100000 at hp;unfold iO;grind)
noncomputable def t36:Tab:=aq [(167,c36)] OM
def aAg:t36.Ok aH:=au LB ⟨k36,trivial⟩
noncomputable def t97:Tab:=t36
def MU:t97.Ok aH:=aAg
noncomputable def c96:Con:=con (ac aS (a1 aS)) (λ(s,t)=>[cy s t=1]) (λ(s,t)=> .tup [aT.enc (bQ (aB0 (eo s t) 0)),.bool true]
 )
def k96:c96.Ok aH 121:=bA (a7 MU) (raw:=aw) (λ(_,_)=>[]) (λ(_,_)=>⟨_,rfl⟩) λ(s,t) hp=>az (q:=(cy s t=1->ix 0 (eo s t).length/\(bQ (aB0 (eo s t) 0)).x=(bQ (aB0 (eo s t) 0)).x/\(bQ (aB0 (eo s t) 0)).y=(bQ (aB0 (eo s t) 0)).y/\(bQ (aB0 (eo s t) 0)).den=(bQ (aB0 (eo s t) 0)).den/\true=true)/\
 (¬cy s t=1->(cy s t=2->bd 1000000000 s.b/\bd 1000000000 s.a/\bd 1000000000 t.b/\bd 1000000000 t.a/\bd 2000000000 (aB3 s.b s.a)/\bd 2000000000 (aB3 t.b t.a)/\bd 1000000000 t.a/\bd 1000000000 s.a/\bd 2000000000 (aB3 t.a s.a)/\bd 2000000000 (aB3 t.b t.a)/\aG (s.a.x*cross (aB3 s.b s.a) (aB3 t.b t.a))/\aG ((aB3 s.b s.a).x*cross (aB3 t.a s.a) (aB3 t.b t.a))/\aG (s.a.x*cross (aB3 s.b s.a) (aB3 t.b t.a)+(aB3 s.b s.a).x*cross (aB3 t.a s.a) (aB3 t.b t.a))/\aG (s.a.y*cross (aB3 s.b s.a) (aB3 t.b t.a))/\aG ((aB3 s.b s.a).y*cross (aB3 t.a s.a) (aB3 t.b t.a))/\aG (s.a.y*cross (aB3 s.b s.a) (aB3 t.b t.a)+(aB3 s.b s.a).y*cross (aB3 t.a s.a) (aB3 t.b t.a))/\False)/\
  (¬cy s t=2->0=(bQ (aB0 (eo s t) 0)).x/\0=(bQ (aB0 (eo s t) 0)).y/\0=(bQ (aB0 (eo s t) 0)).den/\false=true))) (by kernel_rfl) (by
  change cy s t=1 at hp;have hl:(eo s t).length=1:=by unfold cy at hp;grind
  with_reducible ((repeat' first|apply cl|intro);all_goals repeat cases‹_/\_›)
  all_goals grind)
noncomputable def t96:Tab:=aq [(121,c96)] t97
def MV:t96.Ok aH:=au MU ⟨k96,trivial⟩
def ut(r:bF):∀k,bo r k<=k
 |0=>bD _
 |k+1=>by unfold bo;have:=ut r k;grind
def yR{r:bF}{k:Nat}(h:0<k):bo r k<k:=Geo.yR r k h
def XF(r:bF)(k:Nat):bo r (k+1)=if bV (aB0 r k) (aB0 r (bo r k))=true then k else bo r k:=rfl
noncomputable def Py:Con:=con (a1 (aL .V)) (λr=>[r.length<=100000]) (λr=> .lst .V (dN r))
def aBr:Py.Ok aH 170:=bA (a7 MV) (raw:=aw) (λr=>[lp 3 4 r.length (λ_=>[]) [] (λk=>[(3,.int .i64 (bo r k))]) (λ_=>[])]
  ) (λ_=>⟨_,rfl⟩) λr hp=>az (q:=(0=(0:Int)/\0=(bo r 0:Int)/\(0:Nat)<=r.length)/\
 (∀x:Nat,x<=r.length->((x:Int)<r.length->ix (x:Int) r.length/\ix (bo r x:Int) r.length/\(bV (aB0 r x) (aB0 r (bo r x))=true->aG ((x:Int)+1)/\(x:Int)+1=((x+1:Nat):Int)/\(x:Int)=bo r (x+1)/\x+1<=r.length/\r.length-(x+1)<r.length-x)/\
   (bV (aB0 r x) (aB0 r (bo r x))=false->aG ((x:Int)+1)/\(x:Int)+1=((x+1:Nat):Int)/\(bo r x:Int)=bo r (x+1)/\x+1<=r.length/\r.length-(x+1)<r.length-x))/\
  (¬(x:Int)<r.length->(0<=(bo r x:Int)/\(bo r x:Int)<=r.length)/\([] :List V).length+(cP (bo r x) r).length<=1000000/\(0<=(bo r x:Int)/\(bo r x:Int)<=r.length)/\(([] :List V)++cP (bo r x) r).length=(([] :List V)++cP (bo r x) r).length/\(([] :List V)++cP (bo r x) r).length+(bM (bo r x) r).length<=1000000/\(([] :List V)++cP (bo r x) r++bM (bo r x) r).length=(([] :List V)++cP (bo r x) r++bM (bo r x) r).length/\([] :List V)++cP (bo r x) r++bM (bo r x) r=dN r))) (by kernel_rfl) (by
  change r.length<=100000 at hp;have e0:bo r 0=0:=rfl;have es:=XF r;have el:=ut r;have eb:([] :List V)++cP (bo r r.length) r++bM (bo r r.length) r=dN r:=rfl
  with_reducible ((repeat' first|apply cl|intro);all_goals repeat cases‹_/\_›)
  all_goals grind)
noncomputable def Nw:Tab:=aq [(170,Py)] t96
def Y6:Nw.Ok aH:=au MV ⟨aBr,trivial⟩
noncomputable def t71:Tab:=Nw
def Mn:t71.Ok aH:=Y6
def Wh{a b:bF}{k:Nat}(h:¬aB0 a k=aB0 b k):false=(a==b):=by grind
def VA{a b:bF}(hl:(a.length:Int)=b.length){k:Nat}(hk:¬(k:Int)<a.length)(h:ao (λj=>aB0 a j=aB0 b j) k):true=(a==b):=by symm;rw[beq_iff_eq];refine List.ext_getElem (by omega) λj h1 h2=> ?_;rw[<-nth_eq h1,<-nth_eq h2];exact h j (by omega)
noncomputable def c23:Con:=con (ac (aL .V) (a1 (aL .V))) (λ(a,_)=>[a.length<=1000000]) (λ(a,b)=> .bool (a==b))
def k23:c23.Ok aH 169:=bA (a7 Mn) (raw:=aw) (λ(a,b)=>[cnt 4 5 a.length (ao λj=>aB0 a j=aB0 b j)]
  ) (λ(_,_)=>⟨_,rfl⟩) λ(a,b) hp=>az (q:=(¬(a.length:Int)=b.length->false=(a==b))/\
 (¬(¬(a.length:Int)=b.length)->(0=(0:Int)/\(0:Nat)<=a.length/\ao (λj=>aB0 a j=aB0 b j) 0)/\
  (∀x:Nat,x<=a.length/\ao (λj=>aB0 a j=aB0 b j) x->((x:Int)<a.length->ix (x:Int) a.length/\ix (x:Int) b.length/\(¬(aB0 a x)=(aB0 b x)->false=(a==b))/\
    (¬(¬(aB0 a x)=(aB0 b x))->aG ((x:Int)+1)/\(x:Int)+1=((x+1:Nat):Int)/\x+1<=a.length/\ao (λj=>aB0 a j=aB0 b j) (x+1)/\a.length-(x+1)<a.length-x))/\
   (¬(x:Int)<a.length->true=(a==b))))) (by kernel_rfl) (by
  change a.length<=1000000 at hp
  with_reducible ((repeat' first|apply cl|intro);all_goals repeat cases‹_/\_›)
  all_goals first|rfl|exact Wh ‹¬aB0 a _=_› |exact VA (by omega) ‹_› ‹_› |grind)
noncomputable def t23:Tab:=aq [(169,c23)] t71
def NC:t23.Ok aH:=au Mn ⟨k23,trivial⟩
noncomputable def c76:Con:=con (ac (aL .V) (a1 (aL .V))) (λ(a,_)=>[a.length<=1000000]) (λ(a,b)=> .bool (a==b)
 )
def k76:c76.Ok aH 103:=bA (a7 NC) (raw:=aw) (λ(_,_)=>[]) (λ(_,_)=>⟨_,rfl⟩) λ(a,b) hp=>az (q:=a.length<=1000000/\(a==b)=(a==b)) (by kernel_rfl) (by change a.length<=1000000 at hp;grind)
noncomputable def t76:Tab:=aq [(103,c76)] t23
def Mi:t76.Ok aH:=au NC ⟨k76,trivial⟩
def Fit(s:Shape):Prop:=s.outer.length<=1000/\s.holes.length<=900/\∀r∈s.holes,r.length<=1000
def Fit.rings{s:Shape}(hf:Fit s):∀r∈dF s,r.length<=1000:=by
 intro r hr;unfold dF at hr;rcases bh.1 hr with rfl|hr
 .exact hf.1
 .exact hf.2.2 r hr
def Fit.ring{s:Shape}(hf:Fit s){k:Nat}(hk:k<(dF s).length):(aa (dF s) k).length<=1000:=hf.rings _ (sB hk)
def Fit.hole{s:Shape}(hf:Fit s){k:Nat}(hk:k<s.holes.length):(aa s.holes k).length<=1000:=hf.2.2 _ (sB hk)
def Fit.rlen{s:Shape}(hf:Fit s):(dF s).length<=901:=by have:=hf.2.1;simp[dF];omega
def eS(s:Shape)(k:Nat):List S:=((dF s).take k).flatMap aQ
def HR{s:Shape}{k:Nat}(h:k<(dF s).length):eS s k++aQ (aa (dF s) k)=eS s (k+1):=by unfold eS;rw[pO,c8 h,List.flatMap_append,sR h];simp
def zY(r:bF):(aQ r).length<=r.length:=by unfold aQ;grind
def Is{s:Shape}(hf:Fit s):∀k,k<=(dF s).length->(eS s k).length<=1000*k
 |0,_=>by simp[eS]
 |k+1,h=>by
  rw[<-HR (by omega),dj];have:=Is hf k (by omega);have:=zY (aa (dF s) k);have:=hf.ring (k:=k) (by omega);omega
def Yd(s:Shape):eS s (dF s).length=Az s:=by unfold eS;rw[iM];rfl
noncomputable def QM:Con:=con (a1 aSh) (λs=>[Fit s]) (λs=> .lst .R (dF s)
 )
def aBN:QM.Ok aH 102:=bA (a7 Mi) (raw:=aw) (λ_=>[]) (λ_=>⟨_,rfl⟩) λs hp=>az (q:=[s.outer].length+s.holes.length<=1000000/\([s.outer] ++s.holes).length=([s.outer] ++s.holes).length/\[s.outer] ++s.holes=dF s) (by kernel_rfl) (by change Fit s at hp;have h:=hp.2.1;exact⟨by simp;omega,rfl,rfl⟩)
noncomputable def OO:Tab:=aq [(102,QM)] t76
def LD:OO.Ok aH:=au Mi ⟨aBN,trivial⟩
noncomputable def c33:Con:=con (a1 aSh) (λs=>[Fit s]) (λs=> .lst .S (Az s))
def k33:c33.Ok aH 34:=bA (a7 LD) (raw:=aw) (λs=>[lp 4 5 (dF s).length (λ_=>[]) [900] (λk=>[(3,.own 900 .S (eS s k).length)]) (λk=>[(900,.row 57 .S (eS s k))])]
  ) (λ_=>⟨_,rfl⟩) λs hp=>az (q:=Fit s/\(0=(0:Int)/\(eS s 0).length=0/\eS s 0=([] :List S)/\(0:Nat)<=(dF s).length)/\
 (∀x:Nat,x<=(dF s).length->((x:Int)<(dF s).length->ix (x:Int) (dF s).length/\(aa (dF s) x).length<=100000/\(eS s x).length=(eS s x).length/\(eS s x).length+(aQ (aa (dF s) x)).length<=1000000/\aG ((x:Int)+1)/\(x:Int)+1=((x+1:Nat):Int)/\(eS s x++aQ (aa (dF s) x)).length=(eS s (x+1)).length/\eS s x++aQ (aa (dF s) x)=eS s (x+1)/\x+1<=(dF s).length/\(dF s).length-(x+1)<(dF s).length-x)/\
  (¬(x:Int)<(dF s).length->(eS s x).length=(eS s x).length/\eS s x=Az s))) (by kernel_rfl) (by
  change Fit s at hp;have e0:eS s 0=[] :=rfl;have ea:=Yd s;have er:=hp.rlen;have es:= @HR s;have eb:∀k,k<(dF s).length->(eS s k).length+(aQ (aa (dF s) k)).length<=1000000:=λk h=>by have:=Is hp (k+1) (by omega);grind
  have ek:= @Fit.ring s hp
  with_reducible ((repeat' first|apply cl|intro);all_goals repeat cases‹_/\_›)
  all_goals grind)
noncomputable def t33:Tab:=aq [(34,c33)] OO
def M8:t33.Ok aH:=au LD ⟨k33,trivial⟩
def fh(a b:bF)(al:Bool):Bool:=if al=true then nw a b else jC a b
def Si{a b:bF}{al:Bool}{j:Nat}(hj:j<a.length)(h:(iO b (aB0 a j)==2)≠al):fh a b al= !al:=by
 unfold fh nw jC;cases al with
 |true=>rw[if_pos rfl];exact Cv.2 ⟨_,Gn hj,by simpa using h⟩
 |false=>rw[if_neg (by simp)];exact ni.2 ⟨_,Gn hj,by simpa using h⟩
def R6{a b:bF}{al:Bool}(h:∀j,j<a.length->(iO b (aB0 a j)==2)=al):fh a b al=al:=by
 unfold fh nw jC;cases al with
 |true=>
  rw[if_pos rfl];refine dY.2 λx hx=> ?_;obtain⟨j,hj,rfl⟩:=iA hx;rw[<-nth_eq hj];exact h j hj
 |false=>
  rw[if_neg (by simp)];refine Cw.2 λx hx=> ?_;obtain⟨j,hj,rfl⟩:=iA hx;rw[<-nth_eq hj,h j hj];simp
def gl(s:Shape)(i:Nat):Bool:=dJ (aa s.holes i)&& !gL (aa s.holes i) s.outer&&nw (aa s.holes i) s.outer
def gK(s:Shape)(i k:Nat):Bool:= !gL (aa s.holes i) (aa s.holes k)&& !jC (aa s.holes i) (aa s.holes k)&& !jC (aa s.holes k) (aa s.holes i)
def gX(s:Shape)(k:Nat):Nat:=s.outer.length+((s.holes.take k).map fe).sum
def Dk(s:Shape):gX s 0=s.outer.length:=by simp[gX]
def Dl{s:Shape}{k:Nat}(h:k<s.holes.length):gX s (k+1)=gX s k+(aa s.holes k).length:=by unfold gX;rw[pO,c8 h,dQ,xq,sR h,<-Nat.add_assoc];rfl
def Sx(s:Shape):gX s s.holes.length=ii s:=by unfold gX ii dF;grind
def UK{s:Shape}(hf:Fit s)(k:Nat)(hk:k<=s.holes.length):gX s k<=1000*(k+1):=by
 induction k with
 |zero=>have:=hf.1;rw[Dk];omega
 |succ k ih=>
  rw[Dl (by omega)];have h1:=ih (by omega);have h2:=hf.2.2 _ (sB (show k<s.holes.length by omega));omega
def rR(s:Shape):dT s=true↔s.holes.length<=6/\dJ s.outer=true/\(∀i,i<s.holes.length->gl s i=true/\∀k,k<i->gK s i k=true)/\ii s<=80:=by unfold dT;simp only[cB,decide_eq_true_eq,dY,dZ];unfold gl gK;grind
def Va{a b:bF}{i j:Nat}(h:¬cy (aO (aQ a) i) (aO (aQ b) j)=0)(hi:i<(aQ a).length)(hj:j<(aQ b).length):true=gL a b:=by unfold gL;symm;exact ni.2 ⟨_,vS hi,ni.2 ⟨_,vS hj,by simpa using h⟩⟩
def qm(a b:bF)(i:Nat):Prop:=∀j,j<(aQ b).length->cy (aO (aQ a) i) (aO (aQ b) j)=0
def VZ{a b:bF}{k:Nat}(hk:¬(k:Int)<(aQ a).length)(h:ao (qm a b) k):false=gL a b:=by unfold gL;symm;refine Cw.2 λx hx=> ?_;obtain⟨i,hi,rfl⟩:=iA hx;rw[<-mq hi,Bool.not_eq_true];refine Cw.2 λy hy=> ?_;obtain⟨j,hj,rfl⟩:=iA hy;rw[<-mq hj,h i (by omega) j hj];decide
def Wx{a b:bF}{i k:Nat}(hk:¬(k:Int)<(aQ b).length)(h:ao (λj=>cy (aO (aQ a) i) (aO (aQ b) j)=0) k):qm a b i:=λj hj=>h j (by omega)
noncomputable def QA:Con:=con (ac (aL .V) (a1 (aL .V))) (λ(a,b)=>[a.length<=100000,b.length<=100000]) (λ(a,b)=> .bool (gL a b))
def aBC:QA.Ok aH 99:=bA (a7 M8) (raw:=aw) (λ(a,b)=>[cnt 3 7 (aQ a).length (ao (qm a b)) λi=>[cnt 6 8 (aQ b).length (ao λj=>cy (aO (aQ a) i) (aO (aQ b) j)=0)]]
  ) (λ(_,_)=>⟨_,rfl⟩) λ(a,b) hp=>az (q:=a.length<=100000/\b.length<=100000/\(0=(0:Int)/\(0:Nat)<=(aQ a).length/\ao (qm a b) 0)/\
 (∀x:Nat,x<=(aQ a).length/\ao (qm a b) x->((x:Int)<(aQ a).length->(0=(0:Int)/\(0:Nat)<=(aQ b).length/\ao (λj=>cy (aO (aQ a) x) (aO (aQ b) j)=0) 0)/\
   (∀x_1:Nat,x_1<=(aQ b).length/\ao (λj=>cy (aO (aQ a) x) (aO (aQ b) j)=0) x_1->((x_1:Int)<(aQ b).length->ix (x:Int) (aQ a).length/\ix (x_1:Int) (aQ b).length/\(¬cy (aO (aQ a) x) (aO (aQ b) x_1)=0->true=gL a b)/\
     (¬(¬cy (aO (aQ a) x) (aO (aQ b) x_1)=0)->aG ((x_1:Int)+1)/\(x_1:Int)+1=((x_1+1:Nat):Int)/\x_1+1<=(aQ b).length/\ao (λj=>cy (aO (aQ a) x) (aO (aQ b) j)=0) (x_1+1)/\(aQ b).length-(x_1+1)<(aQ b).length-x_1))/\
    (¬(x_1:Int)<(aQ b).length->aG ((x:Int)+1)/\(x:Int)+1=((x+1:Nat):Int)/\x+1<=(aQ a).length/\ao (qm a b) (x+1)/\(aQ a).length-(x+1)<(aQ a).length-x)))/\
  (¬(x:Int)<(aQ a).length->false=gL a b))) (by kernel_rfl) (by
  change a.length<=100000/\b.length<=100000 at hp;have ha:=zY a;have hb:=zY b
  repeat' first|with_reducible apply cl|with_reducible intro
  all_goals repeat with_reducible cases‹_/\_›
  all_goals first|assumption|rfl|exact trivial|exact nb ‹_› |exact nb' ‹_› |omega|exact eu (by omega)|(unfold ix;omega)|(unfold aG;omega)|exact eN _|exact cA ‹_› ‹_› |(refine cA ‹_› ?_;simp_all;done)|exact Va ‹¬cy _ _=0› (by omega) (by omega)|exact VZ ‹_› ‹_› |exact cA ‹_› (Wx ‹_› ‹_›)|(refine cA ‹_› ?_;exact xt ‹¬¬_›)|grind)
noncomputable def OD:Tab:=aq [(99,QA)] t33
def Kt:OD.Ok aH:=au M8 ⟨aBC,trivial⟩
def inQ(a b:bF)(al:Bool)(j:Nat):Prop:=(iO b (aB0 a j)==2)=al
noncomputable def P9:Con:=con (ac (aL .V) (ac (aL .V) (a1 aB))) (λ(a,b,_)=>[a.length<=100000,b.length<=100000]) (λ(a,b,al)=> .bool (fh a b al))
def aBB:P9.Ok aH 100:=bA (a7 Kt) (raw:=aw) (λ(a,b,al)=>[cnt 2 7 a.length (ao (inQ a b al))]
  ) (λ(_,_,_)=>⟨_,rfl⟩) λ(a,b,al) hp=>az (q:=(0=(0:Int)/\(0:Nat)<=a.length/\ao (inQ a b al) 0)/\
 (∀x:Nat,x<=a.length/\ao (inQ a b al) x->((x:Int)<a.length->ix (x:Int) a.length/\b.length<=100000/\((decide (iO b (aB0 a x)=2) !=al)=true->(!al)=fh a b al)/\
   ((decide (iO b (aB0 a x)=2) !=al)=false->aG ((x:Int)+1)/\(x:Int)+1=((x+1:Nat):Int)/\x+1<=a.length/\ao (inQ a b al) (x+1)/\a.length-(x+1)<a.length-x))/\
  (¬(x:Int)<a.length->al=fh a b al))) (by kernel_rfl) (by
  change a.length<=100000/\b.length<=100000 at hp;have c1:∀j:Nat,(decide (iO b (aB0 a j)=2) !=al)=true->j<a.length->(!al)=fh a b al:=λj h hj=>(Si hj (bne_iff_ne.1 h)).symm;have c2:∀j:Nat,(decide (iO b (aB0 a j)=2) !=al)=false->inQ a b al j:=λj h=>bne_eq_false_iff_eq.1 h;have e2:∀k:Nat,¬(k:Int)<a.length->ao (inQ a b al) k->fh a b al=al:=λk h1 h2=>R6 λj hj=>h2 j (by omega)
  repeat' first|with_reducible apply cl|with_reducible intro
  all_goals repeat with_reducible cases‹_/\_›
  all_goals first|assumption|rfl|exact trivial|exact nb ‹_› |exact nb' ‹_› |omega|exact eu (by omega)|(unfold ix;omega)|(unfold aG;omega)|exact eN _|exact cA ‹_› ‹_› |(refine cA ‹_› ?_;simp_all;done)|exact(e2 _ ‹_› ‹_›).symm|grind|exact cA ‹_› (c2 _ ‹_›)|grind)
noncomputable def OC:Tab:=aq [(100,P9)] OD
def Ks:OC.Ok aH:=au Kt ⟨aBB,trivial⟩
noncomputable def c58:Con:=con (a1 aSh) (λs=>[Fit s]) (λs=> .bool (dT s))
def k58:c58.Ok aH 31:=bA (a7 Ks) (raw:=aw) (λs=>[jP 3 [s.holes.length<=6,dJ s.outer=true],lp 5 4 s.holes.length (λk=>[ao (λi=>gl s i=true/\∀k,k<i->gK s i k=true) k]) [] (λk=>[(3,.int .i64 (gX s k:Int))]) (λ_=>[]) λi=>[jP 11 [gl s i=true],cnt 12 6 i (ao λk=>gK s i k=true)]]
  ) (λ_=>⟨_,rfl⟩) λs hp=>az (q:=((6<(s.holes.length:Int)->false=dT s)/\
  (¬6<(s.holes.length:Int)->s.outer.length<=100000/\((!dJ s.outer)=true->false=dT s)/\
   ((!dJ s.outer)=false->s.holes.length<=6/\dJ s.outer=true)))/\
 (∀y:Unit,s.holes.length<=6/\dJ s.outer=true->(0=(0:Int)/\(s.outer.length:Int)=gX s 0/\(0:Nat)<=s.holes.length/\ao (λi=>gl s i=true/\(∀k:Nat,k<i->gK s i k=true)) 0)/\
  (∀x:Nat,x<=s.holes.length/\ao (λi=>gl s i=true/\(∀k:Nat,k<i->gK s i k=true)) x->((x:Int)<s.holes.length->ix (x:Int) s.holes.length/\aG ((gX s x:Int)+(aa s.holes x).length)/\((aa s.holes x).length<=100000/\((!dJ (aa s.holes x))=true->false=dT s)/\
     ((!dJ (aa s.holes x))=false->(aa s.holes x).length<=100000/\s.outer.length<=100000/\(gL (aa s.holes x) s.outer=true->false=dT s)/\
      (gL (aa s.holes x) s.outer=false->(aa s.holes x).length<=100000/\s.outer.length<=100000/\((!fh (aa s.holes x) s.outer true)=true->false=dT s)/\
       ((!fh (aa s.holes x) s.outer true)=false->gl s x=true))))/\
    (∀y_1:Unit,gl s x=true->(0=(0:Int)/\(0:Nat)<=x/\ao (λk=>gK s x k=true) 0)/\
     (∀x_1:Nat,x_1<=x/\ao (λk=>gK s x k=true) x_1->((x_1:Int)<x->ix (x_1:Int) s.holes.length/\(aa s.holes x).length<=100000/\(aa s.holes x_1).length<=100000/\(gL (aa s.holes x) (aa s.holes x_1)=true->false=dT s)/\
       (gL (aa s.holes x) (aa s.holes x_1)=false->ix (x_1:Int) s.holes.length/\(aa s.holes x).length<=100000/\(aa s.holes x_1).length<=100000/\(fh (aa s.holes x) (aa s.holes x_1) false=true->false=dT s)/\
        (fh (aa s.holes x) (aa s.holes x_1) false=false->ix (x_1:Int) s.holes.length/\(aa s.holes x_1).length<=100000/\(aa s.holes x).length<=100000/\(fh (aa s.holes x_1) (aa s.holes x) false=true->false=dT s)/\
         (fh (aa s.holes x_1) (aa s.holes x) false=false->aG ((x_1:Int)+1)/\(x_1:Int)+1=((x_1+1:Nat):Int)/\x_1+1<=x/\ao (λk=>gK s x k=true) (x_1+1)/\x-(x_1+1)<x-x_1))))/\
      (¬(x_1:Int)<x->aG ((x:Int)+1)/\(x:Int)+1=((x+1:Nat):Int)/\(gX s x:Int)+(aa s.holes x).length=gX s (x+1)/\x+1<=s.holes.length/\ao (λi=>gl s i=true/\(∀k:Nat,k<i->gK s i k=true)) (x+1)/\s.holes.length-(x+1)<s.holes.length-x))))/\
   (¬(x:Int)<s.holes.length->decide ((gX s x:Int)<=80)=dT s)))) (by kernel_rfl) (by
  change Fit s at hp;have hf:(dT s=true->False)->false=dT s:=λh=>by grind
  have n1:∀i,gl s i=false->i<s.holes.length->false=dT s:=λi h hi=>hf λhv=>by rw[(((rR s).1 hv).2.2.1 i hi).1]at h;cases h
  have n2:∀i k,gK s i k=false->k<i->i<s.holes.length->false=dT s:=λi k h hk hi=>hf λhv=>by rw[(((rR s).1 hv).2.2.1 i hi).2 k hk]at h;cases h
  have a1:∀i,(!dJ (aa s.holes i))=true->i<s.holes.length->false=dT s:=λi h=>n1 i (by unfold gl;grind);have a2:∀i,gL (aa s.holes i) s.outer=true->i<s.holes.length->false=dT s:=λi h=>n1 i (by unfold gl;rw[h];simp);have a3:∀i,(!fh (aa s.holes i) s.outer true)=true->i<s.holes.length->false=dT s:=λi h=>n1 i (by unfold gl;rw[show nw (aa s.holes i) s.outer=false from nb' h];simp);have a4:∀i,(!dJ (aa s.holes i))=false->gL (aa s.holes i) s.outer=false->(!fh (aa s.holes i) s.outer true)=false->gl s i=true:=λi h1 h2 h3=>by unfold gl;rw[nb h1,h2,show nw (aa s.holes i) s.outer=true from nb h3];rfl
  have b1:∀i k,gL (aa s.holes i) (aa s.holes k)=true->k<i->i<s.holes.length->false=dT s:=λi k h=>n2 i k (by unfold gK;rw[h];rfl);have b2:∀i k,fh (aa s.holes i) (aa s.holes k) false=true->k<i->i<s.holes.length->false=dT s:=λi k h=>n2 i k (by unfold gK;rw[show jC (aa s.holes i) (aa s.holes k)=true from h];simp);have b3:∀i k,fh (aa s.holes k) (aa s.holes i) false=true->k<i->i<s.holes.length->false=dT s:=λi k h=>n2 i k (by unfold gK;rw[show jC (aa s.holes k) (aa s.holes i)=true from h];simp);have b4:∀i k,gL (aa s.holes i) (aa s.holes k)=false->fh (aa s.holes i) (aa s.holes k) false=false->fh (aa s.holes k) (aa s.holes i) false=false->gK s i k=true:=λi k h1 h2 h3=>by unfold gK;rw[h1,show jC (aa s.holes i) (aa s.holes k)=false from h2,show jC (aa s.holes k) (aa s.holes i)=false from h3];rfl
  have b5:∀i k:Nat,¬(k:Int)<i->ao (λk=>gK s i k=true) k->∀k,k<i->gK s i k=true:=λi k h1 h2 j hj=>h2 j (by omega);have e0:=Dk s;have es:∀k,k<s.holes.length->(gX s k:Int)+(aa s.holes k).length=gX s (k+1):=λk h=>by rw[Dl h];rfl
  have el:∀k,k<s.holes.length->aG ((gX s k:Int)+(aa s.holes k).length):=λk h=>by rw[es k h];exact cd (by have:=UK hp (k+1) (by omega);have:=hp.2.1;omega)
  have ef:s.holes.length<=6->dJ s.outer=true->∀k:Nat,¬(k:Int)<s.holes.length->k<=s.holes.length->ao (λi=>gl s i=true/\∀k,k<i->gK s i k=true) k->decide ((gX s k:Int)<=80)=dT s:=λh1 h2 k h3 h4 h5=>by
   obtain rfl:k=s.holes.length:=by omega
   rw[Sx,mD,rR,decide_eq_true_eq];exact⟨λh=>⟨h1,h2,h5,by omega⟩,λh=>by omega⟩
  have ho:=hp.1;have hh:= @Fit.hole s hp
  repeat' first|with_reducible apply cl|with_reducible intro
  all_goals repeat with_reducible cases‹_/\_›
  all_goals first|assumption|rfl|exact trivial|exact nb ‹_› |exact nb' ‹_› |omega|exact eu (by omega)|(unfold ix;omega)|(unfold aG;omega)|exact eN _|exact cA ‹_› ‹_› |(refine cA ‹_› ?_;simp_all;done)|exact cZ (hh (by omega)) (by decide)|exact el _ (by omega)|exact es _ (by omega)|exact ef ‹_› ‹_› _ ‹_› ‹_› ‹_› |exact a1 _ ‹_› (by omega)|exact a2 _ ‹_› (by omega)|exact a3 _ ‹_› (by omega)|exact a4 _ ‹_› ‹_› ‹_› |exact b1 _ _ ‹_› (by omega) (by omega)|exact b2 _ _ ‹_› (by omega) (by omega)|exact b3 _ _ ‹_› (by omega) (by omega)|exact cA ‹_› (b4 _ _ ‹_› ‹_› ‹_›)|exact cA ‹_› ⟨‹_›,b5 _ _ ‹_› ‹_›⟩|exact hf λh=>by have h:=(rR s).1 h;first|omega|grind|grind)
noncomputable def t58:Tab:=aq [(31,c58)] OC
def Ms:t58.Ok aH:=au Ks ⟨k58,trivial⟩
def Ea{p:Pt}{l:List bF}{w:Int}{k:Nat}(hk:k<l.length)(h:∀j,j<k->dK (aa l j) p≠2/\dK (aa l j) p≠1):lg p l w=if dK (aa l k) p=2 then 0 else if dK (aa l k) p=1 then 1 else lg p (l.drop (k+1)) w:=by
 induction l generalizing k with
 |nil=>simp at hk
 |cons r l ih=>
  cases k with
  |zero=>rfl
  |succ k=>
   have h0:=h 0 (by omega);have e:aa (r::l) 0=r:=rfl;rw[e]at h0;have e1:lg p (r::l) w=(if dK r p=2 then 0 else if dK r p=1 then 1 else lg p l w):=rfl;rw[e1,if_neg h0.1,if_neg h0.2];exact ih (k:=k) (by grind) (λj hj=>h (j+1) (by omega))
def Sj{p:Pt}{l:List bF}{w:Int}(h:∀j,j<l.length->dK (aa l j) p≠2/\dK (aa l j) p≠1):lg p l w=w:=by
 induction l with
 |nil=>rfl
 |cons r l ih=>
  have h0:=h 0 (by simp);have e:aa (r::l) 0=r:=rfl;rw[e]at h0;unfold lg;rw[if_neg h0.1,if_neg h0.2];exact ih (λj hj=>h (j+1) (by grind))
def G7{X:List bF}{h:bF}:∀{k:Nat},k<=X.length->(∀j,j<k->bV (aB0 (aa X j) 0) (aB0 h 0)=true)->(k<X.length->bV (aB0 (aa X k) 0) (aB0 h 0)=false)->ku X h=X.take k++[h] ++X.drop k:=by
 induction X with
 |nil=>intro k hk _ _;simp[ku]
 |cons q r ih=>
  intro k hk h1 h2;cases k with
  |zero=>
   unfold ku;rw[if_neg (by rw[show bV (aB0 q 0) (aB0 h 0)=false from h2 (by simp)];simp)];rfl
  |succ k=>
   unfold ku;rw[if_pos (show bV (aB0 q 0) (aB0 h 0)=true from h1 0 (by omega)),ih (k:=k) (by grind) (λj hj=>h1 (j+1) (by omega)) (λhh=>h2 (by grind))];rfl
def bW(s:Shape)(i:Nat):List bF:=tQ ((s.holes.take i).map dN)
def DS{s:Shape}{i:Nat}(h:i<s.holes.length):bW s (i+1)=ku (bW s i) (dN (aa s.holes i)):=by unfold bW tQ;rw[pO,c8 h,dQ,Cs,sR h];rfl
def DT(s:Shape)(i:Nat):(bW s i).Perm ((s.holes.take i).map dN):=SN _
def RO(s:Shape)(i:Nat):(bW s i).length<=s.holes.length:=by rw[(DT s i).length_eq,dt,fS];omega
def SM{s:Shape}{i:Nat}{r:bF}(h:r∈bW s i):∃q∈s.holes,r=dN q:=by have:=(DT s i).mem_iff.1 h;grind
def SL{s:Shape}(hp:∀r∈s.holes,0<r.length){i j:Nat}(h:j<(bW s i).length):0<(aa (bW s i) j).length:=by obtain⟨q,hq,e⟩:=SM (sB h);rw[e,DO];exact hp q hq
def hQ(s:Shape)(p:Pt)(j:Nat):Prop:=dK (aa s.holes j) p≠2/\dK (aa s.holes j) p≠1
noncomputable def c73:Con:=con (ac aSh (a1 aT)) (λ(s,_)=>[Fit s]) (λ(s,p)=> .int .i64 (ja s p))
def k73:c73.Ok aH 101:=bA (a7 Ms) (raw:=aw) (λ(s,p)=>[cnt 5 6 s.holes.length (ao (hQ s p))]
  ) (λ(_,_)=>⟨_,rfl⟩) λ(s,p) hp=>az (q:=Fit s/\((!dT s)=true->0=ja s p)/\
 ((!dT s)=false->s.outer.length<=100000/\(0=(0:Int)/\(0:Nat)<=s.holes.length/\ao (hQ s p) 0)/\
  (∀x:Nat,x<=s.holes.length/\ao (hQ s p) x->((x:Int)<s.holes.length->ix (x:Int) s.holes.length/\(aa s.holes x).length<=100000/\(dK (aa s.holes x) p=2->0=ja s p)/\
    (¬dK (aa s.holes x) p=2->(dK (aa s.holes x) p=1->1=ja s p)/\
     (¬dK (aa s.holes x) p=1->aG ((x:Int)+1)/\(x:Int)+1=((x+1:Nat):Int)/\x+1<=s.holes.length/\ao (hQ s p) (x+1)/\s.holes.length-(x+1)<s.holes.length-x)))/\
   (¬(x:Int)<s.holes.length->dK s.outer p=ja s p)))) (by kernel_rfl) (by
  change Fit s at hp;have h0:(!dT s)=true->0=ja s p:=λh=>by unfold ja;rw[if_pos h]
  have h1:(!dT s)=false->ja s p=lg p s.holes (dK s.outer p):=λh=>by unfold ja;grind
  have c1:∀k,ao (hQ s p) k->dK (aa s.holes k) p=2->(!dT s)=false->k<s.holes.length->0=ja s p:=λk h h2 h3 hk=>by rw[h1 h3,Ea hk h,if_pos h2]
  have c2:∀k,ao (hQ s p) k->¬dK (aa s.holes k) p=2->dK (aa s.holes k) p=1->(!dT s)=false->k<s.holes.length->1=ja s p:=λk h h2 h3 h4 hk=>by rw[h1 h4,Ea hk h,if_neg h2,if_pos h3]
  have c3:∀k:Nat,¬(k:Int)<s.holes.length->ao (hQ s p) k->(!dT s)=false->dK s.outer p=ja s p:=λk hk h h2=>by rw[h1 h2,Sj λj hj=>h j (by omega)]
  have ho:=hp.1;have hl:=hp.2.1;have hh:= @Fit.hole s hp
  repeat' first|with_reducible apply cl|with_reducible intro
  all_goals repeat with_reducible cases‹_/\_›
  all_goals first|assumption|rfl|exact trivial|exact nb ‹_› |exact nb' ‹_› |omega|exact eu (by omega)|(unfold ix;omega)|(unfold aG;omega)|exact eN _|exact cA ‹_› ‹_› |(refine cA ‹_› ?_;simp_all;done)|exact cZ (hh (by omega)) (by decide)|exact h0 ‹_› |exact c1 _ ‹_› ‹_› ‹_› (by omega)|exact c2 _ ‹_› ‹_› ‹_› ‹_› (by omega)|exact c3 _ ‹_› ‹_› ‹_› |exact cA ‹_› ⟨‹_›,‹_›⟩|grind)
noncomputable def t73:Tab:=aq [(101,c73)] t58
def aAb:t73.Ok aH:=au Ms ⟨k73,trivial⟩
noncomputable def Nv:Tab:=t73
def Y5:Nv.Ok aH:=aAb
noncomputable def t74:Tab:=Nv
def aAa:t74.Ok aH:=Y5
noncomputable def t27:Tab:=t74
def NA:t27.Ok aH:=aAa
def Rr{s:Shape}(hv:dT s=true):0<s.outer.length/\∀r∈s.holes,0<r.length:=by have h:=(rR s).1 hv;refine⟨by have:=((un s.outer).1 h.2.1).1;omega,λr hr=> ?_⟩;obtain⟨i,hi,rfl⟩:=VY hr;have h2:=(h.2.2.1 i hi).1;unfold gl at h2;simp only[BI]at h2;have:=((un _).1 h2.1.1).1;omega
def US(s:Shape):oc s=⟨dN s.outer,bW s s.holes.length⟩:=by unfold oc bW;grind
def qSU(s:Shape)(i j:Nat):Prop:=bV (aB0 (aa (bW s i) j) 0) (aB0 (dN (aa s.holes i)) 0)=true
def jSU(s:Shape)(i j:Nat):List bF:=(bW s i).take j++[dN (aa s.holes i)] ++(bW s i).drop j
def Ii{s:Shape}{i j:Nat}(h:bW s (i+1)=jSU s i j):([] :List (List V))++bM j (cP 0 (bW s i))++[dN (aa s.holes i)] ++bM ((bW s i).length-j) (cP j (bW s i))=bW s (i+1):=by have e:bM ((bW s i).length-j) (cP j (bW s i))=cP j (bW s i):=ib (by simp);rw[h,e];unfold jSU;simp
noncomputable def P7:Con:=con (a1 aSh) (λs=>[Fit s,0<s.outer.length,(∀r∈s.holes,0<r.length)]) (λs=> .agg [.lst .V (dN s.outer),.lst .R (bW s s.holes.length)])
def aBz:P7.Ok aH 104:=bA (a7 NA) (raw:=aw) (λs=>[lp 3 4 s.holes.length (λ_=>[]) [900] (λ_=>[]) (λk=>[(6,.box 81 [.lst .V (dN s.outer),.own 900 .R (bW s k).length]),(900,.row 64 .R (bW s k))]) λi=>[cnt 7 6 (bW s i).length (ao (qSU s i)),jN 9 6 λj=>[j<=(bW s i).length,bW s (i+1)=jSU s i j]]]
  ) (λ_=>⟨_,rfl⟩) λs hp=>az (q:=s.outer.length<=100000/\(0=(0:Int)/\dN s.outer=dN s.outer/\(bW s 0).length=0/\bW s 0=([] :List (List V))/\(0:Nat)<=s.holes.length)/\
 (∀x:Nat,x<=s.holes.length->((x:Int)<s.holes.length->ix (x:Int) s.holes.length/\(aa s.holes x).length<=100000/\((0=(0:Int)/\(0:Nat)<=(bW s x).length/\ao (qSU s x) 0)/\
    (∀x_1:Nat,x_1<=(bW s x).length/\ao (qSU s x) x_1->((x_1:Int)<(bW s x).length->ix (x_1:Int) (bW s x).length/\x_1<(bW s x).length/\ix 0 (aa (bW s x) x_1).length/\ix 0 (dN (aa s.holes x)).length/\(bV (aB0 (aa (bW s x) x_1) 0) (aB0 (dN (aa s.holes x)) 0)=true->aG ((x_1:Int)+1)/\(x_1:Int)+1=((x_1+1:Nat):Int)/\x_1+1<=(bW s x).length/\ao (qSU s x) (x_1+1)/\(bW s x).length-(x_1+1)<(bW s x).length-x_1)/\
      (bV (aB0 (aa (bW s x) x_1) 0) (aB0 (dN (aa s.holes x)) 0)=false->(x_1:Int)=x_1/\x_1<=(bW s x).length/\bW s (x+1)=jSU s x x_1))/\
     (¬(x_1:Int)<(bW s x).length->(x_1:Int)=x_1/\x_1<=(bW s x).length/\bW s (x+1)=jSU s x x_1)))/\
   (∀y:Nat,y<=(bW s x).length/\bW s (x+1)=jSU s x y->(0<=(y:Int)/\(y:Int)<=(bW s x).length)/\0+y<=(bW s x).length/\([] :List (List V)).length+(bM y (cP 0 (bW s x))).length<=1000000/\(([] :List (List V))++bM y (cP 0 (bW s x))).length=(([] :List (List V))++bM y (cP 0 (bW s x))).length/\(([] :List (List V))++bM y (cP 0 (bW s x))).length+[dN (aa s.holes x)].length<=1000000/\(0<=(y:Int)/\(y:Int)<=(bW s x).length)/\(([] :List (List V))++bM y (cP 0 (bW s x))++[dN (aa s.holes x)]).length=(([] :List (List V))++bM y (cP 0 (bW s x))++[dN (aa s.holes x)]).length/\y+((bW s x).length-y)<=(bW s x).length/\(([] :List (List V))++bM y (cP 0 (bW s x))++[dN (aa s.holes x)]).length+(bM ((bW s x).length-y) (cP y (bW s x))).length<=1000000/\aG ((x:Int)+1)/\(x:Int)+1=((x+1:Nat):Int)/\dN s.outer=dN s.outer/\(([] :List (List V))++bM y (cP 0 (bW s x))++[dN (aa s.holes x)] ++bM ((bW s x).length-y) (cP y (bW s x))).length=(bW s (x+1)).length/\([] :List (List V))++bM y (cP 0 (bW s x))++[dN (aa s.holes x)] ++bM ((bW s x).length-y) (cP y (bW s x))=bW s (x+1)/\x+1<=s.holes.length/\s.holes.length-(x+1)<s.holes.length-x))/\
  (¬(x:Int)<s.holes.length->(bW s x).length=(bW s x).length/\dN s.outer=dN s.outer/\bW s x=bW s s.holes.length))) (by kernel_rfl) (by
  change Fit s/\0<s.outer.length/\((∀r∈s.holes,0<r.length))at hp;obtain⟨hf,hpo,hph⟩:=hp;have h1:=hf.1;have h2:=hf.2.1;have hh:= @Fit.hole s hf;have i0:bW s 0=[] :=rfl;have hl:=RO s;have kf:∀k:Nat,¬(k:Int)<s.holes.length->k<=s.holes.length->bW s k=bW s s.holes.length:=λk h1 h2=>by grind
  have kl:∀i j:Nat,(j:Int)<(bW s i).length->aG ((j:Int)+1):=λi j h=>cd (by grind);have hb:∀i,i<s.holes.length->ix 0 (dN (aa s.holes i)).length:=λi h=>tG (by rw[DO];exact hph _ (sB h));have hq:∀i j,j<(bW s i).length->ix 0 (aa (bW s i) j).length:=λi j h=>tG (SL hph h);have hj1:∀i j:Nat,¬(j:Int)<(bW s i).length->j<=(bW s i).length->ao (qSU s i) j->i<s.holes.length->bW s (i+1)=jSU s i j:=λi j h1 h2 h3 h=>by rw[DS h];exact G7 h2 h3 (λh=>by omega)
  have hj2:∀i j:Nat,bV (aB0 (aa (bW s i) j) 0) (aB0 (dN (aa s.holes i)) 0)=false->j<=(bW s i).length->ao (qSU s i) j->i<s.holes.length->bW s (i+1)=jSU s i j:=λi j h1 h2 h3 h=>by rw[DS h];exact G7 h2 h3 (λ_=>h1)
  repeat' first|with_reducible apply cl|with_reducible intro
  all_goals repeat with_reducible cases‹_/\_›
  all_goals first|assumption|rfl|exact trivial|exact nb ‹_› |exact nb' ‹_› |omega|exact eu (by omega)|(unfold ix;omega)|(unfold aG;omega)|exact eN _|exact cA ‹_› ‹_› |(refine cA ‹_› ?_;simp_all;done)|exact kf _ ‹_› ‹_› |exact kl _ _ ‹_› |exact cZ (hh (by omega)) (by decide)|exact hb _ (by omega)|exact hq _ _ (by omega)|exact hj1 _ _ ‹_› ‹_› ‹_› (by omega)|exact hj2 _ _ ‹_› ‹_› ‹_› (by omega)|exact Ii ‹_› |exact congrArg fe (Ii ‹_›)|(simp;omega)|grind)
noncomputable def OA:Tab:=aq [(104,P7)] t27
def Kq:OA.Ok aH:=au NA ⟨aBz,trivial⟩
noncomputable def c59:Con:=con (a1 aSh) (λs=>[Fit s,dT s=true]) (λs=>aSh.enc (oc s)
 )
def k59:c59.Ok aH 36:=bA (a7 Kq) (raw:=aw) (λ_=>[]) (λ_=>⟨_,rfl⟩) λs hp=>az (q:=Fit s/\((!dT s)=true->(oc s).outer=([] :List V)/\(oc s).holes=([] :List (List V)))/\
 ((!dT s)=false->Fit s/\(0:Nat)<s.outer.length/\(∀r:bF,r∈s.holes->(0:Nat)<r.length)/\dN s.outer=(oc s).outer/\bW s s.holes.length=(oc s).holes)) (by kernel_rfl) (by change Fit s/\dT s=true at hp;have h:=Rr hp.2;have e:=US s;grind)
noncomputable def t59:Tab:=aq [(36,c59)] OA
def aAf:t59.Ok aH:=au Kq ⟨k59,trivial⟩
noncomputable def t18:Tab:=t59
def aAl:t18.Ok aH:=aAf
noncomputable def t31:Tab:=t18
def aAh:t31.Ok aH:=aAl
noncomputable def t69:Tab:=t31
def aAd:t69.Ok aH:=aAh
noncomputable def t75:Tab:=t69
def Z9:t75.Ok aH:=aAd
noncomputable def t72:Tab:=t75
def aAc:t72.Ok aH:=Z9
noncomputable def t20:Tab:=t72
def aAk:t20.Ok aH:=aAc
section
variable (s:Shape) (v:List V) (T:Geo.Tab)
end
section
variable {s:Shape} {v:List V} {T:Geo.Tab} {i j k:Nat}
end
noncomputable def t22:Tab:=t20
def aAj:t22.Ok aH:=aAk
def jp(s:Shape):Nat->Int
 |0=>s.outer.length
 |k+1=>dm.wrap (jp s k+((aa s.holes k).length:Int))
def pD(s:Shape):Bool:=decide (jp s s.holes.length<=20)&&decide ((s.holes.length:Int)<=3)
def MP(s:Shape):Prop:=s.outer.length<=1000000000000000000/\s.holes.length<=1000000000000000000/\∀r∈s.holes,r.length<=1000000000000000000
noncomputable def t24:Tab:=t22
def aAi:t24.Ok aH:=aAj
noncomputable def t25:Tab:=t24
def NB:t25.Ok aH:=aAi
noncomputable def c16:Con:=con (a1 aSh) (λs=>[MP s]) (λs=> .bool (pD s))
def k16:c16.Ok aH 33:=bA (a7 NB) (raw:=λr i=>af r 5&&af i 7) (λs=>[lp 3 4 s.holes.length (λ_=>[]) [] (λk=>[(3,.int .i64 (jp s k))]) (λ_=>[])]
  ) (λ_=>⟨_,rfl⟩) λs hp=>az (q:=(0=(0:Int)/\(s.outer.length:Int)=jp s 0/\(0:Nat)<=s.holes.length)/\
 (∀x:Nat,x<=s.holes.length->((x:Int)<s.holes.length->ix (x:Int) s.holes.length/\aG ((x:Int)+1)/\(x:Int)+1=((x+1:Nat):Int)/\IntKind.wrap dm (jp s x+(aa s.holes x).length)=jp s (x+1)/\x+1<=s.holes.length/\s.holes.length-(x+1)<s.holes.length-x)/\
  (¬(x:Int)<s.holes.length->(jp s x<=20->decide ((s.holes.length:Int)<=3)=pD s)/\
   (¬jp s x<=20->false=pD s)))) (by kernel_rfl) (by
  change MP s at hp;have hh:=hp.2.1;have e1:∀k:Nat,¬(k:Int)<s.holes.length->k<=s.holes.length->jp s k=jp s s.holes.length:=λk h1 h2=>by grind
  have e2:∀k:Nat,jp s k<=20->¬(k:Int)<s.holes.length->k<=s.holes.length->decide ((s.holes.length:Int)<=3)=pD s:=λk h h1 h2=>by unfold pD;grind
  have e3:∀k:Nat,¬jp s k<=20->¬(k:Int)<s.holes.length->k<=s.holes.length->false=pD s:=λk h h1 h2=>by unfold pD;grind
  with_reducible ((repeat' first|apply cl|intro);all_goals repeat cases‹_/\_›)
  all_goals first|rfl|exact e2 _ ‹_› ‹_› ‹_› |grind)
noncomputable def t16:Tab:=aq [(33,c16)] t25
def Ng:t16.Ok aH:=au NB ⟨k16,trivial⟩
noncomputable def Pb:Con:=con (a1 aI) (λ_=>[]) (λ_=> .bool false
 )
def aA6:Pb.Ok aH 114:=bA (a7 Ng) (raw:=aw) (λ_=>[]) (λ_=>⟨_,rfl⟩) λx _=>az (q:=decide (¬x=x)=false) (by kernel_rfl) (by grind)
noncomputable def NY:Tab:=aq [(114,Pb)] t16
def KH:NY.Ok aH:=au Ng ⟨aA6,trivial⟩
noncomputable def P6:Con:=con (ac aI (a1 aI)) (λ(_,_)=>[]) (λ(x,y)=> .int .i64 (aB6 x y)
 )
def aBy:P6.Ok aH 53:=bA (a7 KH) (raw:=aw) (λ(_,_)=>[]) (λ(_,_)=>⟨_,rfl⟩) λ(x,y) _=>az (q:=(false=true->(false=true->0=aB6 x y)/\
  (false=false-> -1=aB6 x y))/\
 (false=false->(false=true->1=aB6 x y)/\
  (false=false->(x<y-> -1=aB6 x y)/\
   (¬x<y->(y<x->1=aB6 x y)/\
    (¬y<x->0=aB6 x y))))) (by kernel_rfl) (by
  unfold aB6;grind)
noncomputable def N9:Tab:=aq [(53,P6)] NY
def Kl:N9.Ok aH:=au KH ⟨aBy,trivial⟩
def orU(l:List Int)(k:Nat):Prop:=∀j,j<k->aK l j=0
def orL:List Int->Int
 |[] =>0
 |x::l=>if x=0 then orL l else x
def IU:∀{l:List Int} {k:Nat},¬aK l k=0->orU l k->k<l.length->aK l k=orL l
 |[],k,_,_,h=>by simp at h
 |x::l,0,h,_,_=>by
  have h:¬x=0:=h;show x=orL (x::l);unfold orL;rw[if_neg h]
 |x::l,k+1,h,h2,h3=>by
  have h0:x=0:=h2 0 (by omega);show aK l k=orL (x::l);unfold orL;rw[if_pos h0];exact IU h (λj hj=>h2 (j+1) (by omega)) (by grind)
def Gi:∀{l:List Int},orU l l.length->0=orL l
 |[],_=>rfl
 |x::l,h=>by
  have h0:x=0:=h 0 (by simp);unfold orL;rw[if_pos h0];exact Gi λj hj=>h (j+1) (by grind)
noncomputable def Px:Con:=con (a1 (aL .I)) (λl=>[l.length<=1000]) (λl=> .int .i64 (orL l))
def aBq:Px.Ok aH 52:=bA (a7 Kl) (raw:=aw) (λl=>[cnt 3 8 l.length (orU l)]
  ) (λ_=>⟨_,rfl⟩) λl hp=>az (q:=(0=(0:Int)/\(0:Nat)<=l.length/\orU l 0)/\
 (∀x:Nat,x<=l.length/\orU l x->((x:Int)<l.length->ix (x:Int) l.length/\(¬aK l x=0->aK l x=orL l)/\
   (¬(¬aK l x=0)->aG ((x:Int)+1)/\(x:Int)+1=((x+1:Nat):Int)/\x+1<=l.length/\orU l (x+1)/\l.length-(x+1)<l.length-x))/\
  (¬(x:Int)<l.length->0=orL l))) (by kernel_rfl) (by
  change l.length<=1000 at hp
  with_reducible ((repeat' first|apply cl|intro);all_goals repeat cases‹_/\_›)
  all_goals first|assumption|rfl|exact trivial|exact nb ‹_› |exact nb' ‹_› |omega|exact eu (by omega)|(unfold ix;omega)|(unfold aG;omega)|exact eN _|exact cA ‹_› ‹_› |(refine cA ‹_› ?_;simp_all;done)|exact IU ‹_› ‹_› (by omega)|(obtain rfl:_=l.length:=nl ‹_› (by omega);exact Gi ‹_›)|(refine cA ‹_› ?_;exact xt ‹¬¬_›)|grind)
noncomputable def Nu:Tab:=aq [(52,Px)] N9
def Kc:Nu.Ok aH:=au Kl ⟨aBq,trivial⟩
noncomputable def c78:Con:=con (ac aV (a1 aV)) (λ(_,_)=>[]) (λ(a,b)=> .int .i64 (dL a b)
 )
def k78:c78.Ok aH 166:=bA (a7 Kc) (raw:=aw) (λ(_,_)=>[]) (λ(_,_)=>⟨_,rfl⟩) λ(a,b) _=>az (q:=[aB6 a.y b.y,aB6 a.x b.x].length<=1000/\orL [aB6 a.y b.y,aB6 a.x b.x] =dL a b) (by kernel_rfl) (by refine⟨by simp,?_⟩;unfold dL;simp only[orL];grind)
noncomputable def t78:Tab:=aq [(166,c78)] Nu
def Mg:t78.Ok aH:=au Kc ⟨k78,trivial⟩
noncomputable def PJ:Con:=con (ac aV (a1 aV)) (λ(_,_)=>[]) (λ(a,b)=> .bool (bV a b)
 )
def aAP:PJ.Ok aH 141:=bA (a7 Mg) (raw:=aw) (λ(_,_)=>[]) (λ(_,_)=>⟨_,rfl⟩) λ(a,b) _=>az (q:=decide (dL a b<0)=bV a b) (by kernel_rfl) (by unfold bV dL aB6;grind)
noncomputable def NG:Tab:=aq [(141,PJ)] t78
def Jq:NG.Ok aH:=au Mg ⟨aAP,trivial⟩
noncomputable def QG:Con:=con (ac aV (a1 aV)) (λ(a,b)=>[bd 2000000000 a,bd 2000000000 b]) (λ(a,b)=> .int .i64 (cross a b)
 )
def aBH:QG.Ok aH 143:=bA (a7 Jq) (raw:=aw) (λ(_,_)=>[]) (λ(_,_)=>⟨_,rfl⟩) λ(a,b) hp=>az (q:=aG (a.x*b.y)/\aG (a.y*b.x)/\aG (a.x*b.y-a.y*b.x)/\a.x*b.y-a.y*b.x=cross a b) (by kernel_rfl) (by change bd 2000000000 a/\bd 2000000000 b at hp;have:=pm hp.1 hp.2;exact⟨cd (by omega),cd (by omega),cd (by omega),rfl⟩)
noncomputable def OH:Tab:=aq [(143,QG)] NG
def K3:OH.Ok aH:=au Jq ⟨aBH,trivial⟩
noncomputable def P5:Con:=con (ac aV (a1 aV)) (λ(a,b)=>[bd 1000000000 a,bd 1000000000 b]) (λ(a,b)=>aV.enc (aB3 a b)
 )
def aBx:P5.Ok aH 138:=bA (a7 K3) (raw:=aw) (λ(_,_)=>[]) (λ(_,_)=>⟨_,rfl⟩) λ(a,b) hp=>az (q:=aG (a.x-b.x)/\aG (a.y-b.y)/\a.x-b.x=(aB3 a b).x/\a.y-b.y=(aB3 a b).y) (by kernel_rfl) (by change bd 1000000000 a/\bd 1000000000 b at hp;unfold bd at hp;exact⟨cd (by omega),cd (by omega),rfl,rfl⟩)
noncomputable def N8:Tab:=aq [(138,P5)] OH
def Kj:N8.Ok aH:=au K3 ⟨aBx,trivial⟩
noncomputable def c63:Con:=con (ac aV (ac aV (a1 aV))) (λ(a,b,c)=>[bd 1000000000 a,bd 1000000000 b,bd 1000000000 c]) (λ(a,b,c)=> .int .i64 (ba a b c)
 )
def k63:c63.Ok aH 208:=bA (a7 Kj) (raw:=aw) (λ(_,_,_)=>[]) (λ(_,_,_)=>⟨_,rfl⟩) λ(a,b,c) hp=>az (q:=bd 1000000000 b/\bd 1000000000 a/\bd 1000000000 c/\bd 1000000000 a/\bd 2000000000 (aB3 b a)/\bd 2000000000 (aB3 c a)/\aB6 (cross (aB3 b a) (aB3 c a)) 0=ba a b c) (by kernel_rfl) (by
 change bd 1000000000 a/\bd 1000000000 b/\bd 1000000000 c at hp;have e:∀n,aB6 n 0=sgn n:=λn=>by unfold aB6 sgn;grind
 exact⟨hp.2.1,hp.1,hp.2.2,hp.1,je hp.2.1 hp.1,je hp.2.2 hp.1,e _⟩)
noncomputable def t63:Tab:=aq [(208,c63)] N8
def Mr:t63.Ok aH:=au Kj ⟨k63,trivial⟩
noncomputable def P4:Con:=con (ac aV (a1 aI)) (λ(_,m)=>[0<=m,m<=9000000000000000000]) (λ(a,m)=> .bool (bS a m)
 )
def aBw:P4.Ok aH 40:=bA (a7 Mr) (raw:=aw) (λ(_,_)=>[]) (λ(_,_)=>⟨_,rfl⟩) λ(a,m) hp=>az (q:=aG (0-m)/\(0-m<=a.x->(a.x<=m->aG (0-m)/\(0-m<=a.y->decide (a.y<=m)=bS a m)/\
   (¬0-m<=a.y->false=bS a m))/\
  (¬a.x<=m->false=bS a m))/\
 (¬0-m<=a.x->false=bS a m)) (by kernel_rfl) (by change 0<=m/\m<=9000000000000000000 at hp;unfold bS;have:= @aG;grind[aG])
noncomputable def N7:Tab:=aq [(40,P4)] t63
def Ki:N7.Ok aH:=au Mr ⟨aBw,trivial⟩
noncomputable def P1:Con:=con (a1 aV) (λ_=>[]) (λa=>aT.enc (bQ a)
 )
def aBu:P1.Ok aH 72:=bA (a7 Ki) (raw:=aw) (λ_=>[]) (λ_=>⟨_,rfl⟩) λa _=>az (q:=a.x=(bQ a).x/\a.y=(bQ a).y/\1=(bQ a).den) (by kernel_rfl) (by exact⟨rfl,rfl,rfl⟩)
noncomputable def Nz:Tab:=aq [(72,P1)] N7
def Kg:Nz.Ok aH:=au Ki ⟨aBu,trivial⟩
def l8(b:S)(p:V):Bool:=decide (b.a.x<=p.x)&&decide (p.x<=b.b.x)&&decide (b.a.y<=p.y)&&decide (p.y<=b.b.y)
def bU(l:List V):Nat->S
 |0=>⟨aB0 l 0,aB0 l 0⟩
 |k+1=>⟨⟨min (bU l k).a.x (aB0 l k).x,min (bU l k).a.y (aB0 l k).y⟩,⟨max (bU l k).b.x (aB0 l k).x,max (bU l k).b.y (aB0 l k).y⟩⟩
noncomputable def PH:Con:=con (ac aS (a1 aV)) (λ(_,_)=>[]) (λ(b,p)=> .bool (l8 b p)
 )
def aAN:PH.Ok aH 207:=bA (a7 Kg) (raw:=aw) (λ(_,_)=>[]) (λ(_,_)=>⟨_,rfl⟩) λ(b,p) _=>az (q:=(b.a.x<=p.x->(p.x<=b.b.x->(b.a.y<=p.y->decide (p.y<=b.b.y)=l8 b p)/\
   (¬b.a.y<=p.y->false=l8 b p))/\
  (¬p.x<=b.b.x->false=l8 b p))/\
 (¬b.a.x<=p.x->false=l8 b p)) (by kernel_rfl) (by unfold l8;grind)
noncomputable def NE:Tab:=aq [(207,PH)] Nz
def Jo:NE.Ok aH:=au Kg ⟨aAN,trivial⟩
noncomputable def PI:Con:=con (a1 (aL .V)) (λl=>[l.length<=1000]) (λl=> .tup [aS.enc (bU l l.length),.bool (decide (0<l.length))])
def aAO:PI.Ok aH 205:=bA (a7 Jo) (raw:=aw) (λl=>[lp 5 19 l.length (λ_=>[]) [] (λ_=>[]) (λk=>[(12,.box 239 [.int .i64 (bU l k).a.x,.int .i64 (bU l k).a.y,.int .i64 (bU l k).b.x,.int .i64 (bU l k).b.y])])]
  ) (λ_=>⟨_,rfl⟩) λl hp=>az (q:=((l.length:Int)=0->0=(bU l l.length).a.x/\0=(bU l l.length).a.y/\0=(bU l l.length).b.x/\0=(bU l l.length).b.y/\false=decide ((0:Nat)<l.length))/\
 (¬(l.length:Int)=0->ix 0 l.length/\ix 0 l.length/\(0=(0:Int)/\(aB0 l 0).x=(bU l 0).a.x/\(aB0 l 0).y=(bU l 0).a.y/\(aB0 l 0).x=(bU l 0).b.x/\(aB0 l 0).y=(bU l 0).b.y/\(0:Nat)<=l.length)/\
  (∀x:Nat,x<=l.length->((x:Int)<l.length->ix (x:Int) l.length/\ix (x:Int) l.length/\ix (x:Int) l.length/\ix (x:Int) l.length/\aG ((x:Int)+1)/\(x:Int)+1=((x+1:Nat):Int)/\Min.min (bU l x).a.x (aB0 l x).x=(bU l (x+1)).a.x/\Min.min (bU l x).a.y (aB0 l x).y=(bU l (x+1)).a.y/\Max.max (bU l x).b.x (aB0 l x).x=(bU l (x+1)).b.x/\Max.max (bU l x).b.y (aB0 l x).y=(bU l (x+1)).b.y/\x+1<=l.length/\l.length-(x+1)<l.length-x)/\
   (¬(x:Int)<l.length->(bU l x).a.x=(bU l l.length).a.x/\(bU l x).a.y=(bU l l.length).a.y/\(bU l x).b.x=(bU l l.length).b.x/\(bU l x).b.y=(bU l l.length).b.y/\true=decide ((0:Nat)<l.length))))) (by kernel_rfl) (by
  change l.length<=1000 at hp;have eU:∀x:Nat,¬(x:Int)<l.length->x<=l.length->bU l x=bU l l.length:=λx h1 h2=>by grind
  with_reducible ((repeat' first|apply cl|intro);all_goals repeat cases‹_/\_›)
  all_goals first|rfl|(have h0:l=[] :=iZ.1 (by omega);subst h0;rfl)|(rw[eU _ ‹_› ‹_›])|(symm;rw[decide_eq_false_iff_not];omega)|grind)
noncomputable def NF:Tab:=aq [(205,PI)] NE
def Jp:NF.Ok aH:=au Jo ⟨aAO,trivial⟩
noncomputable def PP:Con:=con (ac aI (a1 aI)) (λ(a,b)=>[-9000000000000000000<=a,a<=9000000000000000000,-9000000000000000000<=b,b<=9000000000000000000]) (λ(a,b)=> .int .i64 ((bw a.natAbs b.natAbs:Nat):Int))
def aAV:PP.Ok aH 183:=bA (a7 Jp) (raw:=aw) (λ(a,b)=>[(1,.mk (Int×Int) (λF _=>Og F 0 1) [] (λp=>[p.1.natAbs<=9000000000000000000,p.2.natAbs<=9000000000000000000,bw p.1.natAbs p.2.natAbs=bw a.natAbs b.natAbs]) (λp=>[(0,.int .i64 p.1),(1,.int .i64 p.2)]) (λ_=>[]) (λp=>p.2.natAbs) (λ_=>[]))]
  ) (λ(_,_)=>⟨_,rfl⟩) λ(a,b) hp=>az (q:=(a=a/\b=b/\bj a<=9000000000000000000/\bj b<=9000000000000000000/\bw (bj a) (bj b)=bw (bj a) (bj b))/\
 (∀x:Prod Int Int,bj x.1<=9000000000000000000/\bj x.2<=9000000000000000000/\bw (bj x.1) (bj x.2)=bw (bj a) (bj b)->(¬x.2=0->x.2≠0/\x.2=x.2/\dI x.1 x.2=dI x.1 x.2/\bj x.snd<=9000000000000000000/\bj (dI x.1 x.2)<=9000000000000000000/\bw (bj x.snd) (bj (dI x.1 x.2))=bw (bj a) (bj b)/\bj (dI x.1 x.2)<bj x.2)/\
  (¬(¬x.2=0)->aG (0-x.1)/\Max.max x.1 (0-x.1)=bw (bj a) (bj b)))) (by kernel_rfl) (by
  change-9000000000000000000<=a/\a<=9000000000000000000/\ -9000000000000000000<=b/\b<=9000000000000000000 at hp;have e1:∀x y:Int,bw y.natAbs (dI x y).natAbs=bw x.natAbs y.natAbs:=λx y=>by rw[Ct,Cu,<-Nat.gcd_rec,Cu]
  have e2:∀x y:Int,¬y=0->(dI x y).natAbs<y.natAbs:=λx y h=>by rw[Ct];exact fJ _ (by omega)
  have e3:∀(x y:Int) (g:Nat),bw x.natAbs y.natAbs=g->¬¬y=0->max x (0-x)=(g:Int):=λx y g h h2=>by rw[xt h2]at h;grind
  repeat' first|with_reducible apply cl|with_reducible intro
  all_goals repeat with_reducible cases‹_/\_›
  all_goals first|rfl|with_reducible solve_by_elim|(rw[e1];assumption)|exact trivial|exact nb ‹_› |exact nb' ‹_› |omega|exact eu (by omega)|(unfold ix;omega)|(unfold aG;omega)|exact eN _|exact cA ‹_› ‹_› |(refine cA ‹_› ?_;simp_all;done)|grind|grind)
noncomputable def NN:Tab:=aq [(183,PP)] NF
def Jz:NN.Ok aH:=au Jp ⟨aAV,trivial⟩
noncomputable def PQ:Con:=con (ac aT (a1 aI)) (λ(_,m)=>[0<=m,m<=1000000]) (λ(p,m)=> .bool (dW p m)
 )
def aAW:PQ.Ok aH 111:=bA (a7 Jz) (raw:=aw) (λ(_,_)=>[]) (λ(_,_)=>⟨_,rfl⟩) λ(p,m) hp=>az (q:=(p.den<1->false=dW p m)/\
 (¬p.den<1->(134217728<p.den->false=dW p m)/\
  (¬134217728<p.den->aG (m*p.den)/\0<=m*p.den/\m*p.den<=9000000000000000000/\bS ⟨p.x,p.y⟩ (m*p.den)=dW p m))) (by kernel_rfl) (by
  change 0<=m/\m<=1000000 at hp;unfold dW;have hm:¬p.den<1->¬134217728<p.den->aG (m*p.den)/\0<=m*p.den/\m*p.den<=9000000000000000000:=λh1 h2=>by have:=iD (x:=m) (y:=p.den) (A:=1000000) (B:=134217728) (by omega) (by omega);exact⟨cd (by omega),iz hp.1 (by omega),by omega⟩
  grind)
noncomputable def NO:Tab:=aq [(111,PQ)] NN
def J0:NO.Ok aH:=au Jz ⟨aAW,trivial⟩
noncomputable def Pa:Con:=con (a1 aT) (λ_=>[]) (λp=> .bool (c9 p)
 )
def aA5:Pa.Ok aH 110:=bA (a7 J0) (raw:=aw) (λ_=>[]) (λ_=>⟨_,rfl⟩) λp _=>az (q:=(0:Int)<=4000/\(4000:Int)<=1000000/\(dW p 4000=true-> -9000000000000000000<=p.x/\p.x<=9000000000000000000/\ -9000000000000000000<=p.y/\p.y<=9000000000000000000/\ -9000000000000000000<=(bw (bj p.x) (bj p.y):Int)/\(bw (bj p.x) (bj p.y):Int)<=9000000000000000000/\ -9000000000000000000<=p.den/\p.den<=9000000000000000000/\decide ((bw (bj (bw (bj p.x) (bj p.y):Int)) (bj p.den):Int)=1)=c9 p)/\
 (dW p 4000=false->false=c9 p)) (by kernel_rfl) (by
  have hB:dW p 4000=true->PtB p:=λh=>by unfold dW bS at h;simp only[cB,decide_eq_true_eq]at h;unfold PtB;omega
  have hn:∀n m B:Nat,n<=B->m<=B->bw n m<=B:=λn m B h1 h2=>by
   rcases nZ n with e|e
   .grind
   .exact cZ (Nat.gcd_le_left m e) h1
  have hg:PtB p->bw p.x.natAbs p.y.natAbs<=600000000000:=λh=>hn _ _ _ (by unfold PtB at h;omega) (by unfold PtB at h;omega);have ht:dW p 4000=true->decide ((bw (bj (bw (bj p.x) (bj p.y):Int)) (bj p.den):Int)=1)=c9 p:=λh=>by unfold c9;grind
  with_reducible ((repeat' first|apply cl|intro);all_goals repeat cases‹_/\_›)
  all_goals first|rfl|exact ht ‹_› |(have h1:=hB ‹_›;have h2:=hg h1;unfold PtB at h1;omega)|(unfold c9;grind)|grind)
noncomputable def NX:Tab:=aq [(110,Pa)] NO
def KG:NX.Ok aH:=au J0 ⟨aA5,trivial⟩
noncomputable def PN:Con:=con (a1 aS) (λ_=>[]) (λs=> .bool (bR s)
 )
def aAT:PN.Ok aH 206:=bA (a7 KG) (raw:=aw) (λ_=>[]) (λ_=>⟨_,rfl⟩) λs _=>az (q:=(0:Int)<=4000/\(4000:Int)<=9000000000000000000/\(bS s.a 4000=true->(0:Int)<=4000/\(4000:Int)<=9000000000000000000/\bS s.b 4000=bR s)/\
 (bS s.a 4000=false->false=bR s)) (by kernel_rfl) (by unfold bR;grind)
noncomputable def NK:Tab:=aq [(206,PN)] NX
def Ju:NK.Ok aH:=au KG ⟨aAT,trivial⟩
noncomputable def PL:Con:=con (ac aS (a1 aV)) (λ(_,_)=>[]) (λ(s,p)=> .bool (onS s p)
 )
def aAR:PL.Ok aH 136:=bA (a7 Ju) (raw:=aw) (λ(_,_)=>[]) (λ(_,_)=>⟨_,rfl⟩) λ(s,p) _=>az (q:=[s.a,s.b].length<=1000/\(bR s=true->(l8 (bU [s.a,s.b] [s.a,s.b].length) p=true->bd 1000000000 s.a/\bd 1000000000 s.b/\bd 1000000000 p/\decide (ba s.a s.b p=0)=onS s p)/\
  (l8 (bU [s.a,s.b] [s.a,s.b].length) p=false->false=onS s p))/\
 (bR s=false->false=onS s p)) (by kernel_rfl) (by
  have e0:l8 (bU [s.a,s.b] [s.a,s.b].length) p=fG s p:=by show(decide (min (min s.a.x s.a.x) s.b.x<=p.x)&&decide (p.x<=max (max s.a.x s.a.x) s.b.x)&&decide (min (min s.a.y s.a.y) s.b.y<=p.y)&&decide (p.y<=max (max s.a.y s.a.y) s.b.y))=_;rw[Int.min_self,Int.min_self,Int.max_self,Int.max_self];rfl
  rw[e0];have hv:∀{M:Int},bR s=true->4000<=M->bd M s.a/\bd M s.b:=λh hM=>kE (by rw[h];rfl) hM;refine⟨by simp,λh=>⟨λh2=>⟨(hv h (by decide)).1,(hv h (by decide)).2,Il (hv h (by decide)) h2,?_⟩,λh2=>by unfold onS;rw[h2];simp⟩,λh=>by unfold onS;rw[h];rfl⟩;unfold onS;grind)
noncomputable def NI:Tab:=aq [(136,PL)] NK
def Js:NI.Ok aH:=au Ju ⟨aAR,trivial⟩
noncomputable def PK:Con:=con (a1 aV) (λ_=>[]) (λp=> .agg [.int .i64 1,.int .i64 p.x,.int .i64 p.y,.int .i64 1,.int .i64 0,.int .i64 0,.int .i64 0,.int .i64 0]
 )
def aAQ:PK.Ok aH 233:=bA (a7 Js) (raw:=aw) (λ_=>[]) (λ_=>⟨_,rfl⟩) λp _=>az (q:=(1:Int)=1/\(bQ p).x=p.x/\(bQ p).y=p.y/\(bQ p).den=1/\(0:Int)=0/\(0:Int)=0/\(0:Int)=0/\(0:Int)=0) (by kernel_rfl) (by
 with_reducible ((repeat' first|apply cl|intro);all_goals repeat cases‹_/\_›)
 all_goals first|rfl|grind)
noncomputable def NH:Tab:=aq [(233,PK)] NI
def Jr:NH.Ok aH:=au Js ⟨aAQ,trivial⟩
structure Com where
 k:Int
 p:Pt
 s:S
def QS(c:Com):SV:= .agg [.int .i64 c.k,.int .i64 c.p.x,.int .i64 c.p.y,.int .i64 c.p.den,.int .i64 c.s.a.x,.int .i64 c.s.a.y,.int .i64 c.s.b.x,.int .i64 c.s.b.y]
def cz:Com:=⟨0,⟨0,0,0⟩,⟨⟨0,0⟩,⟨0,0⟩⟩⟩
def lA(s t:S)(d:Int):Int:=if d<0 then-cross (aB3 t.a s.a) (aB3 t.b t.a)else cross (aB3 t.a s.a) (aB3 t.b t.a)
def lB(s t:S)(d:Int):Int:=if d<0 then-cross (aB3 t.a s.a) (aB3 s.b s.a)else cross (aB3 t.a s.a) (aB3 s.b s.a)
def lE(d:Int):Int:=if d<0 then-d else d
def lX(s t:S)(d:Int):Int:=s.a.x*lE d+lA s t d*(aB3 s.b s.a).x
def lY(s t:S)(d:Int):Int:=s.a.y*lE d+lA s t d*(aB3 s.b s.a).y
def lG(s t:S)(d:Int):Int:=((bw (bw (lX s t d).natAbs (lY s t d).natAbs:Int).natAbs (lE d).natAbs:Nat):Int)
def bI(s t:S)(d:Int):Com:=if gW s t d=0 then cz else⟨gW s t d,⟨(lX s t d).tdiv (lG s t d),(lY s t d).tdiv (lG s t d),(lE d).tdiv (lG s t d)⟩,cz.s⟩
def jO(key:Nat)(obs:List (Nat×SOb)):Nat×Ann:=(key+10000,.mk Unit (λ_ _=>some ()) [] (λ_=>[]) (λ_=>[]) (λ_=>obs) (λ_=>0) (λ_=>[]))
def aBP(c:Com):List SV:=[.int .i64 c.k,.int .i64 c.p.x,.int .i64 c.p.y,.int .i64 c.p.den,.int .i64 c.s.a.x,.int .i64 c.s.a.y,.int .i64 c.s.b.x,.int .i64 c.s.b.y]
def y6{x g B:Int}(h: -B<=x/\x<=B): -B<=x.tdiv g/\x.tdiv g<=B:=by have:=Int.natAbs_tdiv_le_natAbs x g;omega
def YW{n m B:Nat}(h1:n<=B)(h2:m<=B):bw n m<=B:=by
 rcases nZ n with e|e
 .grind
 .exact cZ (Nat.gcd_le_left m e) h1
def vB{s t:S}{d:Int}(h:lA s t d<0\/lE d<lA s t d\/lB s t d<0\/lE d<lB s t d):bI s t d=cz:=if_pos (if_pos h)
def D1{s t:S}{d:Int}(h1:¬lA s t d<0)(h2:¬lE d<lA s t d)(h3:¬lB s t d<0)(h4:¬lE d<lB s t d):gW s t d=if lA s t d=0\/lA s t d=lE d\/lB s t d=0\/lB s t d=lE d then 1 else 2:=if_neg (by simp only[not_or];exact⟨h1,h2,h3,h4⟩)
def rW{s t:S}{d k:Int}(h:gW s t d=k)(hk:k≠0):bI s t d=⟨k,⟨(lX s t d).tdiv (lG s t d),(lY s t d).tdiv (lG s t d),(lE d).tdiv (lG s t d)⟩,cz.s⟩:=by unfold bI;grind
noncomputable def PM:Con:=con (ac aS (ac aS (a1 aI))) (λ(s,t,d)=>[bR s=true,bR t=true,d≠0,-200000000<=d/\d<=200000000]) (λ(s,t,d)=>QS (bI s t d))
def aAS:PM.Ok aH 232:=bA (a7 Jr) (raw:=aw) (λ(s,t,d)=>[jU 6 [(10,.int .i64 (lA s t d)),(11,.int .i64 (lB s t d)),(2,.int .i64 (lE d))],(9+10000,.mk Unit (λ_ _=>some ()) [] (λ_=>[¬lA s t d<0,¬lE d<lA s t d,¬lB s t d<0,¬lE d<lB s t d]) (λ_=>[(12,.int .i64 (lX s t d)),(13,.int .i64 (lY s t d))]) (λ_=>[]) (λ_=>0) (λ_=>[])),
  jU 10 [(14,.int .i64 (lG s t d))],jO 13 [(59,.box 211 (aBP (bI s t d)))]]
  ) (λ(_,_,_)=>⟨_,rfl⟩) λ(s,t,d) hp=>az (q:=bd 1000000000 s.b/\bd 1000000000 s.a/\bd 1000000000 t.b/\bd 1000000000 t.a/\bd 1000000000 t.a/\bd 1000000000 s.a/\bd 2000000000 (aB3 t.a s.a)/\bd 2000000000 (aB3 t.b t.a)/\bd 2000000000 (aB3 t.a s.a)/\bd 2000000000 (aB3 s.b s.a)/\((d<0->aG (0-cross (aB3 t.a s.a) (aB3 t.b t.a))/\aG (0-cross (aB3 t.a s.a) (aB3 s.b s.a))/\aG (0-d)/\0-cross (aB3 t.a s.a) (aB3 t.b t.a)=lA s t d/\0-cross (aB3 t.a s.a) (aB3 s.b s.a)=lB s t d/\0-d=lE d)/\
  (¬d<0->cross (aB3 t.a s.a) (aB3 t.b t.a)=lA s t d/\cross (aB3 t.a s.a) (aB3 s.b s.a)=lB s t d/\d=lE d))/\
 (∀y:Unit,(lA s t d<0->0=(bI s t d).k/\0=(bI s t d).p.x/\0=(bI s t d).p.y/\0=(bI s t d).p.den/\0=(bI s t d).s.a.x/\0=(bI s t d).s.a.y/\0=(bI s t d).s.b.x/\0=(bI s t d).s.b.y)/\
  (¬lA s t d<0->(lE d<lA s t d->0=(bI s t d).k/\0=(bI s t d).p.x/\0=(bI s t d).p.y/\0=(bI s t d).p.den/\0=(bI s t d).s.a.x/\0=(bI s t d).s.a.y/\0=(bI s t d).s.b.x/\0=(bI s t d).s.b.y)/\
   (¬lE d<lA s t d->(lB s t d<0->0=(bI s t d).k/\0=(bI s t d).p.x/\0=(bI s t d).p.y/\0=(bI s t d).p.den/\0=(bI s t d).s.a.x/\0=(bI s t d).s.a.y/\0=(bI s t d).s.b.x/\0=(bI s t d).s.b.y)/\
    (¬lB s t d<0->(lE d<lB s t d->0=(bI s t d).k/\0=(bI s t d).p.x/\0=(bI s t d).p.y/\0=(bI s t d).p.den/\0=(bI s t d).s.a.x/\0=(bI s t d).s.a.y/\0=(bI s t d).s.b.x/\0=(bI s t d).s.b.y)/\
     (¬lE d<lB s t d->(aG (s.a.x*lE d)/\aG (lA s t d*(aB3 s.b s.a).x)/\aG (s.a.x*lE d+lA s t d*(aB3 s.b s.a).x)/\aG (s.a.y*lE d)/\aG (lA s t d*(aB3 s.b s.a).y)/\aG (s.a.y*lE d+lA s t d*(aB3 s.b s.a).y)/\s.a.x*lE d+lA s t d*(aB3 s.b s.a).x=lX s t d/\s.a.y*lE d+lA s t d*(aB3 s.b s.a).y=lY s t d/\¬lA s t d<0/\¬lE d<lA s t d/\¬lB s t d<0/\¬lE d<lB s t d)/\
      (∀y_1:Unit,¬lA s t d<0/\¬lE d<lA s t d/\¬lB s t d<0/\¬lE d<lB s t d->(-9000000000000000000<=lX s t d/\lX s t d<=9000000000000000000/\ -9000000000000000000<=lY s t d/\lY s t d<=9000000000000000000/\ -9000000000000000000<=(bw (bj (lX s t d)) (bj (lY s t d)):Int)/\(bw (bj (lX s t d)) (bj (lY s t d)):Int)<=9000000000000000000/\ -9000000000000000000<=lE d/\lE d<=9000000000000000000/\(bw (bj (bw (bj (lX s t d)) (bj (lY s t d)):Int)) (bj (lE d)):Int)=lG s t d)/\
       (∀y_2:Unit,lG s t d≠0/\aG (bg (lX s t d) (lG s t d))/\lG s t d≠0/\aG (bg (lY s t d) (lG s t d))/\lG s t d≠0/\aG (bg (lE d) (lG s t d))/\((lA s t d=0->1=(bI s t d).k/\bg (lX s t d) (lG s t d)=(bI s t d).p.x/\bg (lY s t d) (lG s t d)=(bI s t d).p.y/\bg (lE d) (lG s t d)=(bI s t d).p.den/\0=(bI s t d).s.a.x/\0=(bI s t d).s.a.y/\0=(bI s t d).s.b.x/\0=(bI s t d).s.b.y)/\
         (¬lA s t d=0->(lA s t d=lE d->1=(bI s t d).k/\bg (lX s t d) (lG s t d)=(bI s t d).p.x/\bg (lY s t d) (lG s t d)=(bI s t d).p.y/\bg (lE d) (lG s t d)=(bI s t d).p.den/\0=(bI s t d).s.a.x/\0=(bI s t d).s.a.y/\0=(bI s t d).s.b.x/\0=(bI s t d).s.b.y)/\
          (¬lA s t d=lE d->(lB s t d=0->1=(bI s t d).k/\bg (lX s t d) (lG s t d)=(bI s t d).p.x/\bg (lY s t d) (lG s t d)=(bI s t d).p.y/\bg (lE d) (lG s t d)=(bI s t d).p.den/\0=(bI s t d).s.a.x/\0=(bI s t d).s.a.y/\0=(bI s t d).s.b.x/\0=(bI s t d).s.b.y)/\
           (¬lB s t d=0->(lB s t d=lE d->1=(bI s t d).k/\bg (lX s t d) (lG s t d)=(bI s t d).p.x/\bg (lY s t d) (lG s t d)=(bI s t d).p.y/\bg (lE d) (lG s t d)=(bI s t d).p.den/\0=(bI s t d).s.a.x/\0=(bI s t d).s.a.y/\0=(bI s t d).s.b.x/\0=(bI s t d).s.b.y)/\
            (¬lB s t d=lE d->2=(bI s t d).k/\bg (lX s t d) (lG s t d)=(bI s t d).p.x/\bg (lY s t d) (lG s t d)=(bI s t d).p.y/\bg (lE d) (lG s t d)=(bI s t d).p.den/\0=(bI s t d).s.a.x/\0=(bI s t d).s.a.y/\0=(bI s t d).s.b.x/\0=(bI s t d).s.b.y)))))/\
        (∀y_3:Unit,(bI s t d).k=(bI s t d).k/\(bI s t d).p.x=(bI s t d).p.x/\(bI s t d).p.y=(bI s t d).p.y/\(bI s t d).p.den=(bI s t d).p.den/\(bI s t d).s.a.x=(bI s t d).s.a.x/\(bI s t d).s.a.y=(bI s t d).s.a.y/\(bI s t d).s.b.x=(bI s t d).s.b.x/\(bI s t d).s.b.y=(bI s t d).s.b.y))))))))) (by kernel_rfl) (by
  change bR s=true/\bR t=true/\d≠0/\(-200000000<=d/\d<=200000000)at hp;obtain⟨hs,ht,h0,hd⟩:=hp;have bs:bd 4000 s.a/\bd 4000 s.b:=kE (by rw[hs];rfl);have bt:bd 4000 t.a/\bd 4000 t.b:=kE (by rw[ht];rfl);have u1:=je bs.2 bs.1;have u2:=je bt.2 bt.1;have u3:=je bt.1 bs.1;have c1:=pm u3 u2;have c2:=pm u3 u1;have gM:∀{M:Int} {v:V},16000<=M->bd 4000 v->bd M v:=λh1 h2=>by unfold bd at*;omega
  have gN:∀{M:Int} {v:V},16000<=M->bd (4000+4000) v->bd M v:=λh1 h2=>by unfold bd at*;omega
  have a1: -128000000<=lA s t d/\lA s t d<=128000000:=by unfold lA cross;split<;>omega
  have e1: -200000000<=lE d/\lE d<=200000000:=by unfold lE;split<;>omega
  have e2:lE d≠0:=by unfold lE;split<;>omega
  have k1:aG (0-cross (aB3 t.a s.a) (aB3 t.b t.a)):=cd (by unfold cross;omega);have k2:aG (0-cross (aB3 t.a s.a) (aB3 s.b s.a)):=cd (by unfold cross;omega);have x1:=iD (A:=4000) (B:=200000000) bs.1.1 e1;have x2:=iD (A:=128000000) (B:=8000) a1 u1.1;have y1:=iD (A:=4000) (B:=200000000) bs.1.2 e1;have y2:=iD (A:=128000000) (B:=8000) a1 u1.2;have xB: -2000000000000<=lX s t d/\lX s t d<=2000000000000:=by unfold lX;omega
  have yB: -2000000000000<=lY s t d/\lY s t d<=2000000000000:=by unfold lY;omega
  have g1:bw (lX s t d).natAbs (lY s t d).natAbs<=2000000000000:=YW (by omega) (by omega);have g2:lG s t d≠0:=by unfold lG;have:=Nat.gcd_pos_of_pos_right (bw (lX s t d).natAbs (lY s t d).natAbs:Int).natAbs (show 0<(lE d).natAbs by omega);omega
  have q1:=y6 (g:=lG s t d) xB;have q2:=y6 (g:=lG s t d) yB;have q3:=y6 (g:=lG s t d) e1;have r1:aG (s.a.x*lE d):=cd (by omega);have r2:aG (lA s t d*(aB3 s.b s.a).x):=cd (by omega);have r3:aG (s.a.x*lE d+lA s t d*(aB3 s.b s.a).x):=cd (by omega);have r4:aG (s.a.y*lE d):=cd (by omega);have r5:aG (lA s t d*(aB3 s.b s.a).y):=cd (by omega);have r6:aG (s.a.y*lE d+lA s t d*(aB3 s.b s.a).y):=cd (by omega);have r7:aG ((lX s t d).tdiv (lG s t d)):=cd (by omega);have r8:aG ((lY s t d).tdiv (lG s t d)):=cd (by omega);have r9:aG ((lE d).tdiv (lG s t d)):=cd (by omega);have r10:aG (0-d):=cd (by omega);have f1:d<0->0-cross (aB3 t.a s.a) (aB3 t.b t.a)=lA s t d:=λh=>by unfold lA;omega
  have f2:d<0->0-cross (aB3 t.a s.a) (aB3 s.b s.a)=lB s t d:=λh=>by unfold lB;omega
  have f3:d<0->0-d=lE d:=λh=>by unfold lE;omega
  have f4:¬d<0->cross (aB3 t.a s.a) (aB3 t.b t.a)=lA s t d:=λh=>by unfold lA;rw[if_neg h]
  have f5:¬d<0->cross (aB3 t.a s.a) (aB3 s.b s.a)=lB s t d:=λh=>by unfold lB;rw[if_neg h]
  have f6:¬d<0->d=lE d:=λh=>by unfold lE;rw[if_neg h]
  have n1:lA s t d<0->bI s t d=cz:=λh=>vB (.inl h);have n2:lE d<lA s t d->bI s t d=cz:=λh=>vB (.inr (.inl h));have n3:lB s t d<0->bI s t d=cz:=λh=>vB (.inr (.inr (.inl h)));have n4:lE d<lB s t d->bI s t d=cz:=λh=>vB (.inr (.inr (.inr h)));have t0:¬lA s t d<0->¬lE d<lA s t d->¬lB s t d<0->¬lE d<lB s t d->lA s t d=0\/lA s t d=lE d\/lB s t d=0\/lB s t d=lE d->bI s t d=⟨1,⟨(lX s t d).tdiv (lG s t d),(lY s t d).tdiv (lG s t d),(lE d).tdiv (lG s t d)⟩,cz.s⟩:=λh1 h2 h3 h4 h=>rW (by rw[D1 h1 h2 h3 h4,if_pos h]) (by decide);have t1:¬lA s t d<0->¬lE d<lA s t d->¬lB s t d<0->¬lE d<lB s t d->¬(lA s t d=0\/lA s t d=lE d\/lB s t d=0\/lB s t d=lE d)->bI s t d=⟨2,⟨(lX s t d).tdiv (lG s t d),(lY s t d).tdiv (lG s t d),(lE d).tdiv (lG s t d)⟩,cz.s⟩:=λh1 h2 h3 h4 h=>rW (by rw[D1 h1 h2 h3 h4,if_neg h]) (by decide);have b1:=gM (M:=1000000000) (by decide) bs.1;have b2:=gM (M:=1000000000) (by decide) bs.2;have b3:=gM (M:=1000000000) (by decide) bt.1;have b4:=gM (M:=1000000000) (by decide) bt.2;have b5:=gN (M:=2000000000) (by decide) u1;have b6:=gN (M:=2000000000) (by decide) u2;have b7:=gN (M:=2000000000) (by decide) u3;have hX: -9000000000000000000<=lX s t d/\lX s t d<=9000000000000000000:=by omega
  have hY: -9000000000000000000<=lY s t d/\lY s t d<=9000000000000000000:=by omega
  have hE: -9000000000000000000<=lE d/\lE d<=9000000000000000000:=by omega
  have hG1: -9000000000000000000<=((bw (lX s t d).natAbs (lY s t d).natAbs:Nat):Int):=by omega
  have hG2:((bw (lX s t d).natAbs (lY s t d).natAbs:Nat):Int)<=9000000000000000000:=by omega
  clear hs ht h0 hd bs bt u1 u2 u3 c1 c2 gM gN a1 e1 e2 x1 x2 y1 y2 xB yB g1 q1 q2 q3;obtain⟨hX1,hX2⟩:=hX;obtain⟨hY1,hY2⟩:=hY;obtain⟨hE1,hE2⟩:=hE
  with_reducible ((repeat' first|apply cl|intro);all_goals repeat cases‹_/\_›)
  all_goals first|assumption|rfl|exact f1 ‹_› |exact f2 ‹_› |exact f3 ‹_› |exact f4 ‹_› |exact f5 ‹_› |exact f6 ‹_› |(rw[n1 ‹_›];rfl)|(rw[n2 ‹_›];rfl)|(rw[n3 ‹_›];rfl)|(rw[n4 ‹_›];rfl)|(rw[t0 ‹_› ‹_› ‹_› ‹_› (.inl ‹_›)] <;>rfl)|(rw[t0 ‹_› ‹_› ‹_› ‹_› (.inr (.inl ‹_›))] <;>rfl)|(rw[t0 ‹_› ‹_› ‹_› ‹_› (.inr (.inr (.inl ‹_›)))] <;>rfl)|(rw[t0 ‹_› ‹_› ‹_› ‹_› (.inr (.inr (.inr ‹_›)))] <;>rfl)|(rw[t1 ‹_› ‹_› ‹_› ‹_› (λh=>h.elim ‹_› λh=>h.elim ‹_› λh=>h.elim ‹_› ‹_›)] <;>rfl))
noncomputable def NJ:Tab:=aq [(232,PM)] NH
def Jt:NJ.Ok aH:=au Jr ⟨aAS,trivial⟩
def v2(v:V):List SV:=[.int .i64 v.x,.int .i64 v.y]
def l6(v:V):Com:=⟨1,bQ v,cz.s⟩
def bf(s t:S):Int:=cross (aB3 s.b s.a) (aB3 t.b t.a)
def gp(s t:S):Com:=
 if dL (bv s t) (cD s t)=0 then l6 (bv s t)
 else if dL (bv s t) (cD s t)= -1 then⟨3,⟨0,0,0⟩,⟨bv s t,cD s t⟩⟩
 else cz
def mb1(s t:S):Bool:=decide (s.a=s.b)&&onS t s.a
def mb3(s t:S):Bool:=decide (s.a=s.b)||(decide (t.a=t.b)||decide (¬ba s.a s.b t.a=0))
def ai(s t:S):Com:=
 if(!bR s)=true then cz
 else if(!bR t)=true then cz
 else if¬bf s t=0 then bI s t (bf s t)
 else if mb1 s t=true then l6 s.a
 else if mb1 t s=true then l6 t.a
 else if mb3 s t=true then cz
 else gp s t
noncomputable def PW:Con:=con (ac aS (a1 aS)) (λ(_,_)=>[]) (λ(s,t)=>QS (ai s t))
def aA1:PW.Ok aH 172:=bA (a7 Jt) (raw:=aw) (λ(s,t)=>[jb 7 36 (mb1 s t),jb 9 51 (mb1 t s),jb 11 66 (mb3 s t),jP 12 [ai s t=gp s t],lU 14 3,jO 18 [(34,.box 254 (v2 (loS s)++v2 (hiS s)++v2 (loS t)++v2 (hiS t)))],jO 21 [(40,.box 53 (v2 (bv s t)))],jO 23 [(41,.box 53 (v2 (cD s t)))]]
  ) (λ(_,_)=>⟨_,rfl⟩) λ(s,t) _=>az (q:=((!bR s)=true->0=(ai s t).k/\0=(ai s t).p.x/\0=(ai s t).p.y/\0=(ai s t).p.den/\0=(ai s t).s.a.x/\0=(ai s t).s.a.y/\0=(ai s t).s.b.x/\0=(ai s t).s.b.y)/\
 ((!bR s)=false->((!bR t)=true->0=(ai s t).k/\0=(ai s t).p.x/\0=(ai s t).p.y/\0=(ai s t).p.den/\0=(ai s t).s.a.x/\0=(ai s t).s.a.y/\0=(ai s t).s.b.x/\0=(ai s t).s.b.y)/\
  ((!bR t)=false->bd 1000000000 s.b/\bd 1000000000 s.a/\bd 1000000000 t.b/\bd 1000000000 t.a/\bd 2000000000 (aB3 s.b s.a)/\bd 2000000000 (aB3 t.b t.a)/\(¬cross (aB3 s.b s.a) (aB3 t.b t.a)=0->bR s=true/\bR t=true/\cross (aB3 s.b s.a) (aB3 t.b t.a)≠0/\(-200000000<=cross (aB3 s.b s.a) (aB3 t.b t.a)/\cross (aB3 s.b s.a) (aB3 t.b t.a)<=200000000)/\(bI s t (cross (aB3 s.b s.a) (aB3 t.b t.a))).k=(ai s t).k/\(bI s t (cross (aB3 s.b s.a) (aB3 t.b t.a))).p.x=(ai s t).p.x/\(bI s t (cross (aB3 s.b s.a) (aB3 t.b t.a))).p.y=(ai s t).p.y/\(bI s t (cross (aB3 s.b s.a) (aB3 t.b t.a))).p.den=(ai s t).p.den/\(bI s t (cross (aB3 s.b s.a) (aB3 t.b t.a))).s.a.x=(ai s t).s.a.x/\(bI s t (cross (aB3 s.b s.a) (aB3 t.b t.a))).s.a.y=(ai s t).s.a.y/\(bI s t (cross (aB3 s.b s.a) (aB3 t.b t.a))).s.b.x=(ai s t).s.b.x/\(bI s t (cross (aB3 s.b s.a) (aB3 t.b t.a))).s.b.y=(ai s t).s.b.y)/\
   (¬(¬cross (aB3 s.b s.a) (aB3 t.b t.a)=0)->(((s.a=s.b->onS t s.a=mb1 s t)/\
      (¬s.a=s.b->false=mb1 s t))/\
     (∀y:Unit,(mb1 s t=true->1=(ai s t).k/\s.a.x=(ai s t).p.x/\s.a.y=(ai s t).p.y/\1=(ai s t).p.den/\0=(ai s t).s.a.x/\0=(ai s t).s.a.y/\0=(ai s t).s.b.x/\0=(ai s t).s.b.y)/\
      (mb1 s t=false->((t.a=t.b->onS s t.a=mb1 t s)/\
        (¬t.a=t.b->false=mb1 t s))/\
       (∀y_1:Unit,(mb1 t s=true->1=(ai s t).k/\t.a.x=(ai s t).p.x/\t.a.y=(ai s t).p.y/\1=(ai s t).p.den/\0=(ai s t).s.a.x/\0=(ai s t).s.a.y/\0=(ai s t).s.b.x/\0=(ai s t).s.b.y)/\
        (mb1 t s=false->((s.a=s.b->true=mb3 s t)/\
          (¬s.a=s.b->(t.a=t.b->true=mb3 s t)/\
           (¬t.a=t.b->bd 1000000000 s.a/\bd 1000000000 s.b/\bd 1000000000 t.a/\decide (¬ba s.a s.b t.a=0)=mb3 s t)))/\
         (∀y_2:Unit,(mb3 s t=true->0=(ai s t).k/\0=(ai s t).p.x/\0=(ai s t).p.y/\0=(ai s t).p.den/\0=(ai s t).s.a.x/\0=(ai s t).s.a.y/\0=(ai s t).s.b.x/\0=(ai s t).s.b.y)/\
          (mb3 s t=false->ai s t=gp s t)))))))/\
    (∀y:Unit,ai s t=gp s t->(((0:Int)<4->aG (0+1)/\ix (0+1) 4/\ix 0 4/\(bV s.b s.a=true->aG (0+1)/\aG (0+1)/\ix (0+1) 4/\ix 0 4/\ix 0 4/\ix (0+1) 4/\aG (0+2)/\((0+2:Int)<4->aG (0+2+1)/\ix (0+2+1) 4/\ix (0+2) 4/\(bV t.b t.a=true->aG (0+2+1)/\aG (0+2+1)/\ix (0+2+1) 4/\ix (0+2) 4/\ix (0+2) 4/\ix (0+2+1) 4/\aG (0+2+2)/\((0+2+2:Int)<4->aG (0+2+2+1)/\ix (0+2+2+1) 4/\False)/\
          (¬(0+2+2:Int)<4->s.b.x=(loS s).x/\s.b.y=(loS s).y/\s.a.x=(hiS s).x/\s.a.y=(hiS s).y/\t.b.x=(loS t).x/\t.b.y=(loS t).y/\t.a.x=(hiS t).x/\t.a.y=(hiS t).y))/\
         (bV t.b t.a=false->aG (0+2+2)/\((0+2+2:Int)<4->aG (0+2+2+1)/\ix (0+2+2+1) 4/\False)/\
          (¬(0+2+2:Int)<4->s.b.x=(loS s).x/\s.b.y=(loS s).y/\s.a.x=(hiS s).x/\s.a.y=(hiS s).y/\t.a.x=(loS t).x/\t.a.y=(loS t).y/\t.b.x=(hiS t).x/\t.b.y=(hiS t).y)))/\
        (¬(0+2:Int)<4->s.b.x=(loS s).x/\s.b.y=(loS s).y/\s.a.x=(hiS s).x/\s.a.y=(hiS s).y/\t.a.x=(loS t).x/\t.a.y=(loS t).y/\t.b.x=(hiS t).x/\t.b.y=(hiS t).y))/\
       (bV s.b s.a=false->aG (0+2)/\((0+2:Int)<4->aG (0+2+1)/\ix (0+2+1) 4/\ix (0+2) 4/\(bV t.b t.a=true->aG (0+2+1)/\aG (0+2+1)/\ix (0+2+1) 4/\ix (0+2) 4/\ix (0+2) 4/\ix (0+2+1) 4/\aG (0+2+2)/\((0+2+2:Int)<4->aG (0+2+2+1)/\ix (0+2+2+1) 4/\False)/\
          (¬(0+2+2:Int)<4->s.a.x=(loS s).x/\s.a.y=(loS s).y/\s.b.x=(hiS s).x/\s.b.y=(hiS s).y/\t.b.x=(loS t).x/\t.b.y=(loS t).y/\t.a.x=(hiS t).x/\t.a.y=(hiS t).y))/\
         (bV t.b t.a=false->aG (0+2+2)/\((0+2+2:Int)<4->aG (0+2+2+1)/\ix (0+2+2+1) 4/\False)/\
          (¬(0+2+2:Int)<4->s.a.x=(loS s).x/\s.a.y=(loS s).y/\s.b.x=(hiS s).x/\s.b.y=(hiS s).y/\t.a.x=(loS t).x/\t.a.y=(loS t).y/\t.b.x=(hiS t).x/\t.b.y=(hiS t).y)))/\
        (¬(0+2:Int)<4->s.a.x=(loS s).x/\s.a.y=(loS s).y/\s.b.x=(hiS s).x/\s.b.y=(hiS s).y/\t.a.x=(loS t).x/\t.a.y=(loS t).y/\t.b.x=(hiS t).x/\t.b.y=(hiS t).y)))/\
      (¬(0:Int)<4->s.a.x=(loS s).x/\s.a.y=(loS s).y/\s.b.x=(hiS s).x/\s.b.y=(hiS s).y/\t.a.x=(loS t).x/\t.a.y=(loS t).y/\t.b.x=(hiS t).x/\t.b.y=(hiS t).y))/\
     (∀y_1:Unit,ix 0 4/\ix 1 4/\(ix 2 4/\(bV (loS s) (loS t)=true->ix 2 4/\(loS t).x=(bv s t).x/\(loS t).y=(bv s t).y)/\
       (bV (loS s) (loS t)=false->(loS s).x=(bv s t).x/\(loS s).y=(bv s t).y))/\
      (∀y_2:Unit,(ix 3 4/\(bV (hiS t) (hiS s)=true->ix 3 4/\(hiS t).x=(cD s t).x/\(hiS t).y=(cD s t).y)/\
        (bV (hiS t) (hiS s)=false->(hiS s).x=(cD s t).x/\(hiS s).y=(cD s t).y))/\
       (∀y_3:Unit,(dL (bv s t) (cD s t)=0->1=(ai s t).k/\(bv s t).x=(ai s t).p.x/\(bv s t).y=(ai s t).p.y/\1=(ai s t).p.den/\0=(ai s t).s.a.x/\0=(ai s t).s.a.y/\0=(ai s t).s.b.x/\0=(ai s t).s.b.y)/\
        (¬dL (bv s t) (cD s t)=0->(dL (bv s t) (cD s t)= -1->3=(ai s t).k/\0=(ai s t).p.x/\0=(ai s t).p.y/\0=(ai s t).p.den/\(bv s t).x=(ai s t).s.a.x/\(bv s t).y=(ai s t).s.a.y/\(cD s t).x=(ai s t).s.b.x/\(cD s t).y=(ai s t).s.b.y)/\
         (¬dL (bv s t) (cD s t)= -1->0=(ai s t).k/\0=(ai s t).p.x/\0=(ai s t).p.y/\0=(ai s t).p.den/\0=(ai s t).s.a.x/\0=(ai s t).s.a.y/\0=(ai s t).s.b.x/\0=(ai s t).s.b.y)))))))))) (by kernel_rfl) (by
  have gB:(!bR s)=false->(!bR t)=false-> -200000000<=bf s t/\bf s t<=200000000:=λh1 h2=>by have bs:bd 4000 s.a/\bd 4000 s.b:=kE h1;have bt:bd 4000 t.a/\bd 4000 t.b:=kE h2;have c1:=pm (je bs.2 bs.1) (je bt.2 bt.1);unfold bf cross;omega
  have gM:∀{r:S} {M:Int},8000<=M->(!bR r)=false->bd M r.a/\bd M r.b/\bd M (aB3 r.b r.a):=λhM h=>by have b:=kE h (M:=4000);have c:=je b.2 b.1;unfold bd at*;omega
  have e1:(!bR s)=true->ai s t=cz:=λh=>if_pos h;have e2:(!bR t)=true->ai s t=cz:=λh=>by unfold ai;grind
  have e3:(!bR s)=false->(!bR t)=false->¬bf s t=0->ai s t=bI s t (bf s t):=λh1 h2 h3=>by unfold ai;grind
  have e4:(!bR s)=false->(!bR t)=false->¬¬bf s t=0->mb1 s t=true->ai s t=l6 s.a:=λh1 h2 h3 h4=>by unfold ai;grind
  have e5:(!bR s)=false->(!bR t)=false->¬¬bf s t=0->mb1 s t=false->mb1 t s=true->ai s t=l6 t.a:=λh1 h2 h3 h4 h5=>by unfold ai;grind
  have e6:(!bR s)=false->(!bR t)=false->¬¬bf s t=0->mb1 s t=false->mb1 t s=false->mb3 s t=true->ai s t=cz:=λh1 h2 h3 h4 h5 h6=>by unfold ai;grind
  have e7:(!bR s)=false->(!bR t)=false->¬¬bf s t=0->mb1 s t=false->mb1 t s=false->mb3 s t=false->ai s t=gp s t:=λh1 h2 h3 h4 h5 h6=>by unfold ai;grind
  have e8:ai s t=gp s t->dL (bv s t) (cD s t)=0->ai s t=l6 (bv s t):=λh h1=>by rw[h];exact if_pos h1
  have e9:ai s t=gp s t->¬dL (bv s t) (cD s t)=0->dL (bv s t) (cD s t)= -1->ai s t=⟨3,⟨0,0,0⟩,⟨bv s t,cD s t⟩⟩:=λh h1 h2=>by rw[h];unfold gp;grind
  have e10:ai s t=gp s t->¬dL (bv s t) (cD s t)=0->¬dL (bv s t) (cD s t)= -1->ai s t=cz:=λh h1 h2=>by rw[h];unfold gp;grind
  have q1:s.a=s.b->true=mb3 s t:=λh=>by unfold mb3;grind
  have q2:t.a=t.b->true=mb3 s t:=λh=>by unfold mb3;grind
  have q3:¬s.a=s.b->¬t.a=t.b->decide (¬ba s.a s.b t.a=0)=mb3 s t:=λh1 h2=>by unfold mb3;grind
  have q4:∀{s t:S},s.a=s.b->onS t s.a=mb1 s t:=λh=>by unfold mb1;grind
  have q5:∀{s t:S},¬s.a=s.b->false=mb1 s t:=λh=>by unfold mb1;grind
  have w1:∀{r:S},bV r.b r.a=true->r.b=loS r/\r.a=hiS r:=λh=>by unfold loS hiS;grind
  have w2:∀{r:S},bV r.b r.a=false->r.a=loS r/\r.b=hiS r:=λh=>by unfold loS hiS;grind
  have w3:bV (loS s) (loS t)=true->loS t=bv s t:=λh=>by unfold bv;rw[h];rfl
  have w4:bV (loS s) (loS t)=false->loS s=bv s t:=λh=>by unfold bv;rw[h];rfl
  have w5:bV (hiS t) (hiS s)=true->hiS t=cD s t:=λh=>by unfold cD;rw[h];rfl
  have w6:bV (hiS t) (hiS s)=false->hiS s=cD s t:=λh=>by unfold cD;rw[h];rfl
  with_reducible ((repeat' first|apply cl|intro);all_goals repeat cases‹_/\_›)
  all_goals first|assumption|rfl|(unfold ix;omega)|(unfold aG;omega)|omega|exact nb ‹_› |exact q1 ‹_› |exact q2 ‹_› |exact q3 ‹_› ‹_› |exact q4 ‹_› |exact q5 ‹_› |(rw[e1 ‹_›] <;>rfl)|(rw[e2 ‹_›] <;>rfl)|(rw[e3 ‹_› ‹_› ‹_›] <;>rfl)|(rw[e4 ‹_› ‹_› ‹_› ‹_›] <;>rfl)|(rw[e5 ‹_› ‹_› ‹_› ‹_› ‹_›] <;>rfl)|(rw[e6 ‹_› ‹_› ‹_› ‹_› ‹_› ‹_›] <;>rfl)|exact e7 ‹_› ‹_› ‹_› ‹_› ‹_› ‹_› |(rw[e8 ‹_› ‹_›] <;>rfl)|(rw[e9 ‹_› ‹_› ‹_›] <;>rfl)|(rw[e10 ‹_› ‹_› ‹_›] <;>rfl)|exact(gB ‹_› ‹_›).1|exact(gB ‹_› ‹_›).2|exact(gM (by decide) ‹_›).1|exact(gM (by decide) ‹_›).2.1|exact(gM (by decide) ‹_›).2.2|(rw[<-(w1 ‹_›).1];done)|(rw[<-(w1 ‹_›).2];done)|(rw[<-(w2 ‹_›).1];done)|(rw[<-(w2 ‹_›).2];done)|(rw[w3 ‹_›];done)|(rw[w4 ‹_›];done)|(rw[w5 ‹_›];done)|(rw[w6 ‹_›];done))
noncomputable def NT:Tab:=aq [(172,PW)] NJ
def J6:NT.Ok aH:=au Jt ⟨aA1,trivial⟩
def Vd(s t:S)(d:Int):(bI s t d).k=gW s t d:=by
 unfold bI;split
 .rename_i h;rw[h];rfl
 .rfl
def XC(s t:S):(ai s t).k=dM s t:=by
 have hc:(cz).k=0:=rfl;have h1:∀v,(l6 v).k=1:=λ_=>rfl;have e1:mb1 s t=true↔s.a=s.b/\onS t s.a=true:=by unfold mb1;simp
 have e2:mb1 t s=true↔t.a=t.b/\onS s t.a=true:=by unfold mb1;simp
 have e3:mb3 s t=true↔s.a=s.b\/t.a=t.b\/ba s.a s.b t.a≠0:=by unfold mb3;simp
 unfold ai dM gp;rw[<-bf];simp only[<-e1,<-e2,<-e3];cases bR s<;>cases bR t<;>simp only[xW,Bool.not_false,Bool.and_true,Bool.and_false,if_true,nY,if_false,hc,ne_eq]
 repeat' split
 all_goals first|rfl|exact Vd _ _ _
noncomputable def Pp:Con:=con (ac aS (a1 aS)) (λ(_,_)=>[]) (λ(s,t)=> .int .i64 (dM s t)
 )
def aBj:Pp.Ok aH 222:=bA (a7 J6) (raw:=aw) (λ(_,_)=>[]) (λ(_,_)=>⟨_,rfl⟩) λ(s,t) _=>az (q:=(ai s t).k=dM s t) (by kernel_rfl) (by exact XC s t)
noncomputable def Bv:Tab:=aq [(222,Pp)] NT
def wR:Bv.Ok aH:=au J6 ⟨aBj,trivial⟩
noncomputable def Ps:Con:=con (ac (aL .V) (a1 aN)) (λ(r,i)=>[i<r.length,r.length<=1000000]) (λ(r,i)=>aV.enc (prv r i)
 )
def aBm:Ps.Ok aH 219:=bA (a7 wR) (raw:=aw) (λ(_,_)=>[]) (λ(_,_)=>⟨_,rfl⟩) λ(r,i) hp=>az (q:=aG ((i:Int)+r.length)/\aG ((i:Int)+r.length-1)/\(r.length:Int)≠0/\ix (dI ((i:Int)+r.length-1) (r.length:Int)) r.length/\(aB0 r (dI ((i:Int)+r.length-1) (r.length:Int)).toNat).x=(prv r i).x/\(aB0 r (dI ((i:Int)+r.length-1) (r.length:Int)).toNat).y=(prv r i).y) (by kernel_rfl) (by
 change i<r.length/\r.length<=1000000 at hp;have h:dI ((i:Int)+r.length-1) (r.length:Int)=(((i+r.length-1) % r.length:Nat):Int):=by rw[show(i:Int)+r.length-1=((i+r.length-1:Nat):Int) by omega,<-Int.ofNat_tmod]
 rw[h];exact⟨cd (by omega),cd (by omega),by omega,eu (by omega),rfl,rfl⟩)
noncomputable def Nq:Tab:=aq [(219,Ps)] Bv
def KY:Nq.Ok aH:=au wR ⟨aBm,trivial⟩
noncomputable def Pr:Con:=con (ac (aL .V) (a1 aN)) (λ(r,i)=>[i<r.length,r.length<=1000000]) (λ(r,i)=>aV.enc (nxt r i)
 )
def aBl:Pr.Ok aH 220:=bA (a7 KY) (raw:=aw) (λ(_,_)=>[]) (λ(_,_)=>⟨_,rfl⟩) λ(r,i) hp=>az (q:=aG ((i:Int)+1)/\(r.length:Int)≠0/\ix (((i+1) % r.length:Nat):Int) r.length/\(aB0 r ((i+1) % r.length)).x=(nxt r i).x/\(aB0 r ((i+1) % r.length)).y=(nxt r i).y) (by kernel_rfl) (by change i<r.length/\r.length<=1000000 at hp;exact⟨cd (by omega),by omega,eu (by omega),rfl,rfl⟩)
noncomputable def Np:Tab:=aq [(220,Pr)] Nq
def KW:Np.Ok aH:=au KY ⟨aBl,trivial⟩
noncomputable def Pq:Con:=Oo (a1 (aL .V)) (λr=>[r.length<=1000]) 57 .S (λr=>aQ r) (λ_=>[])
def aBk:Pq.Ok aH 221:=Xb (a7 KW) (raw:=aw) (λr=>[lp 5 11 r.length (λ_=>[]) [21] (λk=>[(3,.own 21 .S k)]) (λk=>[(21,.row 57 .S ((aQ r).take k))])]
  ) (λ_=>⟨[],rfl⟩) λr hp=>az (q:=((r.length:Int)<2->aQ r=([] :List S))/\
 (¬(r.length:Int)<2->(0=(0:Int)/\(0:Nat)=0/\bM 0 (aQ r)=([] :List S)/\(0:Nat)<=r.length)/\
  (∀x:Nat,x<=r.length->((x:Int)<r.length->ix (x:Int) r.length/\x<r.length/\r.length<=1000000/\x=(bM x (aQ r)).length/\(bM x (aQ r)).length+[(⟨(aB0 r x),(nxt r x)⟩:S)].length<=1000000/\aG ((x:Int)+1)/\(x:Int)+1=((x+1:Nat):Int)/\(bM x (aQ r)++[(⟨(aB0 r x),(nxt r x)⟩:S)]).length=x+1/\bM x (aQ r)++[(⟨(aB0 r x),(nxt r x)⟩:S)] =bM (x+1) (aQ r)/\x+1<=r.length/\r.length-(x+1)<r.length-x)/\
   (¬(x:Int)<r.length->bM x (aQ r)=aQ r/\x=(bM x (aQ r)).length)))) (by kernel_rfl) (by
  change r.length<=1000 at hp;have e0:(r.length:Int)<2->aQ r=[] :=λh=>by unfold aQ;grind
  have e1:¬(r.length:Int)<2->(aQ r).length=r.length:=λh=>rQ r (by omega);have e2:¬(r.length:Int)<2->∀x:Nat,(x:Int)<r.length->bM x (aQ r)++[⟨aB0 r x,nxt r x⟩] =bM (x+1) (aQ r):=λh x hx=>by
   have hx':x<(aQ r).length:=by rw[e1 h];omega
   rw[List.take_succ_eq_append_getElem hx',<-mq hx',rV (by omega) (by omega)];rfl
  have e3:¬(r.length:Int)<2->∀x:Nat,x<=r.length->(bM x (aQ r)).length=x:=λh x hx=>by grind
  have e4:¬(r.length:Int)<2->∀x:Nat,¬(x:Int)<r.length->bM x (aQ r)=aQ r:=λh x hx=>ib (by omega)
  with_reducible ((repeat' first|apply cl|intro);all_goals repeat cases‹_/\_›)
  all_goals grind)
noncomputable def No:Tab:=aq [(221,Pq)] Np
def KV:No.Ok aH:=au KW ⟨aBk,trivial⟩
noncomputable def Pu:Con:=con (a1 (aL .V)) (λr=>[near r=true,r.length<=100000]) (λr=> .int .i64 (gH r))
def aBn:Pu.Ok aH 218:=bA (a7 KV) (raw:=aw) (λr=>[lp 3 8 r.length (λ_=>[]) [] (λk=>[(3,.int .i64 (ar r k))]) (λ_=>[])]
  ) (λ_=>⟨_,rfl⟩) λr hp=>az (q:=(0=(0:Int)/\0=ar r 0/\(0:Nat)<=r.length)/\
 (∀x:Nat,x<=r.length->((x:Int)<r.length->ix (x:Int) r.length/\x<r.length/\r.length<=1000000/\bd 2000000000 (aB0 r x)/\bd 2000000000 (nxt r x)/\aG (ar r x+cross (aB0 r x) (nxt r x))/\aG ((x:Int)+1)/\(x:Int)+1=((x+1:Nat):Int)/\ar r x+cross (aB0 r x) (nxt r x)=ar r (x+1)/\x+1<=r.length/\r.length-(x+1)<r.length-x)/\
  (¬(x:Int)<r.length->ar r x=gH r))) (by kernel_rfl) (by
  change near r=true/\r.length<=100000 at hp;have hn:=λi hi=> @mr r hp.1 i hi 2000000000;have ha:=λk (hk:k<=r.length)=>Bp hp.1 k hk;have hs:=AY r;have hE:∀x:Nat,¬(x:Int)<r.length->x<=r.length->ar r x=gH r:=λx h1 h2=>by rw[show x=r.length by omega];rfl
  have hI:∀x:Nat,(x:Int)<r.length->aG (ar r x+cross (aB0 r x) (nxt r x)):=λx h=>by have h1:=ha (x+1) (by omega);rw[hs x]at h1;exact cd (by unfold nxt;omega)
  with_reducible ((repeat' first|apply cl|intro);all_goals repeat cases‹_/\_›)
  all_goals first|rfl|with_reducible solve_by_elim|exact hn _ (by omega) (by decide)|exact hn _ (fJ _ (by omega)) (by decide)|exact(hs _).symm|grind)
noncomputable def Nr:Tab:=aq [(218,Pu)] No
def KZ:Nr.Ok aH:=au KV ⟨aBn,trivial⟩
noncomputable def PX:Con:=con (a1 aV) (λ_=>[]) (λv=> .bool (!bS v 2000)
 )
def aA2:PX.Ok aH 251:=bA (a7 KZ) (raw:=aw) (λ_=>[]) (λ_=>⟨_,rfl⟩) λv _=>az (q:=(0:Int)<=2000/\(2000:Int)<=9000000000000000000/\(!bS v 2000)=(!bS v 2000)) (by kernel_rfl) (by grind)
noncomputable def NU:Tab:=aq [(251,PX)] Nr
def J7:NU.Ok aH:=au KZ ⟨aA2,trivial⟩
def aF(f:Nat):Ar Unit where
 enc _:= .fnp f [] []
 dec s:=match s with
  | .fnp g [] [] =>(match af g f with|true=>some ()|false=>none)
  |_=>none
 ok s a h:=by
  split at h
  .split at h<;>cases h;simp_all
  .cases h
 pl _:=⟨_,rfl⟩
def fI{α:Type}(q:α->Bool)(l:List α):Int:=match l.findIdx? q with
 |some i=>(i:Int)
 |none=> -1
def kJ{t:LT}{l:List t.ty}{q:t.ty->Bool}{k:Nat}(hk:k<l.length)(h:q (t.nth l k)=true)(hu:ao (λj=>q (t.nth l j)=false) k):(k:Int)=fI q l:=by
 have e:l.findIdx? q=some k:=by rw[List.findIdx?_eq_some_iff_getElem];refine⟨hk,by rw[<-t.nth_eq l hk];exact h,λj hj=> ?_⟩;have:=hu j hj;dsimp only at this;rw[t.nth_eq l (by omega)]at this;rw[this];simp
 unfold fI;rw[e]
def kj{t:LT}{l:List t.ty}{q:t.ty->Bool}(hu:ao (λj=>q (t.nth l j)=false) l.length): -1=fI q l:=by
 have e:l.findIdx? q=none:=by rw[List.findIdx?_eq_none_iff];intro x hx;obtain⟨j,hj,rfl⟩:=iA hx;have:=hu j hj;dsimp only at this;rwa[t.nth_eq l hj]at this
 unfold fI;rw[e]
def qI{α:Type}(q:α->Bool)(l:List α):decide (0<=fI q l)=l.any q:=by unfold fI;grind
noncomputable def PO:Con:=con (ac (aL .V) (a1 (aF 251))) (λ(l,_)=>[l.length<=1000000]) (λ(l,_)=> .int .i64 (fI (λv=> !bS v 2000) l))
def aAU:PO.Ok aH 275:=bA (a7 J7) (raw:=aw) (λ(l,_)=>[cnt 2 8 l.length (ao λj=>(!bS (aB0 l j) 2000)=false)]
  ) (λ(_,_)=>⟨_,rfl⟩) λ(l,u) hp=>az (q:=(0=(0:Int)/\(0:Nat)<=l.length/\ao (λj=>(!bS (aB0 l j) 2000)=false) 0)/\
 (∀x:Nat,x<=l.length/\ao (λj=>(!bS (aB0 l j) 2000)=false) x->((x:Int)<l.length->ix (x:Int) l.length/\((!bS (aB0 l x) 2000)=true->(x:Int)=fI (λv=>(!bS v 2000)) l)/\
   ((!bS (aB0 l x) 2000)=false->aG ((x:Int)+1)/\(x:Int)+1=((x+1:Nat):Int)/\x+1<=l.length/\ao (λj=>(!bS (aB0 l j) 2000)=false) (x+1)/\l.length-(x+1)<l.length-x))/\
  (¬(x:Int)<l.length-> -1=fI (λv=>(!bS v 2000)) l))) (by kernel_rfl) (by
  change l.length<=1000000 at hp
  with_reducible ((repeat' first|apply cl|intro);all_goals repeat cases‹_/\_›)
  all_goals first|rfl|exact kJ (t:= .V) (by omega) ‹_› ‹_› |(obtain rfl:_=l.length:=nl ‹_› (by omega);exact kj (t:= .V) ‹_›)|grind)
noncomputable def NL:Tab:=aq [(275,PO)] NU
def Jw:NL.Ok aH:=au J7 ⟨aAU,trivial⟩
noncomputable def PY:Con:=con (ac (aL .V) (a1 (aF 251))) (λ(l,_)=>[l.length<=1000000]) (λ(l,_)=> .bool (l.any λv=> !bS v 2000)
 )
def aA3:PY.Ok aH 250:=bA (a7 Jw) (raw:=aw) (λ(_,_)=>[]) (λ(_,_)=>⟨_,rfl⟩) λ(l,u) hp=>az (q:=l.length<=1000000/\decide (0<=fI (λv=>(!bS v 2000)) l)=ig l (λv=>(!bS v 2000))) (by kernel_rfl) (by change l.length<=1000000 at hp;exact⟨hp,qI _ _⟩)
noncomputable def NV:Tab:=aq [(250,PY)] NL
def J8:NV.Ok aH:=au Jw ⟨aA3,trivial⟩
noncomputable def Pv:Con:=con (a1 (aL .V)) (λl=>[l.length<=1000000]) (λl=> .bool (near l)
 )
def aBo:Pv.Ok aH 217:=bA (a7 J8) (raw:=aw) (λ_=>[]) (λ_=>⟨_,rfl⟩) λl hp=>az (q:=l.length<=1000000/\(!ig l (λv=>(!bS v 2000)))=near l) (by kernel_rfl) (by change l.length<=1000000 at hp;refine⟨hp,?_⟩;unfold near;grind)
noncomputable def Ns:Tab:=aq [(217,Pv)] NV
def Ka:Ns.Ok aH:=au J8 ⟨aBo,trivial⟩
def tP(r:bF)(i:Nat):Prop:=¬ba (prv r i) (aB0 r i) (nxt r i)=0
def eQ(r:bF)(i k:Nat):Bool:=(decide (¬(k:Int)=i+1)&&(decide (¬(i:Int)=0)||decide (¬(k:Int)=r.length-1)))&&decide (¬dM (cu r i) (cu r k)=0)
def up2{p:Nat->Nat->Prop}{i k n:Nat}(h:∀j,i<j->j<k->p i j)(hk:¬(k:Int)<n):∀j,i<j->j<n->p i j:=λj h1 h2=>h j h1 (by omega)
def DR(r:bF):dA r=true↔3<=r.length/\r.length<=40/\near r=true/\0<gH r/\(∀i,i<r.length->tP r i)/\(∀i k,i<k->k<r.length->eQ r i k=false):=by unfold dA tP eQ;simp only[cB,decide_eq_true_eq,dY,dZ,jS,bne_iff_ne,beq_iff_eq,Bool.and_eq_false_imp,decide_eq_false_iff_not,ne_eq,and_assoc,Decidable.not_not];grind
noncomputable def c83:Con:=con (a1 (aL .V)) (λr=>[r.length<=1000]) (λr=> .bool (dA r))
def k83:c83.Ok aH 160:=bA (a7 Ka) (raw:=aw) (λr=>[jP 4 [3<=r.length,r.length<=40,near r=true,0<gH r],cnt 5 29 r.length (ao (tP r)),lp 12 47 r.length (λi=>[ao (λi=>∀k,i<k->k<r.length->eQ r i k=false) i]) [] (λ_=>[]) (λ_=>[]) λi=>[(15,.mk Nat (λF _=>nG F 8) [] (λk=>[i<k,k<=r.length,∀j,i<j->j<k->eQ r i j=false]) (λk=>[(8,.int .i64 (k:Int))]) (λ_=>[]) (λk=>r.length-k) λk=>[jb 18 82 (eQ r i k)])]]
  ) (λ_=>⟨_,rfl⟩) λr hp=>az (q:=(((r.length:Int)<3->false=dA r)/\
  (¬(r.length:Int)<3->(40<(r.length:Int)->false=dA r)/\
   (¬40<(r.length:Int)->r.length<=1000000/\((!near r)=true->false=dA r)/\
    ((!near r)=false->near r=true/\r.length<=100000/\(gH r<=0->false=dA r)/\
     (¬gH r<=0->(3:Nat)<=r.length/\r.length<=40/\near r=true/\0<gH r)))))/\
 (∀y:Unit,(3:Nat)<=r.length/\r.length<=40/\near r=true/\0<gH r->(0=(0:Int)/\(0:Nat)<=r.length/\ao (tP r) 0)/\
  (∀x:Nat,x<=r.length/\ao (tP r) x->((x:Int)<r.length->ix (x:Int) r.length/\x<r.length/\r.length<=1000000/\x<r.length/\r.length<=1000000/\bd 1000000000 (prv r x)/\bd 1000000000 (aB0 r x)/\bd 1000000000 (nxt r x)/\(ba (prv r x) (aB0 r x) (nxt r x)=0->false=dA r)/\
    (¬ba (prv r x) (aB0 r x) (nxt r x)=0->aG ((x:Int)+1)/\(x:Int)+1=((x+1:Nat):Int)/\x+1<=r.length/\ao (tP r) (x+1)/\r.length-(x+1)<r.length-x))/\
   (¬(x:Int)<r.length->r.length<=1000/\(0=(0:Int)/\(0:Nat)<=r.length/\ao (λi=>∀k:Nat,i<k->k<r.length->eQ r i k=false) 0)/\
    (∀x_1:Nat,x_1<=r.length/\ao (λi=>∀k:Nat,i<k->k<r.length->eQ r i k=false) x_1->((x_1:Int)<r.length->aG ((x_1:Int)+1)/\((x_1:Int)+1=((x_1+1:Nat):Int)/\x_1<x_1+1/\x_1+1<=r.length/\(∀j:Nat,x_1<j->j<x_1+1->eQ r x_1 j=false))/\
      (∀x_2:Nat,x_1<x_2/\x_2<=r.length/\(∀j:Nat,x_1<j->j<x_2->eQ r x_1 j=false)->((x_2:Int)<r.length->(aG ((x_1:Int)+1)/\(¬(x_2:Int)=x_1+1->(¬(x_1:Int)=0->ix (x_1:Int) (aQ r).length/\x_1<(aQ r).length/\ix (x_2:Int) (aQ r).length/\x_2<(aQ r).length/\decide (¬dM (aO (aQ r) x_1) (aO (aQ r) x_2)=0)=eQ r x_1 x_2)/\
          (¬(¬(x_1:Int)=0)->aG ((r.length:Int)-1)/\(¬(x_2:Int)=r.length-1->ix (x_1:Int) (aQ r).length/\x_1<(aQ r).length/\ix (x_2:Int) (aQ r).length/\x_2<(aQ r).length/\decide (¬dM (aO (aQ r) x_1) (aO (aQ r) x_2)=0)=eQ r x_1 x_2)/\
           (¬(¬(x_2:Int)=r.length-1)->false=eQ r x_1 x_2)))/\
         (¬(¬(x_2:Int)=x_1+1)->false=eQ r x_1 x_2))/\
        (∀y_1:Unit,(eQ r x_1 x_2=true->false=dA r)/\
         (eQ r x_1 x_2=false->aG ((x_2:Int)+1)/\(x_2:Int)+1=((x_2+1:Nat):Int)/\x_1<x_2+1/\x_2+1<=r.length/\(∀j:Nat,x_1<j->j<x_2+1->eQ r x_1 j=false)/\r.length-(x_2+1)<r.length-x_2)))/\
       (¬(x_2:Int)<r.length->aG ((x_1:Int)+1)/\(x_1:Int)+1=((x_1+1:Nat):Int)/\x_1+1<=r.length/\ao (λi=>∀k:Nat,i<k->k<r.length->eQ r i k=false) (x_1+1)/\r.length-(x_1+1)<r.length-x_1)))/\
     (¬(x_1:Int)<r.length->true=dA r)))))) (by kernel_rfl) (by
  change r.length<=1000 at hp;have iff:=DR r;have hf:(dA r=true->False)->false=dA r:=λh=>by grind
  have el:3<=r.length->(aQ r).length=r.length:=λh=>rQ r (by omega);have en:near r=true->∀i,i<r.length->bd 1000000000 (aB0 r i):=λh i hi=>mr h hi;have ep:3<=r.length->∀i,i<r.length->aO (aQ r) i=cu r i:=λh i hi=>rV (by omega) hi;have hE:3<=r.length->r.length<=40->near r=true->0<gH r->∀x y:Nat,¬(x:Int)<r.length->¬(y:Int)<r.length->ao (tP r) x->ao (λi=>∀k:Nat,i<k->k<r.length->eQ r i k=false) y->true=dA r:=λh1 h2 h3 h4 x y hx hy h5 h6=>
   (iff.2 ⟨h1,h2,h3,h4,λi hi=>h5 i (by omega),λi k hi hk=>h6 i (by omega) k hi hk⟩).symm
  have b0:∀x y:Nat,¬(¬(y:Int)=x+1)->false=eQ r x y:=λx y h=>by unfold eQ;grind
  have b1:∀x y:Nat,¬(¬(x:Int)=0)->¬(¬(y:Int)=r.length-1)->false=eQ r x y:=λx y h1 h2=>by unfold eQ;grind
  have b2:∀x y:Nat,3<=r.length->¬(y:Int)=x+1->¬(x:Int)=0->(x:Int)<r.length->(y:Int)<r.length->decide (¬dM (aO (aQ r) x) (aO (aQ r) y)=0)=eQ r x y:=λx y h0 h1 h2 h3 h4=>by unfold eQ;grind
  have b3:∀x y:Nat,3<=r.length->¬(y:Int)=x+1->¬(y:Int)=r.length-1->(x:Int)<r.length->(y:Int)<r.length->decide (¬dM (aO (aQ r) x) (aO (aQ r) y)=0)=eQ r x y:=λx y h0 h1 h2 h3 h4=>by unfold eQ;grind
  with_reducible ((repeat' first|apply cl|intro);all_goals repeat cases‹_/\_›)
  all_goals first|assumption|rfl|exact trivial|exact nb ‹_› |exact nb' ‹_› |omega|exact eu (by omega)|(unfold ix;omega)|(unfold aG;omega)|exact eN _|exact cA ‹_› ‹_› |(refine cA ‹_› ?_;simp_all;done)|exact en ‹_› _ (by omega)|exact en ‹_› _ (fJ _ (by omega))|(rw[el ‹_›];exact tG (by omega))|(rw[el ‹_›];omega)|exact b0 _ _ ‹_› |exact b1 _ _ ‹_› ‹_› |exact b2 _ _ ‹_› ‹_› ‹_› ‹_› ‹_› |exact b3 _ _ ‹_› ‹_› ‹_› ‹_› ‹_› |exact hE ‹_› ‹_› ‹_› ‹_› _ _ ‹_› ‹_› ‹_› ‹_› |(refine hf λh=> ?_;have h:=iff.1 h;first|omega|(have h4:=‹(!near r)=true›;rw[h.2.2.1]at h4;cases h4)|(exact absurd ‹ba _ _ _=0› (h.2.2.2.2.1 _ (by omega)))|grind)|exact cA ‹_› (show tP r _ from‹¬ba _ _ _=0›)|(intro j h1 h2;omega)|exact cA ‹_› (up2 (p:=λi k=>eQ r i k=false) ‹_› ‹_›)|grind)
noncomputable def t83:Tab:=aq [(160,c83)] Ns
def Md:t83.Ok aH:=au Ka ⟨k83,trivial⟩
def Vl(n:Nat)(w:World)(h0:0<n)(hn:n<=100000):
  Calls aH 254 #[.slice none 0 0,.int .i64 n] w λe w'=>∃v,e= .returned v/\w'.ownsRow w.heap.size 53 2 v 0 []/\Below w.heap.size w w':=by
 have hinf:(aH.info? 53).map (λi=>(i.zero,i.size,i.bytes))=some (some (.agg #[.int .i64 0,.int .i64 0]),2,16):=by kernel_rfl
 obtain⟨i,hi1,hi2⟩:=Option.map_eq_some_iff.1 hinf;simp only[Prod.mk.injEq]at hi2;obtain⟨i1,i2,i3⟩:=hi2;have hold:(Builtin.firstCells i.size 0 (.slice none 0 0)).run aH w.drew= .ok ([] :List Value).toArray w.drew:=run_firstCells_none w.drew i.size 0 0 0;have hrz:∀ty,(Builtin.append_ #[64,3] ty #[.slice none 0 0,.int .i64 n]).run aH w= .ok (.slice (some ⟨w.heap.size,0,none⟩) n (grownCap w n 0 53))
   (w.drew.alloc (.cells (#[] ++Builtin.zeroCells #[.int .i64 0,.int .i64 0] n++Builtin.zeroCells #[.int .i64 0,.int .i64 0] (grownCap w n 0 53-n)) 53)):=λty=>by
  have h:=Lib.run_append_grow_zeros w 64 3 ty 53 i (.agg #[.int .i64 0,.int .i64 0]) .i64 .i64 Tryz.underlying64 rG hi1 i1 none 0 0 [] hold n h0 (by omega) (by omega) (by omega) (by grind)
   (by unfold Builtin.nextslicecap;grind)
  rw[gR]at h;exact h
 have hGn:n<=grownCap w n 0 53:=grownCap_ge w _ _ _;have hGm:=grownCap_le_maxLen w n 0 53 (by unfold maxLen;omega);obtain⟨G,hG⟩:∃G,G=grownCap w n 0 53:=⟨_,rfl⟩;rw[<-hG]at hrz hGn hGm;have hG63:G<=9223372036854775807:=by unfold maxLen at hGm;omega
 have hzc:∀m,(Builtin.zeroCells #[.int .i64 0,.int .i64 0] m).size=m*2:=by intro m;unfold Builtin.zeroCells;simp
 obtain⟨cur,hcur⟩:∃cur,cur=(#[] ++Builtin.zeroCells #[.int .i64 0,.int .i64 0] n++Builtin.zeroCells #[.int .i64 0,.int .i64 0] (G-n):Array Value):=⟨_,rfl⟩;have hcs:cur.size=G*2:=by rw[hcur];simp[hzc];omega
 rw[<-hcur]at hrz;have hrow:(w.drew.alloc (.cells cur 53)).ownsRow w.heap.size 53 2 (.slice (some ⟨w.heap.size,0,none⟩) 0 G) 0 [] :=
  ⟨by simp,.inr ⟨w.heap.size,G,cur,rfl,bD _,Blk.new w.drew 53 cur,by omega,hGm,hcs,by simp⟩⟩
 have hbl:Below w.heap.size w (w.drew.alloc (.cells cur 53)):=((Below.refl _ _).drew).alloc (bD _) _;clear hold hinf hi1 i1 i2 i3 hcur hcs hzc hG hGm
 go_enter Tryz.func254,Tryz.ntmps254
 go_wp2_with (at_builtin;refine Lib.wpList_append_run _ rfl _ _ _ _ rfl _ _ rfl rfl _ _ (hrz _) ?_)
 all_goals
  go_ret
  exact⟨_,rfl,hrow,hbl⟩
def TT{n:Nat}(h0:0<n)(hn:n<=100000):CT aH 254 [.int .i64 n] 53 2 [] 0 [] :=by
 refine⟨by kernel_rfl,by decide,λC w vs hC h=> ?_⟩;unfold bL at h;obtain⟨v,r,rfl,h1,h2⟩:=h;unfold a8 at h1;unfold bL at h2;subst h1 h2;refine(Vl n w h0 hn).mono ?_;rintro e w' ⟨v,rfl,⟨_,h3⟩,hb⟩;rcases h3 with⟨rfl,_⟩|⟨g,cap,cur,rfl,h4,h5,_,h6,h7,_⟩
 .exact⟨_,[],none,0,rfl,hb,by unfold bL;rfl,.inl ⟨rfl,rfl,rfl,rfl,rfl⟩⟩
 .exact⟨_,[],some g,cap,rfl,hb,by unfold bL;rfl,.inr ⟨g,cur,rfl,rfl,ce _,h4,h5,h7,ce _,h6,λi x hi=>by simp at hi⟩⟩
def CL:List SV->Option Nat
 |[.nil,.int .i64 (.ofNat n)] =>some n
 |_=>none
def UH{s:List SV}{n:Nat}(h:CL s=some n):s=[.nil,.int .i64 (n:Int)] :=by
 unfold CL at h;split at h
 .cases h;rfl
 .cases h
def PR:Con:=⟨Nat,CL,λn=>[0<n,n<=100000],.ownN 53 .V (λ_=>[])⟩
def aAX:PR.Ok aH 254:=by intro s n hd hp;rw[UH hd];exact⟨[.int .i64 ((show Nat from n:Nat):Int)],rfl,TT (hp _ eC) (hp _ (dR _ eC))⟩
def aPt:Ar Pt where
 enc p:= .pro [.int .i64 p.x,.int .i64 p.y,.int .i64 p.den] 0
 dec s:=match s with
  | .pro [.int .i64 x,.int .i64 y,.int .i64 z] 0=>some ⟨x,y,z⟩
  |_=>none
 ok s a h:=by grind
 pl _:=⟨_,rfl⟩
def jPU(key:Nat)(I:List Prop)(u:Frm):Nat×Ann:=(key+10000,.mk Unit (λ_ _=>some ()) [] (λ_=>I) (λ_=>u) (λ_=>[]) (λ_=>0) (λ_=>[]))
def tq(p:Pt)(l:List S):Bool:=l.foldl (λb s=>b !=gw s p) false
def Tg{p:Pt}{l:List S}{k:Nat}(h:k<l.length):tq p (l.take (k+1))=(tq p (l.take k) !=gw (aO l k) p):=by unfold tq;rw[pO,c8 h,Cs,mq h];rfl
def E9{p:Pt}:∀{l:List S} {k:Nat} (ins:Bool),k<l.length->(∀j,j<k->aB7 (aO l j) p=false)->aB7 (aO l k) p=true->f0 p l ins=1
 |[],k,ins,h,_,_=>by simp at h
 |s::l,0,ins,h,_,h2=>by
  unfold f0;rw[show aB7 s p=true from h2];rfl
 |s::l,k+1,ins,h,h1,h2=>by
  unfold f0;rw[show aB7 s p=false from h1 0 (by omega)];exact E9 (l:=l) (k:=k) _ (by simpa using h) (λj hj=>h1 (j+1) (by omega)) h2
def EN{p:Pt}:∀{l:List S} (ins:Bool),(∀j,j<l.length->aB7 (aO l j) p=false)->f0 p l ins=if l.foldl (λb s=>b !=gw s p) ins=true then 2 else 0
 |[],ins,_=>rfl
 |s::l,ins,h1=>by
  unfold f0;rw[show aB7 s p=false from h1 0 (by simp)];exact EN (l:=l) _ (λj hj=>h1 (j+1) (by grind))
def pb(r:bF)(p:Pt)(k:Nat):Bool:=tq p ((aQ r).take k)
def Vu{r:bF}(h:dA r=true){j:Nat}(hj:j<(aQ r).length):bd 2000 (aO (aQ r) j).a/\bd 2000 (aO (aQ r) j).b:=HN (by rw[<-Es];exact h) hj
def cOK(a b:V):Prop:=(-4000000000000000000<=a.x*b.y/\a.x*b.y<=4000000000000000000)/\(-4000000000000000000<=a.y*b.x/\a.y*b.x<=4000000000000000000)
noncomputable def MB:Con:=con (ac aV (a1 aV)) (λ(a,b)=>[cOK a b]) (λ(a,b)=> .int .i64 (cross a b)
 )
def Ze:MB.Ok aH 143:=bA (a7 Md) (raw:=aw) (λ(_,_)=>[]) (λ(_,_)=>⟨_,rfl⟩) λ(a,b) hp=>az (q:=aG (a.x*b.y)/\aG (a.y*b.x)/\aG (a.x*b.y-a.y*b.x)/\a.x*b.y-a.y*b.x=cross a b) (by kernel_rfl) (by change cOK a b at hp;unfold cOK at hp;exact⟨cd (by omega),cd (by omega),cd (by omega),rfl⟩)
noncomputable def K4:Tab:=aq [(143,MB)] t83
def IB:K4.Ok aH:=au Md ⟨Ze,trivial⟩
noncomputable def PZ:Con:=con (ac aV (a1 aPt)) (λ(v,p)=>[PtB p,bd 10000 v]) (λ(v,p)=>aV.enc (toV p v)
 )
def aA4:PZ.Ok aH 276:=bA (a7 IB) (raw:=aw) (λ(_,_)=>[]) (λ(_,_)=>⟨_,rfl⟩) λ(v,p) hp=>az (q:=aG (v.x*p.den)/\aG (p.x-v.x*p.den)/\aG (v.y*p.den)/\aG (p.y-v.y*p.den)/\p.x-v.x*p.den=(toV p v).x/\p.y-v.y*p.den=(toV p v).y) (by kernel_rfl) (by change PtB p/\bd 10000 v at hp;have h:=hp.1.off hp.2;have h2:(-600000000000<=p.x/\p.x<=600000000000)/\(-600000000000<=p.y/\p.y<=600000000000):=hp.1.2;exact⟨cd (by omega),cd (by omega),cd (by omega),cd (by omega),rfl,rfl⟩)
noncomputable def NW:Tab:=aq [(276,PZ)] K4
def KF:NW.Ok aH:=au IB ⟨aA4,trivial⟩
noncomputable def P2:Con:=con (ac (aL .V) (a1 aT)) (λ(r,_)=>[r.length<=1000]) (λ(r,p)=> .int .i64 (gk r p))
def aBv:P2.Ok aH 253:=bA (a7 KF) (raw:=aw) (λ(r,p)=>[jP 3 [dA r=true,c9 p=true],lp 6 25 (aQ r).length (λk=>[ao (λj=>aB7 (nE r j) p=false) k]) [] (λk=>[(6,.bool (pb r p k))]) (λ_=>[]) λk=>[jb 11 77 (aB7 (nE r k) p),jb 14 91 (gw (nE r k) p),jPU 15 [aB7 (nE r k) p=false] [(6,.bool (pb r p (k+1)))]]]
  ) (λ(_,_)=>⟨_,rfl⟩) λ(r,p) hp=>az (q:=(r.length<=1000/\((!dA r)=true->0=gk r p)/\
  ((!dA r)=false->((!c9 p)=true->0=gk r p)/\
   ((!c9 p)=false->dA r=true/\c9 p=true)))/\
 (∀y:Unit,dA r=true/\c9 p=true->r.length<=1000/\(0=(0:Int)/\false=pb r p 0/\(0:Nat)<=(aQ r).length/\ao (λj=>aB7 (nE r j) p=false) 0)/\
  (∀x:Nat,x<=(aQ r).length/\ao (λj=>aB7 (nE r j) p=false) x->((x:Int)<(aQ r).length->(ix (x:Int) (aQ r).length/\x<(aQ r).length/\PtB p/\bd 10000 (nE r x).a/\PtB p/\bd 10000 (nE r x).b/\bd 1000000000 (nE r x).b/\bd 1000000000 (nE r x).a/\cOK (aB3 (nE r x).b (nE r x).a) (toV p (nE r x).a)/\((cross (aB3 (nE r x).b (nE r x).a) (toV p (nE r x).a)=0->(Min.min (toV p (nE r x).a).x (toV p (nE r x).b).x<=0->(0<=Max.max (toV p (nE r x).a).x (toV p (nE r x).b).x->(Min.min (toV p (nE r x).a).y (toV p (nE r x).b).y<=0->decide (0<=Max.max (toV p (nE r x).a).y (toV p (nE r x).b).y)=aB7 (nE r x) p)/\
         (¬Min.min (toV p (nE r x).a).y (toV p (nE r x).b).y<=0->false=aB7 (nE r x) p))/\
        (¬0<=Max.max (toV p (nE r x).a).x (toV p (nE r x).b).x->false=aB7 (nE r x) p))/\
       (¬Min.min (toV p (nE r x).a).x (toV p (nE r x).b).x<=0->false=aB7 (nE r x) p))/\
      (¬cross (aB3 (nE r x).b (nE r x).a) (toV p (nE r x).a)=0->false=aB7 (nE r x) p))/\
     (∀y_1:Unit,(aB7 (nE r x) p=true->1=gk r p)/\
      (aB7 (nE r x) p=false->(((decide (0<=(toV p (nE r x).a).y) !=decide (0<=(toV p (nE r x).b).y))=true->(decide (0<=(toV p (nE r x).a).y)==decide (0<cross (aB3 (nE r x).b (nE r x).a) (toV p (nE r x).a)))=gw (nE r x) p)/\
        ((decide (0<=(toV p (nE r x).a).y) !=decide (0<=(toV p (nE r x).b).y))=false->false=gw (nE r x) p))/\
       (∀y_2:Unit,(gw (nE r x) p=true->(!pb r p x)=pb r p (x+1)/\aB7 (nE r x) p=false)/\
        (gw (nE r x) p=false->pb r p x=pb r p (x+1)/\aB7 (nE r x) p=false)))))/\
    (∀y_1:Unit,aB7 (nE r x) p=false->aG ((x:Int)+1)/\(x:Int)+1=((x+1:Nat):Int)/\pb r p (x+1)=pb r p (x+1)/\x+1<=(aQ r).length/\ao (λj=>aB7 (nE r j) p=false) (x+1)/\(aQ r).length-(x+1)<(aQ r).length-x))/\
   (¬(x:Int)<(aQ r).length->(pb r p x=true->2=gk r p)/\
    (pb r p x=false->0=gk r p))))) (by kernel_rfl) (by
  change r.length<=1000 at hp;have e0:pb r p 0=false:=rfl;have es:∀k:Nat,(k:Int)<(aQ r).length->pb r p (k+1)=(pb r p k !=gw (nE r k) p):=λk h=>Tg (by omega);have hw0:dA r=false\/c9 p=false->0=gk r p:=λh=>by unfold gk;grind
  have hw:dA r=true->c9 p=true->gk r p=f0 p (aQ r) false:=λh1 h2=>by unfold gk;simp[h1,h2]
  have eb:dA r=true->∀j:Nat,(j:Int)<(aQ r).length->bd 2000 (aO (aQ r) j).a/\bd 2000 (aO (aQ r) j).b:=λh j hj=>Vu h (by omega);have el:(aQ r).length<=1000:=by unfold aQ;split<;>simp<;>omega
  have s1:∀j:Nat,(j:Int)<(aQ r).length->ao (λj=>aB7 (nE r j) p=false) j->aB7 (nE r j) p=true->f0 p (aQ r) false=1:=λj h1 h2 h3=>E9 false (by omega) h2 h3;have s2:∀k:Nat,¬(k:Int)<(aQ r).length->k<=(aQ r).length->ao (λj=>aB7 (nE r j) p=false) k->f0 p (aQ r) false=if pb r p k=true then 2 else 0:=λk h1 h2 h=>by
   obtain rfl:k=(aQ r).length:=by omega
   rw[EN false h];unfold pb tq;grind
  have gV:dA r=true->c9 p=true->∀j:Nat,(j:Int)<(aQ r).length->cOK (aB3 (aO (aQ r) j).b (aO (aQ r) j).a) (toV p (aO (aQ r) j).a):=λh1 h2 j hj=>by
   have b1:=je (eb h1 j hj).2 (eb h1 j hj).1;have hB:=PtB.of h2;have b2:=hB.off (eb h1 j hj).1.mono;have h2:(-600000000000<=p.x/\p.x<=600000000000)/\(-600000000000<=p.y/\p.y<=600000000000):=hB.2;have b3:bd 2000000000000 (toV p (aO (aQ r) j).a):=by unfold bd toV;dsimp only;omega
   exact⟨by have:=iD b1.1 b3.2;omega,by have:=iD b1.2 b3.1;omega⟩
  have oN:∀j:Nat,(¬fR (nE r j) p=0\/¬Min.min (toV p (nE r j).a).x (toV p (nE r j).b).x<=0\/¬0<=Max.max (toV p (nE r j).a).x (toV p (nE r j).b).x\/¬Min.min (toV p (nE r j).a).y (toV p (nE r j).b).y<=0)->false=aB7 (nE r j) p:=λj h=>by symm;unfold aB7;grind
  have oY:∀j:Nat,fR (nE r j) p=0->Min.min (toV p (nE r j).a).x (toV p (nE r j).b).x<=0->0<=Max.max (toV p (nE r j).a).x (toV p (nE r j).b).x->Min.min (toV p (nE r j).a).y (toV p (nE r j).b).y<=0->decide (0<=Max.max (toV p (nE r j).a).y (toV p (nE r j).b).y)=aB7 (nE r j) p:=λj h1 h2 h3 h4=>by unfold aB7;grind
  have hN:∀j:Nat,(decide (0<=(toV p (nE r j).a).y) !=decide (0<=(toV p (nE r j).b).y))=false->false=gw (nE r j) p:=λj h=>by unfold gw;rw[h];rfl
  have hY:∀j:Nat,(decide (0<=(toV p (nE r j).a).y) !=decide (0<=(toV p (nE r j).b).y))=true->(decide (0<=(toV p (nE r j).a).y)==decide (0<fR (nE r j) p))=gw (nE r j) p:=λj h=>by unfold gw;rw[h];rfl
  with_reducible ((repeat' first|apply cl|intro);all_goals repeat cases‹_/\_›)
  all_goals first|rfl|with_reducible solve_by_elim|exact PtB.of ‹_› |exact(eb ‹_› _ ‹_›).1.mono|exact(eb ‹_› _ ‹_›).2.mono|exact gV ‹_› ‹_› _ ‹_› |exact oN _ (.inl ‹_›)|exact oN _ (.inr (.inl ‹_›))|exact oN _ (.inr (.inr (.inl ‹_›)))|exact oN _ (.inr (.inr (.inr ‹_›)))|exact hw0 (.inl (nb' ‹_›))|exact hw0 (.inr (nb' ‹_›))|(rw[hw ‹_› ‹_›,s1 _ ‹_› ‹_› ‹_›];done)|(rw[hw ‹_› ‹_›,s2 _ ‹_› ‹_› ‹_›,‹pb _ _ _=_›];rfl)|(rw[es _ ‹_›,‹gw _ _=_›];simp;done)|grind)
noncomputable def N6:Tab:=aq [(253,P2)] NW
def Kh:N6.Ok aH:=au KF ⟨aBv,trivial⟩
noncomputable def c65:Con:=con (ac (aL .V) (a1 aV)) (λ(r,_)=>[r.length<=1000]) (λ(r,v)=> .int .i64 (eH r v)
 )
def k65:c65.Ok aH 225:=bA (a7 Kh) (raw:=aw) (λ(_,_)=>[]) (λ(_,_)=>⟨_,rfl⟩) λ(r,v) hp=>az (q:=(0:Int)<=4000/\(4000:Int)<=9000000000000000000/\((!bS v 4000)=true->0=eH r v)/\
 ((!bS v 4000)=false->r.length<=1000/\gk r (bQ v)=eH r v)) (by kernel_rfl) (by change r.length<=1000 at hp;have e:eH r v=if(!bS v 4000)=true then 0 else gk r (bQ v):=rfl;grind)
noncomputable def t65:Tab:=aq [(225,c65)] N6
def aAe:t65.Ok aH:=au Kh ⟨k65,trivial⟩
noncomputable def t89:Tab:=t65
def Z7:t89.Ok aH:=aAe
noncomputable def NP:Tab:=aq [(254,PR)] t89
def J1:NP.Ok aH:=au Z7 ⟨aAX,trivial⟩
noncomputable def Pc:Con:=con (a1 (aL .R)) (λl=>[l.length<=1000,0<l.flatten.length,l.flatten.length<=1000]) (λl=> .lst .V l.flatten)
def aA7:Pc.Ok aH 228:=bA (a7 J1) (raw:=λr i=>af r 1&&af i 0) (λl=>[lp 3 11 l.length (λ_=>[]) [] (λk=>[(3,.int .i64 (((l.take k).flatten.length:Nat):Int))]) (λ_=>[]),lp 11 27 l.length (λ_=>[]) [7] (λk=>[(6,.own 7 .V ((l.take k).flatten.length))]) (λk=>[(7,.row 53 .V ((l.take k).flatten))])]
  ) (λ_=>⟨_,rfl⟩) λl hp=>az (q:=(0=(0:Int)/\0=((eZ (bM 0 l)).length:Int)/\(0:Nat)<=l.length)/\
 (∀x:Nat,x<=l.length->((x:Int)<l.length->ix (x:Int) l.length/\aG (((eZ (bM x l)).length:Int)+(aa l x).length)/\(((eZ (bM x l)).length:Int)+(aa l x).length<0->False)/\
   (¬((eZ (bM x l)).length:Int)+(aa l x).length<0->aG ((x:Int)+1)/\(x:Int)+1=((x+1:Nat):Int)/\((eZ (bM x l)).length:Int)+(aa l x).length=(eZ (bM (x+1) l)).length/\x+1<=l.length/\l.length-(x+1)<l.length-x))/\
  (¬(x:Int)<l.length->(0:Nat)<(eZ (bM x l)).length/\(eZ (bM x l)).length<=100000/\(0=(0:Int)/\([] :List V).length=(eZ (bM 0 l)).length/\([] :List V)=eZ (bM 0 l)/\(0:Nat)<=l.length)/\
   (∀x_1:Nat,x_1<=l.length->((x_1:Int)<l.length->ix (x_1:Int) l.length/\(eZ (bM x_1 l)).length=(eZ (bM x_1 l)).length/\(eZ (bM x_1 l)).length+(aa l x_1).length<=1000000/\aG ((x_1:Int)+1)/\(x_1:Int)+1=((x_1+1:Nat):Int)/\(eZ (bM x_1 l)++aa l x_1).length=(eZ (bM (x_1+1) l)).length/\eZ (bM x_1 l)++aa l x_1=eZ (bM (x_1+1) l)/\x_1+1<=l.length/\l.length-(x_1+1)<l.length-x_1)/\
    (¬(x_1:Int)<l.length->(eZ (bM x_1 l)).length=(eZ (bM x_1 l)).length/\eZ (bM x_1 l)=eZ l))))) (by kernel_rfl) (by
  change l.length<=1000/\0<l.flatten.length/\l.flatten.length<=1000 at hp;have e1:∀x:Nat,(x:Int)<l.length->(l.take (x+1)).flatten=(l.take x).flatten++aa l x:=λx h=>by rw[List.take_succ_eq_append_getElem (by omega),np,List.flatten_singleton,sR (by omega)]
  have e2:∀x:Nat,(l.take x).flatten.length<=l.flatten.length:=λx=>by
   conv=>rhs;rw[<-List.take_append_drop x l,np,dj]
   omega
  have e3:∀x:Nat,¬(x:Int)<l.length->bM x l=l:=λx h=>ib (by omega);have e4:∀x:Nat,(x:Int)<l.length->(l.take x).flatten.length+(aa l x).length<=l.flatten.length:=λx h=>by grind
  have e5:∀x:Nat,(x:Int)<l.length->((eZ (bM x l)).length:Int)+(aa l x).length=(eZ (bM (x+1) l)).length:=λx h=>by grind
  have e6:∀x:Nat,(x:Int)<l.length->aG (((eZ (bM x l)).length:Int)+(aa l x).length):=λx h=>cd (by grind)
  repeat' first|with_reducible apply cl|with_reducible intro
  all_goals repeat with_reducible cases‹_/\_›
  all_goals grind)
noncomputable def NZ:Tab:=aq [(228,Pc)] NP
def KI:NZ.Ok aH:=au J1 ⟨aA7,trivial⟩
def AN(a b:V):dL a b<0↔bV a b=true:=by unfold dL bV aB6;grind
def Tz(a:V):bV a a=false:=by unfold bV;grind
noncomputable def Pe:Con:=con (ac (aL .V) (a1 (aF 166))) (λ(r,_)=>[0<r.length,r.length<=1000]) (λ(r,_)=>aV.enc (aB0 r (fE r)))
def aA9:Pe.Ok aH 226:=bA (a7 KI) (raw:=aw) (λ(r,_)=>[(5,.mk Nat (λF _=>nG F 6) [] (λk=>[0<k,k<=r.length]) (λk=>[(6,.int .i64 (k:Int))]) (λk=>[(7,.box 53 [.int .i64 (aB0 r (bo r k)).x,.int .i64 (aB0 r (bo r k)).y])]) (λk=>r.length-k) (λ_=>[]))]
  ) (λ(_,_)=>⟨_,rfl⟩) λ(r,u) hp=>az (q:=((r.length:Int)<1->False)/\
 (¬(r.length:Int)<1->ix 0 r.length/\(1=(1:Int)/\(aB0 r 0).x=(aB0 r (bo r 1)).x/\(aB0 r 0).y=(aB0 r (bo r 1)).y/\(0:Nat)<1/\(1:Nat)<=r.length)/\
  (∀x:Nat,(0:Nat)<x/\x<=r.length->((x:Int)<r.length->ix (x:Int) r.length/\(dL (aB0 r x) (aB0 r (bo r x))<0->ix (x:Int) r.length/\aG ((x:Int)+1)/\(x:Int)+1=((x+1:Nat):Int)/\(aB0 r x).x=(aB0 r (bo r (x+1))).x/\(aB0 r x).y=(aB0 r (bo r (x+1))).y/\(0:Nat)<x+1/\x+1<=r.length/\r.length-(x+1)<r.length-x)/\
    (¬dL (aB0 r x) (aB0 r (bo r x))<0->aG ((x:Int)+1)/\(x:Int)+1=((x+1:Nat):Int)/\(aB0 r (bo r x)).x=(aB0 r (bo r (x+1))).x/\(aB0 r (bo r x)).y=(aB0 r (bo r (x+1))).y/\(0:Nat)<x+1/\x+1<=r.length/\r.length-(x+1)<r.length-x))/\
   (¬(x:Int)<r.length->(aB0 r (bo r x)).x=(aB0 r (fE r)).x/\(aB0 r (bo r x)).y=(aB0 r (fE r)).y)))) (by kernel_rfl) (by
  change 0<r.length/\r.length<=1000 at hp;have e0:bo r 1=0:=by unfold bo bo;split<;>rfl
  have e1:∀x:Nat,dL (aB0 r x) (aB0 r (bo r x))<0->bo r (x+1)=x:=λx h=>if_pos ((AN _ _).1 h);have e2:∀x:Nat,¬dL (aB0 r x) (aB0 r (bo r x))<0->bo r (x+1)=bo r x:=λx h=>if_neg λh2=>h ((AN _ _).2 h2);have e3:∀x:Nat,¬(x:Int)<r.length->x<=r.length->bo r x=fE r:=λx h1 h2=>by rw[show x=r.length by omega];rfl
  with_reducible ((repeat' first|apply cl|intro);all_goals repeat cases‹_/\_›)
  all_goals grind)
noncomputable def Nb:Tab:=aq [(226,Pe)] NZ
def KK:Nb.Ok aH:=au KI ⟨aA9,trivial⟩
noncomputable def Pf:Con:=con (ac (aL .V) (a1 aV)) (λ(r,_)=>[r.length<=1000]) (λ(r,v)=> .int .i64 (fI (λx=>decide (v=x)) r))
def aBa:Pf.Ok aH 227:=bA (a7 KK) (raw:=aw) (λ(r,v)=>[cnt 2 8 r.length (ao λj=>decide (v=aB0 r j)=false)]
  ) (λ(_,_)=>⟨_,rfl⟩) λ(r,v) hp=>az (q:=(0=(0:Int)/\(0:Nat)<=r.length/\ao (λj=>decide (v=aB0 r j)=false) 0)/\
 (∀x:Nat,x<=r.length/\ao (λj=>decide (v=aB0 r j)=false) x->((x:Int)<r.length->ix (x:Int) r.length/\(v=(aB0 r x)->(x:Int)=fI (λx=>decide (v=x)) r)/\
   (¬v=(aB0 r x)->aG ((x:Int)+1)/\(x:Int)+1=((x+1:Nat):Int)/\x+1<=r.length/\ao (λj=>decide (v=aB0 r j)=false) (x+1)/\r.length-(x+1)<r.length-x))/\
  (¬(x:Int)<r.length-> -1=fI (λx=>decide (v=x)) r))) (by kernel_rfl) (by
  change r.length<=1000 at hp
  with_reducible ((repeat' first|apply cl|intro);all_goals repeat cases‹_/\_›)
  all_goals first|rfl|exact kJ (t:= .V) (by omega) (decide_eq_true ‹_›) ‹_› |(obtain rfl:_=r.length:=nl ‹_› (by omega);exact kj (t:= .V) ‹_›)|grind)
noncomputable def Nd:Tab:=aq [(227,Pf)] Nb
def KL:Nd.Ok aH:=au KK ⟨aBa,trivial⟩
noncomputable def QB:Con:=con (a1 (aL .V)) (λr=>[r.length<=1000]) (λr=> .lst .V (nA r)
 )
def Oe:QB.Ok aH 163:=bA (a7 KL) (raw:=aw) (λ_=>[]) (λ_=>⟨_,rfl⟩) λr hp=>az (q:=r.length<=1000/\((!dA r)=true->nA r=([] :List V))/\
 ((!dA r)=false->(0:Nat)<r.length/\r.length<=1000/\r.length<=1000/\(0<=fI (λx=>decide ((aB0 r (fE r))=x)) r/\fI (λx=>decide ((aB0 r (fE r))=x)) r<=r.length)/\(0<=fI (λx=>decide ((aB0 r (fE r))=x)) r/\fI (λx=>decide ((aB0 r (fE r))=x)) r<=r.length)/\[cP (fI (λx=>decide ((aB0 r (fE r))=x)) r).toNat r,bM (fI (λx=>decide ((aB0 r (fE r))=x)) r).toNat r].length<=1000/\(0:Nat)<(eZ [cP (fI (λx=>decide ((aB0 r (fE r))=x)) r).toNat r,bM (fI (λx=>decide ((aB0 r (fE r))=x)) r).toNat r]).length/\(eZ [cP (fI (λx=>decide ((aB0 r (fE r))=x)) r).toNat r,bM (fI (λx=>decide ((aB0 r (fE r))=x)) r).toNat r]).length<=1000/\eZ [cP (fI (λx=>decide ((aB0 r (fE r))=x)) r).toNat r,bM (fI (λx=>decide ((aB0 r (fE r))=x)) r).toNat r] =nA r)) (by kernel_rfl) (by
  change r.length<=1000 at hp;have h0:(!dA r)=false->0<r.length:=λh=>by have:=((DR r).1 (nb h)).1;omega
  have hf:0<r.length->fI (λx=>decide (aB0 r (fE r)=x)) r=(fE r:Int):=λh=>by
   have hl:=D3 h;symm;exact kJ (t:= .V) hl (decide_eq_true rfl) λj hj=>decide_eq_false λe=>by have:=RS r r.length j hj;rw[show bo r r.length=fE r from rfl,e]at this;exact absurd ((Tz (aB0 r j)).symm.trans this) (by decide)
  refine⟨hp,λh=>by unfold nA;grind,λh=> ?_⟩;have h1:=h0 h;have hl:=D3 h1;rw[hf h1];have hc:[cP ((fE r:Nat):Int).toNat r,bM ((fE r:Nat):Int).toNat r].flatten=nA r:=by unfold nA;rw[nb h];simp[dN]
  grind)
noncomputable def OE:Tab:=aq [(163,QB)] Nd
def Ku:OE.Ok aH:=au KL ⟨Oe,trivial⟩
def aPR:Ar bF where
 enc r:= .pro [.lst .V r] 0
 dec s:=match s with
  | .pro [x] 0=>iY .V x
  |_=>none
 ok s a h:=by
  split at h
  .have e:=jE h;show(match bK (avs [_])with|some q=>AV.p (.pro q 0)|none=> .any)=_;rw[avs,avs,e];rfl
  .cases h
 pl _:=⟨_,rfl⟩
def aPi:Ar Int where
 enc n:= .pro [.int .i64 n] 0
 dec s:=match s with
  | .pro [.int .i64 n] 0=>some n
  |_=>none
 ok s a h:=by grind
 pl _:=⟨_,rfl⟩
def aCl(f:Nat){α:Type}(A:Arl α):Ar α where
 enc a:= .fnp f [] (A.enc a)
 dec s:=match s with
  | .fnp g [] b=>(match af g f with|true=>A.dec b|false=>none)
  |_=>none
 ok s a h:=by
  split at h
  .split at h
   .rename_i b e;have:=A.ok _ _ h;simp only[SV.av,this];simp_all
   .cases h
  .cases h
 pl a:=by obtain⟨q,h⟩:=A.pl a;exact⟨.fn (.func f) [] q,by simp only[SV.av,h,avs,cQ];rfl⟩
def MO:Ar (bF×Int×Unit):=aCl 224 (ac aPR (ac aPi a0))
def JN{t:LT}{l:List t.ty}{q:t.ty->Bool}{j:Nat}(hj:j<l.length)(h:q (t.nth l j)=false):l.all q=false:=
 Cv.2 ⟨_,du hj,by rw[<-t.nth_eq l hj,h];simp⟩
def Hk{t:LT}{l:List t.ty}{q:t.ty->Bool}(h:ao (λj=>q (t.nth l j)=true) l.length):l.all q=true:=
 dY.2 λx hx=>by obtain⟨j,hj,rfl⟩:=iA hx;have:=h j hj;dsimp only at this;rwa[t.nth_eq l hj]at this
noncomputable def Pd:Con:=con (ac aV (ac aPR (a1 aPi))) (λ(_,r,_)=>[r.length<=1000]) (λ(v,r,p)=> .bool (decide (¬eH r v=p))
 )
def aA8:Pd.Ok aH 224:=bA (a7 Ku) (raw:=aw) (λ(_,_,_)=>[]) (λ(_,_,_)=>⟨_,rfl⟩) λ(v,r,p) hp=>az (q:=r.length<=1000/\decide (¬eH r v=p)=decide (¬eH r v=p)) (by kernel_rfl) (by change r.length<=1000 at hp;grind)
noncomputable def Na:Tab:=aq [(224,Pd)] OE
def KJ:Na.Ok aH:=au Ku ⟨aA8,trivial⟩
noncomputable def Po:Con:=con (ac (aL .V) (a1 MO)) (λ(l,c)=>[l.length<=1000000,c.1.length<=1000]) (λ(l,c)=> .int .i64 (fI (λv=>decide (¬eH c.1 v=c.2.1)) l))
def aBi:Po.Ok aH 252:=bA (a7 KJ) (raw:=aw) (λ(l,c)=>[cnt 2 8 l.length (ao λj=>decide (¬eH c.1 (aB0 l j)=c.2.1)=false)]
  ) (λ(_,_)=>⟨_,rfl⟩) λ(l,c) hp=>az (q:=(0=(0:Int)/\(0:Nat)<=l.length/\ao (λj=>decide (¬eH c.1 (aB0 l j)=c.2.1)=false) 0)/\
 (∀x:Nat,x<=l.length/\ao (λj=>decide (¬eH c.1 (aB0 l j)=c.2.1)=false) x->((x:Int)<l.length->ix (x:Int) l.length/\c.1.length<=1000/\(decide (¬eH c.1 (aB0 l x)=c.2.1)=true->(x:Int)=fI (λv=>decide (¬eH c.1 v=c.2.1)) l)/\
   (decide (¬eH c.1 (aB0 l x)=c.2.1)=false->aG ((x:Int)+1)/\(x:Int)+1=((x+1:Nat):Int)/\x+1<=l.length/\ao (λj=>decide (¬eH c.1 (aB0 l j)=c.2.1)=false) (x+1)/\l.length-(x+1)<l.length-x))/\
  (¬(x:Int)<l.length-> -1=fI (λv=>decide (¬eH c.1 v=c.2.1)) l))) (by kernel_rfl) (by
  change l.length<=1000000/\c.1.length<=1000 at hp
  with_reducible ((repeat' first|apply cl|intro);all_goals repeat cases‹_/\_›)
  all_goals first|rfl|exact kJ (t:= .V) (by omega) ‹_› ‹_› |(obtain rfl:_=l.length:=nl ‹_› (by omega);exact kj (t:= .V) ‹_›)|grind)
noncomputable def Nn:Tab:=aq [(252,Po)] Na
def KS:Nn.Ok aH:=au KJ ⟨aBi,trivial⟩
noncomputable def c84:Con:=con (ac (aL .V) (a1 MO)) (λ(l,c)=>[l.length<=1000000,c.1.length<=1000]) (λ(l,c)=> .bool (l.any λv=>decide (¬eH c.1 v=c.2.1))
 )
def k84:c84.Ok aH 223:=bA (a7 KS) (raw:=aw) (λ(_,_)=>[]) (λ(_,_)=>⟨_,rfl⟩) λ(l,c) hp=>az (q:=l.length<=1000000/\c.fst.length<=1000/\decide (0<=fI (λv=>decide (¬eH c.fst v=c.2.1)) l)=ig l (λv=>decide (¬eH c.1 v=c.2.1))) (by kernel_rfl) (by change l.length<=1000000/\c.1.length<=1000 at hp;exact⟨hp.1,hp.2,qI _ _⟩)
noncomputable def t84:Tab:=aq [(223,c84)] Nn
def Mb:t84.Ok aH:=au KS ⟨k84,trivial⟩
noncomputable def CQ:Con:=con (ac (aL .V) (ac (aL .V) (a1 aI))) (λ(r,q,_)=>[r.length<=1000,q.length<=1000]) (λ(r,q,p)=> .bool (aB8 r q p)
 )
def Of:CQ.Ok aH 161:=bA (a7 Mb) (raw:=aw) (λ(_,_,_)=>[]) (λ(_,_,_)=>⟨_,rfl⟩) λ(r,q,p) hp=>az (q:=r.length<=1000000/\q.length<=1000/\(!ig r (λv=>decide (¬eH q v=p)))=aB8 r q p) (by kernel_rfl) (by change r.length<=1000/\q.length<=1000 at hp;refine⟨by omega,hp.2,?_⟩;unfold aB8;grind)
noncomputable def aAm:Tab:=aq [(161,CQ)] t84
def Y7:aAm.Ok aH:=au Mb ⟨Of,trivial⟩
noncomputable def QC:Con:=con (ac (aL .V) (a1 (aL .V))) (λ(a,b)=>[a.length<=1000,b.length<=1000]) (λ(a,b)=> .bool (fz a b))
def aBD:QC.Ok aH 162:=bA (a7 Y7) (raw:=aw) (λ(a,b)=>[cnt 2 12 (aQ a).length (ao λi=>((aQ b).all λy=>dM (aO (aQ a) i) y==0)=true) λi=>[cnt 5 19 (aQ b).length (ao λk=>(dM (aO (aQ a) i) (aO (aQ b) k)==0)=true)]]
  ) (λ(_,_)=>⟨_,rfl⟩) λ(a,b) hp=>az (q:=a.length<=1000/\(0=(0:Int)/\(0:Nat)<=(aQ a).length/\ao (λi=>List.all (aQ b) (λy=>dM (aO (aQ a) i) y==0)=true) 0)/\
 (∀x:Nat,x<=(aQ a).length/\ao (λi=>List.all (aQ b) (λy=>dM (aO (aQ a) i) y==0)=true) x->((x:Int)<(aQ a).length->ix (x:Int) (aQ a).length/\x<(aQ a).length/\b.length<=1000/\(0=(0:Int)/\(0:Nat)<=(aQ b).length/\ao (λk=>(dM (aO (aQ a) x) (aO (aQ b) k)==0)=true) 0)/\
   (∀x_1:Nat,x_1<=(aQ b).length/\ao (λk=>(dM (aO (aQ a) x) (aO (aQ b) k)==0)=true) x_1->((x_1:Int)<(aQ b).length->ix (x_1:Int) (aQ b).length/\x_1<(aQ b).length/\(¬dM (aO (aQ a) x) (aO (aQ b) x_1)=0->false=fz a b)/\
     (¬(¬dM (aO (aQ a) x) (aO (aQ b) x_1)=0)->aG ((x_1:Int)+1)/\(x_1:Int)+1=((x_1+1:Nat):Int)/\x_1+1<=(aQ b).length/\ao (λk=>(dM (aO (aQ a) x) (aO (aQ b) k)==0)=true) (x_1+1)/\(aQ b).length-(x_1+1)<(aQ b).length-x_1))/\
    (¬(x_1:Int)<(aQ b).length->aG ((x:Int)+1)/\(x:Int)+1=((x+1:Nat):Int)/\x+1<=(aQ a).length/\ao (λi=>List.all (aQ b) (λy=>dM (aO (aQ a) i) y==0)=true) (x+1)/\(aQ a).length-(x+1)<(aQ a).length-x)))/\
  (¬(x:Int)<(aQ a).length->true=fz a b))) (by kernel_rfl) (by
  change a.length<=1000/\b.length<=1000 at hp;have el:∀r:bF,r.length<=1000->(aQ r).length<=1000:=λr h=>by unfold aQ;grind
  have ea:=el a hp.1;have eb:=el b hp.2;have h1:∀x y:Nat,(x:Int)<(aQ a).length->(y:Int)<(aQ b).length->¬dM (aO (aQ a) x) (aO (aQ b) y)=0->false=fz a b:=λx y hx hy h=>
   (JN (t:= .S) (l:=aQ a) (j:=x) (by omega) (JN (t:= .S) (l:=aQ b) (q:=λy=>dM (aO (aQ a) x) y==0) (j:=y) (by omega) (beq_eq_false_iff_ne.2 h))).symm
  have h2:∀x:Nat,¬(x:Int)<(aQ a).length->x<=(aQ a).length->ao (λi=>((aQ b).all λy=>dM (aO (aQ a) i) y==0)=true) x->true=fz a b:=λx hx hx2 h=>by
   obtain rfl:x=(aQ a).length:=by omega
   exact(Hk (t:= .S) h).symm
  have h3:∀x y:Nat,¬(y:Int)<(aQ b).length->y<=(aQ b).length->ao (λk=>(dM (aO (aQ a) x) (aO (aQ b) k)==0)=true) y->((aQ b).all λz=>dM (aO (aQ a) x) z==0)=true:=λx y hy hy2 h=>by
   obtain rfl:y=(aQ b).length:=by omega
   exact Hk (t:= .S) h
  with_reducible ((repeat' first|apply cl|intro);all_goals repeat cases‹_/\_›)
  all_goals first|rfl|with_reducible solve_by_elim|exact cA ‹_› (h3 _ _ ‹_› ‹_› ‹_›)|exact cA ‹_› (beq_iff_eq.2 (xt ‹¬¬_›))|grind)
def RdV(w:World)(a:Option Addr)(xs:List V):Prop:=
 ∀i,i<xs.length->∃b off,a=some ⟨b,off,none⟩/\b<w.heap.size/\w.cell? ⟨b,off+i*2,none⟩=some (.int .i64 (aB0 xs i).x)/\w.cell? ⟨b,off+i*2+1,none⟩=some (.int .i64 (aB0 xs i).y)
def RdV.below{w w':World}{a:Option Addr}{xs:List V}(h:RdV w a xs)(hb:Below w.heap.size w w'):RdV w' a xs:=by intro i hi;obtain⟨b,off,ha,hlt,h1,h2⟩:=h i hi;exact⟨b,off,ha,Nat.lt_of_lt_of_le hlt hb.size,(hb.cell (p:=⟨b,_,none⟩) hlt).trans h1,(hb.cell (p:=⟨b,_,none⟩) hlt).trans h2⟩
structure RV where
 a:Option Addr
 c:Nat
 r:bF
instance:Inhabited RV:=⟨⟨none,0,[]⟩⟩
def RV.enc(x:RV):Value:= .slice x.a x.r.length x.c
def Len(x:RV):Prop:=x.r.length<=1000/\x.r.length<=x.c/\(x.a=none->x.c=0)
def o8(w:World):bH:=λb o v=>w.cell? ⟨b,o,none⟩=some v
def rq{w:World}{a:Option Addr}{c:Nat}{r:List V}(h:RdV w a r)(hl:Len ⟨a,c,r⟩):a8 (o8 w) (.sl r.length (gz r)) (.slice a r.length c):=by
 obtain⟨_,h2,h3⟩:=hl;dsimp only at h2 h3;unfold a8;refine⟨a,c,rfl,h2,λha=>⟨h3 ha,?_⟩,?_⟩
 .cases r with
  |nil=>rfl
  |cons v r=>grind
 .rintro ad rfl;refine⟨λh0=> ?_,cc.of _ _ _ λi x hi=> ?_⟩
  .obtain⟨b,off,hb,_⟩:=h 0 h0;cases hb;rfl
  .have hlt:i<(gz r).length:=(List.getElem?_eq_some_iff.1 hi).1;rw[wM.length]at hlt;obtain⟨b,off,hb,_,h0,h1⟩:=h (i/2) (by omega);cases hb;have h4:=XX (v:=r) (i:=i/2) (by omega);have g:∀j,j<2->(gz r)[i/2*2+j]? =([.int .i64 (aB0 r (i/2)).x,.int .i64 (aB0 r (i/2)).y] :List PV)[j]? :=λj hj=>by grind
   rcases Nat.mod_two_eq_zero_or_one i with hm|hm
   .have:=g 0 (by decide);rw[show i/2*2+0=i by omega,hi]at this;cases this;exact⟨_,by show w.cell? _=_;rw[show off+i=off+i/2*2 by omega];exact h0,rfl,by unfold a8;rfl⟩
   .have:=g 1 (by decide);rw[show i/2*2+1=i by omega,hi]at this;cases this;exact⟨_,by show w.cell? _=_;rw[show off+i=off+i/2*2+1 by omega];exact h1,rfl,by unfold a8;rfl⟩
def bL.one{C:bH}{x:PV}{v:Value}(h:a8 C x v):bL C [x] [v] :=by unfold bL;exact⟨_,_,rfl,h,by unfold bL;rfl⟩
def bL.Bm{C:bH}{x:PV}{v:Value}{l:List PV}{vs:List Value}(h:a8 C x v)(h2:bL C l vs):bL C (x::l) (v::vs):=by unfold bL;grind
def zZ{f:FuncId}{xs:List SV}{r:SV}{B:List PV}{q:PV}{vs:List Value}{u:Value}{w:World}(h:∃A q,avs xs=A.map .p/\r.av= .p q/\Sat aH false f A q)(hB:avs xs=B.map .p)(hq:r.av= .p q)
  (hu:∀C v,a8 C q v->v=u) (hr:bL (o8 w) B vs):Calls aH f vs.toArray w λe w'=>e= .returned u/\Below w.heap.size w w':=by
 obtain⟨A,q',h1,h2,h3⟩:=h;rw[hq]at h2;cases h2;rw[hB]at h1;have:B=A:=by have:=congrArg bK h1;rw[cQ,cQ]at this;cases this;rfl
 subst this;refine(h3.2 (o8 w) w vs (λ_ _ _ h=>h) hr).mono ?_;grind
def RQ(a:Option Addr)(c:Nat)(xs:List V)(w:World)(h:RdV w a xs)(hl:Len ⟨a,c,xs⟩):
  Calls aH 160 #[.slice a xs.length c] w λe w'=>e= .returned (.bool (dA xs))/\Below w.heap.size w w':=
 zZ (k83 [.lst .V xs] xs rfl ((fN (l:=c83.pre xs)).1 hl.1)) (B:=[.sl xs.length (gz xs)]) rfl rfl (λC v h=>by unfold a8 at h;exact h) (bL.one (rq h hl))
def oW(a:Option Addr)(c:Nat)(xs:List V)(a':Option Addr)(c':Nat)(ys:List V)(p:Int)(w:World)(h':RdV w a' ys)(hl':Len ⟨a',c',ys⟩)(h:RdV w a xs)(hl:Len ⟨a,c,xs⟩):
  Calls aH 161 #[.slice a xs.length c,.slice a' ys.length c',.int .i64 p] w λe w'=>e= .returned (.bool (aB8 xs ys p))/\Below w.heap.size w w':=
 zZ (Of [.lst .V xs,.lst .V ys,.int .i64 p] (xs,ys,p) rfl ((fN (l:=CQ.pre (xs,ys,p))).1 ⟨hl.1,hl'.1⟩)) (B:=[.sl xs.length (gz xs),.sl ys.length (gz ys),.int .i64 p]) rfl rfl (λC v h=>by unfold a8 at h;exact h)
  ((bL.one (by unfold a8;rfl)).Bm (rq h' hl')|>.Bm (rq h hl))
def vH(a:Option Addr)(c:Nat)(xs:List V)(a':Option Addr)(c':Nat)(ys:List V)(w:World)(h:RdV w a xs)(h':RdV w a' ys)(hl:Len ⟨a,c,xs⟩)(hl':Len ⟨a',c',ys⟩):
  Calls aH 162 #[.slice a xs.length c,.slice a' ys.length c'] w λe w'=>e= .returned (.bool (fz xs ys))/\Below w.heap.size w w':=
 zZ (aBD [.lst .V xs,.lst .V ys] (xs,ys) rfl ((fN (l:=QC.pre (xs,ys))).1 ⟨hl.1,hl'.1⟩)) (B:=[.sl xs.length (gz xs),.sl ys.length (gz ys)]) rfl rfl (λC v h=>by unfold a8 at h;exact h)
  ((bL.one (rq h' hl')).Bm (rq h hl))
section
open Go.ChangeShapes Go.WideShapes Go.ChangeAt Go.RowKit Go.Joins Go.Deep
def Tryz.own:ownKnob aH.godebug=none:=by kernel_rfl
def Tryz.laidOut:laidOutB aH=true:=by kernel_rfl
def Xj:aH.cellsOf 57=4:=by kernel_rfl
def Xk:aH.cellsOf 53=2:=by kernel_rfl
def Yk:aH.cellsOf 3=1:=by kernel_rfl
def sgP(l:List S):PV:= .sl l.length (LT.S.enc l)
def Gb{C:bH}:∀(l:List S) (b o:Nat),(∀i (h:i<l.length),C b (o+i*4) (.int .i64 l[i].a.x)/\C b (o+i*4+1) (.int .i64 l[i].a.y)/\C b (o+i*4+2) (.int .i64 l[i].b.x)/\C b (o+i*4+3) (.int .i64 l[i].b.y))->cc C (LT.S.enc l) b o
 |[],b,o,_=>by trivial
 |s::l,b,o,h=>by
  have h0:=h 0 (by simp);refine⟨⟨_,by simpa using h0.1,rfl,by rfl⟩,⟨_,by simpa using h0.2.1,rfl,by rfl⟩,⟨_,by simpa using h0.2.2.1,rfl,by rfl⟩,⟨_,by simpa using h0.2.2.2,rfl,by rfl⟩,?_⟩;refine Gb l b (o+1+1+1+1) λi hi=> ?_;have:=h (i+1) (by simpa using hi);simp only[List.getElem_cons_succ]at this;rw[show o+1+1+1+1+i*4=o+(i+1)*4 by omega];exact this
section
variable {H:Type} {enc:TypeId×Value->H} {w:World} {base:Nat} {spare:Nat->Bool} {held:Bool}
def FN{fuel:Nat}{c0 c1:Value}{y:DataW H×List MemPlace}(h:DataW.trod enc aH w base spare held fuel 53 [c0,c1] =some y):∃v:V,c0= .int .i64 v.x/\c1= .int .i64 v.y:=by obtain⟨y0,y1,n,_,_,h0,h1⟩:=trod_struct2 Qe h;obtain⟨p,hp,_⟩:=DataW.trod_int rG h0;obtain⟨q,hq,_⟩:=DataW.trod_int rG h1;rw[Yk]at hp hq;simp only[mJ,List.take_succ_cons,List.take_zero,mG,and_true,List.drop_succ_cons]at hp hq;exact⟨⟨p,q⟩,hp,hq⟩
def Tk{fuel:Nat}{v:Value}{y:DataW H×List MemPlace}(h:DataW.trod enc aH w base spare held fuel 22 [v] =some y):∃l:List S,a8 (o8 w) (sgP l) v:=by
 rcases open_slice Tryz.underlying22 h with⟨h1,h2⟩|⟨a,len,cap,m,n,D,Pl,h1,_,hl,_,hm,hx,hc⟩
 .simp only[mG,and_true]at h1;subst h1;refine⟨[],?_⟩;exact⟨none,0,rfl,bD _,λ_=>⟨rfl,rfl⟩,λad e=>by cases e⟩
 .simp only[mG,and_true]at h1;subst h1;have hlm:len<=m:=by rw[hm];split<;>omega
  have hint:∀i,i<m->∃s:S,w.cell? ((a.add (i*4)).add 0)=some (.int .i64 s.a.x)/\w.cell? ((a.add (i*4)).add 1)=some (.int .i64 s.a.y)/\w.cell? ((a.add (i*4)).add 2)=some (.int .i64 s.b.x)/\w.cell? ((a.add (i*4)).add 3)=some (.int .i64 s.b.y):=by
   intro i hi;obtain⟨cs',h1,h2⟩:=hc i hi;rw[Xj]at h1;obtain⟨_,hlen,hcell⟩:=World.cells?_some h1;obtain⟨y0,y1,k,_,_,g0,g1⟩:=trod_struct2 Tryz.underlying57 h2;rw[Xk]at g0 g1;match cs',hlen with
   |[c0,c1,c2,c3],_=>
    simp only[mJ,List.take_succ_cons,List.take_zero,List.drop_succ_cons]at g0 g1;obtain⟨p,e1,e2⟩:=FN g0;obtain⟨q,e3,e4⟩:=FN g1;exact⟨⟨p,q⟩,by rw[hcell 0 (by omega),<-e1];rfl,by rw[hcell 1 (by omega),<-e2];rfl,by rw[hcell 2 (by omega),<-e3];rfl,by rw[hcell 3 (by omega),<-e4];rfl⟩
  obtain⟨f,hf⟩:=choose_lt (α:=S) (p:=λi s=>w.cell? ((a.add (i*4)).add 0)=some (.int .i64 s.a.x)/\w.cell? ((a.add (i*4)).add 1)=some (.int .i64 s.a.y)/\w.cell? ((a.add (i*4)).add 2)=some (.int .i64 s.b.x)/\w.cell? ((a.add (i*4)).add 3)=some (.int .i64 s.b.y)) hint;refine⟨(bN len).map f,some a,cap,by simp,by simpa using hl,(λe=>nomatch e),λad e=> ?_⟩;cases e;refine⟨λhpos=> ?_,Gb _ _ _ λi hi=> ?_⟩
  .have hl0:0<len:=by simpa using hpos
   have h0:=(hf 0 (by omega)).1;simpa[Addr.add]using World.cell?_spot h0
  .simp only[dt,List.length_range]at hi;have hs:a.spot=none:=by have h0:=(hf 0 (by omega)).1;simpa[Addr.add]using World.cell?_spot h0
   obtain⟨b,off,sp⟩:=a;subst hs;have g:=hf i (by omega);simp only[Addr.add_mid,Nat.add_zero]at g;simp only[uY,uZ];unfold o8;exact g
end
def X6{f:FuncId}{xs:List SV}{r:SV}{B:List PV}{q:PV}(h:∃A q,avs xs=A.map .p/\r.av= .p q/\Sat aH false f A q)(hB:avs xs=B.map .p)(hq:r.av= .p q):Sat aH false f B q:=by
 obtain⟨A,q',h1,h2,h3⟩:=h;rw[hq]at h2;cases h2;rw[hB]at h1;have:B=A:=by have:=congrArg bK h1;rw[cQ,cQ]at this;cases this;rfl
 subst this;exact h3
end
def atB(s t:S):Bool:=decide ((ai s t).k=1\/(ai s t).k=2)
def shB(s t:S):Bool:=decide ((ai s t).k=3)
structure POk(p:Pt):Prop where
 v:c9 p=true
 b:dW p 2000=true
def POk.den{p:Pt}(h:POk p):1<=p.den/\p.den<=134217728:=by have:=h.b;unfold dW at this;simp only[cB,decide_eq_true_eq]at this;exact this.1
def POk.x{p:Pt}(h:POk p): -(2000*p.den)<=p.x/\p.x<=2000*p.den/\ -(2000*p.den)<=p.y/\p.y<=2000*p.den:=by have:=h.b;unfold dW bS at this;simp only[cB,decide_eq_true_eq]at this;omega
def aW(p q:Pt):Int:=if aB6 (p.y*q.den) (q.y*p.den)=0 then aB6 (p.x*q.den) (q.x*p.den)else aB6 (p.y*q.den) (q.y*p.den)
def Do(a m:Int)(hm:1<=m):(a.tmod m<0->a.tdiv m-1=a/m)/\(¬a.tmod m<0->a.tdiv m=a/m):=by
 have h1:=Int.tmod_add_mul_tdiv a m;have h2:=Cy a m;have h3:=Cz a (show m≠0 by omega);have h4:=C2 a (show 0<m by omega);have h5:=Int.tmod_lt_of_pos a (show 0<m by omega);have h6:=Int.lt_tmod_of_pos a (show 0<m by omega);generalize a.tmod m=r at*;generalize a % m=r' at*;generalize a.tdiv m=q at*;generalize a/m=q' at*;have e:r+m*q=r'+m*q':=by omega
 constructor<;>intro h
 .have:m*(q-q'-1)=r'-r-m:=by rw[Int.mul_sub,Int.mul_sub];omega
  rcases xu (q-q'-1) 0 with h7|h7|h7
  .have:=rJ (show q-q'-1<= -1 by omega) (show 0<=m by omega);omega
  .omega
  .have:=rJ (show 1<=q-q'-1 by omega) (show 0<=m by omega);omega
 .have:m*(q-q')=r'-r:=by rw[Int.mul_sub];omega
  rcases xu (q-q') 0 with h7|h7|h7
  .have:=rJ (show q-q'<= -1 by omega) (show 0<=m by omega);omega
  .omega
  .have:=rJ (show 1<=q-q' by omega) (show 0<=m by omega);omega
def Fp{a m:Int}(hm:1<=m)(h1: -(2000*m)<=a)(h2:a<=2000*m): -2000<=a/m/\a/m<=2000/\0<=a-a/m*m/\a-a/m*m<m:=by have g2:=Cy a m;have g3:=Cz a (show m≠0 by omega);have g4:=C2 a (show 0<m by omega);have e:a/m*m=m*(a/m):=Int.mul_comm _ _;refine⟨Int.le_ediv_of_mul_le (by omega) (by omega),Int.ediv_le_of_le_mul (by omega) (by omega),by omega,by omega⟩
def UM(a m b n:Int)(hm:1<=m)(hn:1<=n):orL [aB6 (a/m) (b/n),aB6 ((a-a/m*m)*n) ((b-b/n*n)*m)] =aB6 (a*n) (b*m):=by
 have h2:=Cy a m;have h3:=Cz a (show m≠0 by omega);have h4:=C2 a (show 0<m by omega);have g2:=Cy b n;have g3:=Cz b (show n≠0 by omega);have g4:=C2 b (show 0<n by omega);generalize a % m=r at*;generalize a/m=q at*;generalize b % n=s at*;generalize b/n=p at*;have ea:a=r+m*q:=h2.symm;have eb:b=s+n*p:=g2.symm;subst ea;subst eb;have e1:(r+m*q)*n-(s+n*p)*m=(r*n-s*m)+m*n*(q-p):=by grind
 have e2:r+m*q-q*m=r:=by grind
 have e3:s+n*p-p*n=s:=by grind
 have hmn:1<=m*n:=by have:=Int.mul_le_mul hm hn (by omega) (by omega);omega
 have b1:r*n<m*n:=C3 h4 (by omega);have b2:s*m<n*m:=C3 g4 (by omega);have b3:0<=r*n:=iz h3 (by omega);have b4:0<=s*m:=iz g3 (by omega);have b5:n*m=m*n:=Int.mul_comm _ _;rw[e2,e3];generalize (r+m*q)*n=A at*;generalize (s+n*p)*m=B at*;generalize r*n=u at*;generalize s*m=v at*;generalize m*n=w at*;unfold orL orL orL aB6;rcases xu q p with h7|h7|h7
 .have:=rJ (show q-p<= -1 by omega) (show 0<=w by omega);rw[if_pos h7,if_neg (by omega),if_pos (by omega)]
 .subst h7;rw[Int.sub_self,Int.mul_zero]at e1;simp only[Int.lt_irrefl,if_false,if_true];grind
 .have:=rJ (show 1<=q-p by omega) (show 0<=w by omega);rw[if_neg (by omega),if_pos h7,if_neg (by omega),if_neg (by omega),if_pos (by omega)]
noncomputable def QI:Con:=con (ac aS (a1 aS)) (λ(_,_)=>[]) (λ(s,t)=> .tup [aT.enc (ai s t).p,.bool (atB s t)]
 )
def aBJ:QI.Ok aH 106:=bA (a7 wR) (raw:=aw) (λ(_,_)=>[]) (λ(_,_)=>⟨_,rfl⟩) λ(s,t) _=>az (q:=((ai s t).k=1->(ai s t).p.x=(ai s t).p.x/\(ai s t).p.y=(ai s t).p.y/\(ai s t).p.den=(ai s t).p.den/\true=atB s t)/\
 (¬(ai s t).k=1->(ai s t).p.x=(ai s t).p.x/\(ai s t).p.y=(ai s t).p.y/\(ai s t).p.den=(ai s t).p.den/\decide ((ai s t).k=2)=atB s t)) (by kernel_rfl) (by unfold atB;refine⟨λh=>⟨rfl,rfl,rfl,?_⟩,λh=>⟨rfl,rfl,rfl,?_⟩⟩<;>simp[h])
noncomputable def OJ:Tab:=aq [(106,QI)] Bv
def K6:OJ.Ok aH:=au wR ⟨aBJ,trivial⟩
noncomputable def QH:Con:=con (ac aS (a1 aS)) (λ(_,_)=>[]) (λ(s,t)=> .tup [aS.enc (ai s t).s,.bool (shB s t)]
 )
def aBI:QH.Ok aH 107:=bA (a7 K6) (raw:=aw) (λ(_,_)=>[]) (λ(_,_)=>⟨_,rfl⟩) λ(s,t) _=>az (q:=(ai s t).s.a.x=(ai s t).s.a.x/\(ai s t).s.a.y=(ai s t).s.a.y/\(ai s t).s.b.x=(ai s t).s.b.x/\(ai s t).s.b.y=(ai s t).s.b.y/\decide ((ai s t).k=3)=shB s t) (by kernel_rfl) (by unfold shB;grind)
noncomputable def OI:Tab:=aq [(107,QH)] OJ
def K5:OI.Ok aH:=au K6 ⟨aBI,trivial⟩
noncomputable def QF:Con:=con (ac aI (ac aI (ac aI (a1 aI)))) (λ(a,m,b,n)=>[1<=m,m<=134217728,1<=n,n<=134217728,-(2000*m)<=a,a<=2000*m,-(2000*n)<=b,b<=2000*n]) (λ(a,m,b,n)=> .int .i64 (aB6 (a*n) (b*m)))
def aBG:QF.Ok aH 112:=bA (a7 K5) (raw:=aw) (λ(a,m,b,n)=>[jU 4 [(9,.int .i64 (a/m))],jU 6 [(10,.int .i64 (b/n))]]
  ) (λ(_,_,_,_)=>⟨_,rfl⟩) λ(a,m,b,n) hp=>az (q:=m≠0/\aG (bg a m)/\n≠0/\aG (bg b n)/\(m≠0/\(dI a m<0->aG (bg a m-1)/\bg a m-1=a/m)/\
  (¬dI a m<0->bg a m=a/m))/\
 (∀y:Unit,(n≠0/\(dI b n<0->aG (bg b n-1)/\bg b n-1=b/n)/\
   (¬dI b n<0->bg b n=b/n))/\
  (∀y_1:Unit,aG (a/m*m)/\aG (a-a/m*m)/\aG ((a-a/m*m)*n)/\aG (b/n*n)/\aG (b-b/n*n)/\aG ((b-b/n*n)*m)/\[aB6 (a/m) (b/n),aB6 ((a-a/m*m)*n) ((b-b/n*n)*m)].length<=1000/\orL [aB6 (a/m) (b/n),aB6 ((a-a/m*m)*n) ((b-b/n*n)*m)] =aB6 (a*n) (b*m)))) (by kernel_rfl) (by
  change 1<=m/\m<=134217728/\1<=n/\n<=134217728/\ -(2000*m)<=a/\a<=2000*m/\ -(2000*n)<=b/\b<=2000*n at hp;obtain⟨h1,h2,h3,h4,h5,h6,h7,h8⟩:=hp;obtain⟨a1,a2⟩:=Do a m h1;obtain⟨b1,b2⟩:=Do b n h3;obtain⟨a3,a4,a5,a6⟩:=Fp h1 h5 h6;obtain⟨b3,b4,b5,b6⟩:=Fp h3 h7 h8;have e:=UM a m b n h1 h3;have p1:0<=(a-a/m*m)*n/\(a-a/m*m)*n<=134217728*134217728:=⟨iz a5 (by omega),Int.mul_le_mul (by omega) h4 (by omega) (by omega)⟩;have p2:0<=(b-b/n*n)*m/\(b-b/n*n)*m<=134217728*134217728:=⟨iz b5 (by omega),Int.mul_le_mul (by omega) h2 (by omega) (by omega)⟩;have t1: -2001<=a.tdiv m/\a.tdiv m<=2001:=by
   by_cases h:a.tmod m<0
   .have:=a1 h;omega
   .have:=a2 h;omega
  have t2: -2001<=b.tdiv n/\b.tdiv n<=2001:=by
   by_cases h:b.tmod n<0
   .have:=b1 h;omega
   .have:=b2 h;omega
  generalize (a-a/m*m)*n=A at*;generalize (b-b/n*n)*m=B at*;generalize a.tdiv m=q at*;generalize b.tdiv n=r at*;generalize a/m*m=am at*;generalize b/n*n=bn at*;refine⟨by omega,by unfold aG;omega,by omega,by unfold aG;omega,⟨by omega,λh=>⟨by unfold aG;omega,a1 h⟩,a2⟩,λ_=>⟨⟨by omega,λh=>⟨by unfold aG;omega,b1 h⟩,b2⟩,λ_=> ?_⟩⟩;exact⟨by unfold aG;omega,by unfold aG;omega,by unfold aG;omega,by unfold aG;omega,by unfold aG;omega,by unfold aG;omega,by simp,e⟩)
noncomputable def OG:Tab:=aq [(112,QF)] OI
def K2:OG.Ok aH:=au K5 ⟨aBG,trivial⟩
noncomputable def c47:Con:=con (ac aT (a1 aT)) (λ(p,q)=>[POk p,POk q]) (λ(p,q)=> .int .i64 (aW p q)
 )
def k47:c47.Ok aH 47:=bA (a7 K2) (raw:=aw) (λ(_,_)=>[]) (λ(_,_)=>⟨_,rfl⟩) λ(p,q) hp=>az (q:=((!c9 p)=true->0=aW p q)/\
 ((!c9 p)=false->((!c9 q)=true->0=aW p q)/\
  ((!c9 q)=false->(0:Int)<=2000/\(2000:Int)<=1000000/\((!dW p 2000)=true->0=aW p q)/\
   ((!dW p 2000)=false->(0:Int)<=2000/\(2000:Int)<=1000000/\((!dW q 2000)=true->0=aW p q)/\
    ((!dW q 2000)=false->1<=p.den/\p.den<=134217728/\1<=q.den/\q.den<=134217728/\ -(2000*p.den)<=p.y/\p.y<=2000*p.den/\ -(2000*q.den)<=q.y/\q.y<=2000*q.den/\1<=p.den/\p.den<=134217728/\1<=q.den/\q.den<=134217728/\ -(2000*p.den)<=p.x/\p.x<=2000*p.den/\ -(2000*q.den)<=q.x/\q.x<=2000*q.den/\[aB6 (p.y*q.den) (q.y*p.den),aB6 (p.x*q.den) (q.x*p.den)].length<=1000/\orL [aB6 (p.y*q.den) (q.y*p.den),aB6 (p.x*q.den) (q.x*p.den)] =aW p q))))) (by kernel_rfl) (by
  change POk p/\POk q at hp;obtain⟨h1,h2⟩:=hp;rw[h1.v,h2.v,h1.b,h2.b];have d1:=h1.den;have d2:=h2.den;have x1:=h1.x;have x2:=h2.x;refine⟨λh=>(by cases h),λ_=>⟨λh=>(by cases h),λ_=>⟨by omega,by omega,λh=>(by cases h),λ_=>⟨by omega,by omega,λh=>(by cases h),λ_=> ?_⟩⟩⟩⟩;exact⟨d1.1,d1.2,d2.1,d2.2,x1.2.2.1,x1.2.2.2,x2.2.2.1,x2.2.2.2,d1.1,d1.2,d2.1,d2.2,x1.1,x1.2.1,x2.1,x2.2.1,by simp,by unfold aW orL orL orL;grind⟩)
noncomputable def t47:Tab:=aq [(47,c47)] OG
def Mw:t47.Ok aH:=au K2 ⟨k47,trivial⟩
def aPl:Ar Pl where
 enc p:= .agg [.lst .S p.sg,.lst .T p.vs,.lst .E p.es,.lst .F p.fs]
 dec s:=match s with
  | .agg [a,b,c,d] =>(match iY .S a,iY .T b,iY .E c,iY .F d with|some x,some y,some z,some u=>some ⟨x,y,z,u⟩|_,_,_,_=>none)
  |_=>none
 ok s a h:=by
  split at h
  .split at h<;>cases h;rename_i h1 h2 h3 h4;simp only[SV.av,avs,jE h1,jE h2,jE h3,jE h4]
  .cases h
 pl _:=⟨_,rfl⟩
structure PlOk(p:Pl):Prop where
 ls:p.sg.length<=1000
 lv:p.vs.length<=100000
 le:p.es.length<=400000
 fr:∀e∈p.es,0<=e.fr/\e.fr<p.vs.length/\0<=e.to/\e.to<p.vs.length
 src:∀e∈p.es,0<e.src.length/\∀x∈e.src,0<=x/\x<p.sg.length
 bd:∀s∈p.sg,bd 2000 s.a/\bd 2000 s.b
 pt:∀v∈p.vs,POk v/\v.den<=33000000
def HIn(p:Pl)(h:Int):Prop:=0<=h/\h<2*p.es.length
def stP(p:Pl)(h:Int):Int:=if h.tmod 2=0 then(aX p.es (h.tdiv 2).toNat).fr else(aX p.es (h.tdiv 2).toNat).to
def lnP(p:Pl)(e:Int):V×V:=
 let s:=aO p.sg (aK (aX p.es e.toNat).src 0).toNat
 if bV s.b s.a=true then(s.b,s.a)else(s.a,s.b)
def bP(p:Pl)(h:Int):V:=if h.tmod 2=0 then aB3 (lnP p (h.tdiv 2)).2 (lnP p (h.tdiv 2)).1 else aB3 (lnP p (h.tdiv 2)).1 (lnP p (h.tdiv 2)).2
def de(v:V):Int:=if 0<v.y\/(v.y=0/\0<v.x)then 0 else 1
def pj{l:List Ed}{i:Nat}(h:i<l.length):aX l i∈l:=by rw[show aX l i=l[i]from cE h];exact du h
def Yw{h:Int}(h0:0<=h):h.tdiv 2=h/2/\h.tmod 2=h % 2:=⟨Int.tdiv_eq_ediv_of_nonneg h0,Int.tmod_eq_emod_of_nonneg h0⟩
def HIn.e{p:Pl}{h:Int}(H:HIn p h):0<=h.tdiv 2/\h.tdiv 2<p.es.length:=by obtain⟨h0,h1⟩:=H;rw[(Yw h0).1];omega
def PlOk.at{p:Pl}(P:PlOk p){e:Int}(h:0<=e/\e<p.es.length):0<(aX p.es e.toNat).src.length/\0<=aK (aX p.es e.toNat).src 0/\aK (aX p.es e.toNat).src 0<p.sg.length:=by
 obtain⟨h1,h2⟩:=P.src _ (pj (l:=p.es) (i:=e.toNat) (by omega));have:aK (aX p.es e.toNat).src 0∈(aX p.es e.toNat).src:=by rw[show aK (aX p.es e.toNat).src 0=(aX p.es e.toNat).src[0]from cE h1];exact du h1
 exact⟨h1,h2 _ this⟩
def kD{m k:Int}{v:V}(h:bd m v)(hmk:m<=k):bd k v:=by unfold bd at*;omega
def Aq{p:Pl}(P:PlOk p){e:Int}(h:0<=e/\e<p.es.length):bd 2000 (lnP p e).1/\bd 2000 (lnP p e).2:=by
 have h1:=P.at h;have h2:=P.bd _ (vS (l:=p.sg) (i:=(aK (aX p.es e.toNat).src 0).toNat) (by omega));unfold lnP;dsimp only;split
 .exact⟨h2.2,h2.1⟩
 .exact h2
def sX{p:Pl}(P:PlOk p){h:Int}(H:HIn p h):bd 4000 (bP p h):=by obtain⟨h1,h2⟩:=Aq P H.e;unfold bd at h1 h2;unfold bP aB3;split<;>(unfold bd;dsimp only;omega)
def lW{p:Pl}(P:PlOk p){h:Int}(H:HIn p h):0<=stP p h/\stP p h<p.vs.length:=by have he:=H.e;have:=P.fr _ (pj (l:=p.es) (i:=(h.tdiv 2).toNat) (by omega));unfold stP;split<;>omega
def bl(a b:V):Int:=if aB6 (de a) (de b)=0 then-ba ⟨0,0⟩ a b else aB6 (de a) (de b)
noncomputable def Ow:Con:=con (ac aPl (a1 aI)) (λ(p,h)=>[PlOk p,HIn p h]) (λ(p,h)=> .int .i64 (stP p h)
 )
def aAv:Ow.Ok aH 83:=bA (a7 Mw) (raw:=aw) (λ(_,_)=>[]) (λ(_,_)=>⟨_,rfl⟩) λ(p,h) hp=>az (q:=(2:Int)≠0/\(dI h 2=0->(2:Int)≠0/\aG (bg h 2)/\ix (bg h 2) p.es.length/\(aX p.es (bg h 2).toNat).fr=stP p h)/\
 (¬dI h 2=0->(2:Int)≠0/\aG (bg h 2)/\ix (bg h 2) p.es.length/\(aX p.es (bg h 2).toNat).to=stP p h)) (by kernel_rfl) (by
  change PlOk p/\HIn p h at hp;obtain⟨P,H⟩:=hp;have e:=H.e;have:=P.le;refine⟨by decide,λh1=>⟨by decide,by unfold aG;omega,by unfold ix;omega,?_⟩,λh1=>⟨by decide,by unfold aG;omega,by unfold ix;omega,?_⟩⟩
  .unfold stP;rw[if_pos h1]
  .unfold stP;rw[if_neg h1])
noncomputable def Mc:Tab:=aq [(83,Ow)] t47
def JU:Mc.Ok aH:=au Mw ⟨aAv,trivial⟩
noncomputable def Ox:Con:=con (ac aPl (a1 aI)) (λ(p,e)=>[PlOk p,0<=e/\e<p.es.length]) (λ(p,e)=> .tup [aV.enc (lnP p e).1,aV.enc (lnP p e).2]
 )
def aAw:Ox.Ok aH 81:=bA (a7 JU) (raw:=aw) (λ(_,_)=>[]) (λ(_,_)=>⟨_,rfl⟩) λ(p,e) hp=>az (q:=ix e p.es.length/\ix 0 (aX p.es e.toNat).src.length/\ix (aK (aX p.es e.toNat).src 0) p.sg.length/\(bV (aO p.sg (aK (aX p.es e.toNat).src 0).toNat).b (aO p.sg (aK (aX p.es e.toNat).src 0).toNat).a=true->(aO p.sg (aK (aX p.es e.toNat).src 0).toNat).b.x=(lnP p e).1.x/\(aO p.sg (aK (aX p.es e.toNat).src 0).toNat).b.y=(lnP p e).1.y/\(aO p.sg (aK (aX p.es e.toNat).src 0).toNat).a.x=(lnP p e).2.x/\(aO p.sg (aK (aX p.es e.toNat).src 0).toNat).a.y=(lnP p e).2.y)/\
 (bV (aO p.sg (aK (aX p.es e.toNat).src 0).toNat).b (aO p.sg (aK (aX p.es e.toNat).src 0).toNat).a=false->(aO p.sg (aK (aX p.es e.toNat).src 0).toNat).a.x=(lnP p e).1.x/\(aO p.sg (aK (aX p.es e.toNat).src 0).toNat).a.y=(lnP p e).1.y/\(aO p.sg (aK (aX p.es e.toNat).src 0).toNat).b.x=(lnP p e).2.x/\(aO p.sg (aK (aX p.es e.toNat).src 0).toNat).b.y=(lnP p e).2.y)) (by kernel_rfl) (by change PlOk p/\(0<=e/\e<p.es.length)at hp;obtain⟨P,H⟩:=hp;have h1:=P.at H;have:=P.le;have:=P.ls;refine⟨by unfold ix;omega,by unfold ix;omega,by unfold ix;omega,λh=> ?_,λh=> ?_⟩<;>(unfold lnP;simp[h]))
noncomputable def Me:Tab:=aq [(81,Ox)] Mc
def JV:Me.Ok aH:=au JU ⟨aAw,trivial⟩
noncomputable def Lq:Con:=con (ac aPl (a1 aI)) (λ(p,h)=>[PlOk p,HIn p h]) (λ(p,h)=>aV.enc (bP p h)
 )
def ZO:Lq.Ok aH 156:=bA (a7 JV) (raw:=aw) (λ(_,_)=>[]) (λ(_,_)=>⟨_,rfl⟩) λ(p,h) hp=>az (q:=(2:Int)≠0/\aG (bg h 2)/\PlOk p/\(0<=bg h 2/\bg h 2<p.es.length)/\(2:Int)≠0/\(dI h 2=0->bd 1000000000 (lnP p (bg h 2)).2/\bd 1000000000 (lnP p (bg h 2)).1/\(aB3 (lnP p (bg h 2)).2 (lnP p (bg h 2)).1).x=(bP p h).x/\(aB3 (lnP p (bg h 2)).2 (lnP p (bg h 2)).1).y=(bP p h).y)/\
 (¬dI h 2=0->bd 1000000000 (lnP p (bg h 2)).1/\bd 1000000000 (lnP p (bg h 2)).2/\(aB3 (lnP p (bg h 2)).1 (lnP p (bg h 2)).2).x=(bP p h).x/\(aB3 (lnP p (bg h 2)).1 (lnP p (bg h 2)).2).y=(bP p h).y)) (by kernel_rfl) (by
  change PlOk p/\HIn p h at hp;obtain⟨P,H⟩:=hp;have he:=H.e;obtain⟨h1,h2⟩:=Aq P he;have:=P.le;have b1:=kD h1 (show(2000:Int)<=1000000000 by decide);have b2:=kD h2 (show(2000:Int)<=1000000000 by decide);refine⟨by decide,by unfold aG;omega,P,he,by decide,λh=>⟨b2,b1,?_⟩,λh=>⟨b1,b2,?_⟩⟩
  .unfold bP;rw[if_pos h];exact⟨rfl,rfl⟩
  .unfold bP;rw[if_neg h];exact⟨rfl,rfl⟩)
noncomputable def KT:Tab:=aq [(156,Lq)] Me
def Hy:KT.Ok aH:=au JV ⟨ZO,trivial⟩
noncomputable def Lg:Con:=con (a1 aV) (λ_=>[]) (λv=> .int .i64 (de v)
 )
def ZF:Lg.Ok aH 215:=bA (a7 Hy) (raw:=aw) (λ_=>[]) (λ_=>⟨_,rfl⟩) λv _=>az (q:=(0<v.y->0=de v)/\
 (¬0<v.y->(v.y=0->(0<v.x->0=de v)/\
   (¬0<v.x->1=de v))/\
  (¬v.y=0->1=de v))) (by kernel_rfl) (by
  unfold de;grind)
noncomputable def Jv:Tab:=aq [(215,Lg)] KT
def Ho:Jv.Ok aH:=au Hy ⟨ZF,trivial⟩
noncomputable def Lr:Con:=con (ac aV (a1 aV)) (λ(a,b)=>[bd 1000000 a,bd 1000000 b]) (λ(a,b)=> .int .i64 (bl a b)
 )
def ZP:Lr.Ok aH 155:=bA (a7 Ho) (raw:=aw) (λ(_,_)=>[]) (λ(_,_)=>⟨_,rfl⟩) λ(a,b) hp=>az (q:=bd 1000000000 (⟨0,0⟩:V)/\bd 1000000000 a/\bd 1000000000 b/\aG (0-ba (⟨0,0⟩:V) a b)/\[aB6 (de a) (de b),0-ba (⟨0,0⟩:V) a b].length<=1000/\orL [aB6 (de a) (de b),0-ba (⟨0,0⟩:V) a b] =bl a b) (by kernel_rfl) (by
 change bd 1000000 a/\bd 1000000 b at hp;obtain⟨h1,h2⟩:=hp;have ht: -1<=ba ⟨0,0⟩ a b/\ba ⟨0,0⟩ a b<=1:=by unfold ba sgn;split<;>(try split)<;>omega
 refine⟨by unfold bd;decide,kD h1 (by decide),kD h2 (by decide),by unfold aG;omega,by simp,?_⟩;unfold bl orL orL orL;split<;>grind)
noncomputable def KU:Tab:=aq [(155,Lr)] Jv
def Hz:KU.Ok aH:=au Ho ⟨ZP,trivial⟩
def aPp:Ar Pl where
 enc p:= .pro [.lst .S p.sg,.lst .T p.vs,.lst .E p.es,.lst .F p.fs] 0
 dec s:=match s with
  | .pro [a,b,c,d] 0=>(match iY .S a,iY .T b,iY .E c,iY .F d with|some x,some y,some z,some u=>some ⟨x,y,z,u⟩|_,_,_,_=>none)
  |_=>none
 ok s a h:=by
  split at h
  .split at h<;>cases h;rename_i h1 h2 h3 h4;simp only[SV.av,avs,jE h1,jE h2,jE h3,jE h4]
  .cases h
 pl _:=⟨_,rfl⟩
def cfH(p:Pl)(x y:Int):Int:=bl (bP p x) (bP p y)
noncomputable def Lo:Con:=con (ac aI (ac aI (a1 aPp))) (λ(x,y,p)=>[PlOk p,HIn p x,HIn p y]) (λ(x,y,p)=> .int .i64 (cfH p x y)
 )
def LW:Lo.Ok aH 193:=bA (a7 Hz) (raw:=aw) (λ(_,_,_)=>[]) (λ(_,_,_)=>⟨_,rfl⟩) λ(x,y,p) hp=>az (q:=PlOk p/\HIn p x/\PlOk p/\HIn p y/\bd 1000000 (bP p x)/\bd 1000000 (bP p y)/\bl (bP p x) (bP p y)=cfH p x y) (by kernel_rfl) (by change PlOk p/\HIn p x/\HIn p y at hp;obtain⟨P,h1,h2⟩:=hp;exact⟨P,h1,P,h2,kD (sX P h1) (by decide),kD (sX P h2) (by decide),rfl⟩)
noncomputable def KD:Tab:=aq [(193,Lo)] KU
def Hw:KD.Ok aH:=au Hz ⟨LW,trivial⟩
noncomputable def Lh:Con:=con (ac aI (ac aV (a1 aPp))) (λ(x,d,p)=>[PlOk p,HIn p x,bd 1000000 d]) (λ(x,d,p)=> .int .i64 (bl (bP p x) d)
 )
def ZG:Lh.Ok aH 214:=bA (a7 Hw) (raw:=aw) (λ(_,_,_)=>[]) (λ(_,_,_)=>⟨_,rfl⟩) λ(x,d,p) hp=>az (q:=PlOk p/\HIn p x/\bd 1000000 (bP p x)/\bd 1000000 d/\bl (bP p x) d=bl (bP p x) d) (by kernel_rfl) (by change PlOk p/\HIn p x/\bd 1000000 d at hp;obtain⟨P,h1,h2⟩:=hp;exact⟨P,h1,kD (sX P h1) (by decide),h2,rfl⟩)
noncomputable def Jy:Tab:=aq [(214,Lh)] KD
def Hp:Jy.Ok aH:=au Hw ⟨ZG,trivial⟩
noncomputable def Ll:Con:=con (ac aI (ac aV (a1 aPp))) (λ(x,d,p)=>[PlOk p,HIn p x,bd 1000000 d]) (λ(x,d,p)=> .int .i64 (bl (bP p x) d)
 )
def ZK:Ll.Ok aH 195:=bA (a7 Hp) (raw:=aw) (λ(_,_,_)=>[]) (λ(_,_,_)=>⟨_,rfl⟩) λ(x,d,p) hp=>az (q:=PlOk p/\HIn p x/\bd 1000000 (bP p x)/\bd 1000000 d/\bl (bP p x) d=bl (bP p x) d) (by kernel_rfl) (by change PlOk p/\HIn p x/\bd 1000000 d at hp;obtain⟨P,h1,h2⟩:=hp;exact⟨P,h1,kD (sX P h1) (by decide),h2,rfl⟩)
noncomputable def KA:Tab:=aq [(195,Ll)] Jy
def Ht:KA.Ok aH:=au Hp ⟨ZK,trivial⟩
noncomputable def MA:Con:=con (a1 aI) (λ_=>[]) (λ_=> .bool true
 )
def Zd:MA.Ok aH 115:=bA (a7 Ht) (raw:=aw) (λ_=>[]) (λ_=>⟨_,rfl⟩) λx _=>az (q:=true=true) (by kernel_rfl) (by rfl)
noncomputable def Ky:Tab:=aq [(115,MA)] KA
def IA:Ky.Ok aH:=au Ht ⟨Zd,trivial⟩
def fm(p:Pl)(c:List Int):Nat->Int
 |0=>stP p (aK c 0)
 |k+1=>min (fm p c k) (stP p (aK c k))
def bz(p:Pl)(c:List Int):Int:=fm p c c.length
noncomputable def Lz:Con:=con (ac aPl (a1 (aL .I))) (λ(p,c)=>[PlOk p,0<c.length,c.length<=1000000,(∀h∈c,HIn p h)]) (λ(p,c)=> .int .i64 (bz p c))
def ZW:Lz.Ok aH 119:=bA (a7 IA) (raw:=aw) (λ(p,c)=>[lp 3 15 c.length (λ_=>[]) [] (λk=>[(5,.int .i64 (fm p c k))]) (λ_=>[])]
  ) (λ(_,_)=>⟨_,rfl⟩) λ(p,c) hp=>az (q:=ix 0 c.length/\PlOk p/\HIn p (aK c 0)/\(0=(0:Int)/\stP p (aK c 0)=fm p c 0/\(0:Nat)<=c.length)/\
 (∀x:Nat,x<=c.length->((x:Int)<c.length->ix (x:Int) c.length/\PlOk p/\HIn p (aK c x)/\aG ((x:Int)+1)/\(x:Int)+1=((x+1:Nat):Int)/\Min.min (fm p c x) (stP p (aK c x))=fm p c (x+1)/\x+1<=c.length/\c.length-(x+1)<c.length-x)/\
  (¬(x:Int)<c.length->fm p c x=bz p c))) (by kernel_rfl) (by
  change PlOk p/\0<c.length/\c.length<=1000000/\((∀h∈c,HIn p h))at hp;obtain⟨P,h1,h2,h3⟩:=hp;have hm:∀k,k<c.length->HIn p (aK c k):=λk hk=>h3 _ (by rw[show aK c k=c[k]from cE hk];exact du hk)
  refine⟨by unfold ix;omega,P,hm 0 h1,⟨rfl,rfl,by omega⟩,λx hx=>⟨λhl=>⟨by unfold ix;omega,P,hm x (by omega),by unfold aG;omega,by omega,rfl,by omega,by omega⟩,λhl=> ?_⟩⟩;obtain rfl:x=c.length:=by omega
  rfl)
noncomputable def Kv:Tab:=aq [(119,Lz)] Ky
def Xu:Kv.Ok aH:=au IA ⟨ZW,trivial⟩
def yy{α:Type}:∀(a:Ask α) (w:World),w.drawn<=(w.ask a).2.drawn
 | .done a,w=>bD _
 | .ask what range k,w=>by
   unfold World.ask;dsimp only;split
   .exact yy _ w
   .exact cZ (C4 w.drawn) (yy (k _) {w with drawn:=w.drawn+1})
def EG(w:World)(c:Sys):w.drawn<=(w.sys c).2.drawn:=by have h:=yy (Kernel.perform c w.os) w;unfold World.sys;grind
def RC{p:Program}{w w':World}{at_:Addr}{u:TypeId}{k:Addr}{v:Value}{b:Bool}{l:List Addr}(h:w.viewStore p at_ u k v b= .ok (w',l)):w'.drawn=w.drawn:=by
 unfold World.viewStore at h;simp only[bind,Except.bind,pure,Except.pure]at h
 repeat' split at h
 all_goals first|(cases h;done)|skip
 all_goals (try cases h;try rfl)
def Result.drew{α:Type}(w:World):Result α->Prop
 | .ok _ w'=>w.drawn<=w'.drawn
 | .halt _ w'=>w.drawn<=w'.drawn
def uz{α:Type}(p:Program):∀(s:Sem α) (w:World),Result.drew w (s.run p w):=by
 intro s;induction s with
 |pure a=>intro w;exact bD _
 |load m a k ih=>
  intro w;unfold eJ;split
  .exact ih _ w
  .split
   .exact ih _ w
   .exact bD _
 |store m a v k ih=>
  intro w;have key:∀w1:World,w1.drawn=w.drawn->Result.drew w (k.run p w1):=by intro w1 h;have:=ih w1;revert this;generalize eJ p _ _=r;intro h2;cases r<;>(show w.drawn<=_;rw[<-h];exact h2)
  have h0:∀h,Result.drew (α:=α) w (.halt h w):=λ_=>bD _;cases v<;>simp only[eJ];all_goals first|exact h0 _|skip
  all_goals
   split
   .split
    .exact h0 _
    .exact key _ rfl
   .split
    .rename_i h1;refine key _ ?_;unfold World.farStore at h1;split at h1
     .split at h1
      .rename_i h2;cases h1;exact RC h2
      .cases h1
     .cases h1
    .exact h0 _
 |new o k ih=>intro w;unfold eJ;exact ih _ _
 |shape r k ih=>intro w;unfold eJ;exact ih _ _
 |freeze a n k ih=>
  intro w;unfold eJ;have e:(w.freeze a n).drawn=w.drawn:=by unfold World.freeze;first|rfl|grind
  have:=ih (w.freeze a n);revert this;generalize eJ p _ _=r;intro h2;cases r<;>(show w.drawn<=_;rw[<-e];exact h2)
 |frozen a k ih=>intro w;unfold eJ;exact ih _ _
 |getObj r k ih=>
  intro w;unfold eJ;split
  .exact bD _
  .exact ih _ _
  .exact bD _
 |setObj r o k ih=>
  intro w;unfold eJ;split
  .exact bD _
  .exact ih _
  .exact bD _
 |choose q k ih=>
  intro w;unfold eJ;split
  .exact ih _ w
  .have:=ih (q.cut (w.tape w.drawn q)) {w with drawn:=w.drawn+1};revert this;generalize eJ p _ _=r;intro h;cases r<;>exact cZ (C4 _) h
 |sys c k ih=>
  intro w;unfold eJ;have:=ih (w.sys c).1 (w.sys c).2;have h2:=EG w c;revert this;generalize eJ p _ _=r;intro h;cases r<;>exact cZ h2 h
 |program k ih=>intro w;unfold eJ;exact ih _ _
 |mark m k ih=>intro w;unfold eJ;exact ih _
 |halt h=>intro w;exact bD _
section
variable {p:Program}
def fV{α:Type}{s:Sem α}{w w':World}{a:α}(h:s.run p w= .ok a w'):w.drawn<=w'.drawn:=by have:=uz p s w;rw[h]at this;exact this
def kd{α:Type}{s:Sem α}{w w':World}{e:Halt}(h:s.run p w= .halt e w'):w.drawn<=w'.drawn:=by have:=uz p s w;rw[h]at this;exact this
def ro{α:Type}:∀(s:Sem α) (w:World) (es:Array Event),(s.runT p w es).1=s.run p w:=by simp_all
def Wj{α:Type}{s:Sem α}{w w':World}{a:α}{es es':Array Event}(h:s.runT p w es=(.ok a w',es')):w.drawn<=w'.drawn:=by have:=ro (p:=p) s w es;rw[h]at this;exact fV this.symm
def yb{α:Type}{s:Sem α}{w w':World}{e:Halt}{es es':Array Event}(h:s.runT p w es=(.halt e w',es')):w.drawn<=w'.drawn:=by have:=ro (p:=p) s w es;rw[h]at this;exact kd this.symm
def lj{α:Type}{s:Sem α}{w w':World}{a:α}{es:Array Event}(h:(s.runT p w es).1= .ok a w'):w.drawn<=w'.drawn:=fV ((ro s w es).symm.trans h)
def kA{α:Type}{s:Sem α}{w w':World}{e:Halt}{es:Array Event}(h:(s.runT p w es).1= .halt e w'):w.drawn<=w'.drawn:=kd ((ro s w es).symm.trans h)
def wd:GStep->Nat
 | .go _ w _=>w.drawn
 | .comm _ _ _ _ w _=>w.drawn
 | .spawn _ _ w _=>w.drawn
 | .count _ w _=>w.drawn
 | .timer _ _ w _=>w.drawn
 | .alone _ _ w _=>w.drawn
 | .newcoro _ _ _ w _=>w.drawn
 | .coroswitch _ _ _ w _=>w.drawn
 | .collect _ w _=>w.drawn
 | .watch _ w _=>w.drawn
 | .ended _ w _=>w.drawn
def oC(es:Array Event)(s:GStep):wd (s.after es)=wd s:=by cases s<;>rfl
def wG{c:Prop} [Decidable c]{a b:GStep}{n:Nat}(h1:n<=wd a)(h2:n<=wd b):n<=wd (if c then a else b):=by grind
def DD(fr:Frame)(v:Value)(w:World):w.drawn<=wd (endPrinting p fr v w):=by unfold endPrinting;dsimp only;split<;>exact bD _
def Dh(fr:Frame)(cs:List Frame)(d:Option Dying)(m:String)(w:World):w.drawn<=wd (endFatal p fr cs d m w):=by
 unfold endFatal;dsimp only;split
 .exact fV (by assumption)
 .exact kd (by assumption)
 .exact kd (by assumption)
def Su(fd:Nat)(t:ByteArray)(o:Outcome)(w:World):w.drawn<=wd (endWith w fd t o):=by
 have h:=EG w (.write fd t);unfold endWith;dsimp only;split
 .rename_i e;rw[e]at h;split<;>exact h
 .rename_i e;rw[e]at h;exact h
 .rename_i e;rw[e]at h;exact h
def SC(fr:Frame)(d:Dying)(f:Fatal)(w:World):w.drawn<=wd (writeOn p fr d f w):=by
 unfold writeOn;dsimp only;split
 .exact bD _
 .split
  .exact Wj (by assumption)
  .exact yb (by assumption)
  .exact yb (by assumption)
  .exact yb (by assumption)
def Ye(fr:Frame)(d:Dying)(w:World):w.drawn<=wd (die p fr d w):=by
 unfold die;split
 .exact SC _ _ _ _
 .split
  .split
   .exact bD _
   .exact Su _ _ _ _
  .split
   .exact bD _
   .split
    .exact fV (by assumption)
    .exact kd (by assumption)
   .rw[oC];split
    .rename_i heq;exact lj heq
    .rename_i heq;exact lj heq
    .rename_i heq;exact kA heq
    .rename_i heq;exact cZ (kA heq) (DD _ _ _)
    .exact bD _
   .exact bD _
def Vw(fr:Frame)(cs:List Frame)(d:Option Dying)(g:Nat)(w:World):w.drawn<=wd (early p fr cs d g w):=by
 unfold early;dsimp only
 repeat' split
 all_goals first|exact bD _|(have h:=fV ‹eJ p (choose (Question.early g)) w=uc _ _›;exact h)|exact kd ‹eJ p (choose (Question.early g)) w=Result.halt _ _›
def yI(main:Bool)(fr:Frame)(cs:List Frame)(d:Option Dying)(v:Value)(w:World):wd (doReturn p main fr cs d v w)=w.drawn:=by
 unfold doReturn
 repeat' split
 all_goals rfl
def RE(fr:Frame)(cs:List Frame)(d:Option Dying)(f:Deferred)(w:World):w.drawn<=wd (callDeferred p fr cs d f w):=by
 unfold callDeferred;refine wG ?_ ?_
 .exact bD _
 .rw[oC];split;all_goals first
   |exact lj ‹_›
   |exact kA ‹_›
   |exact cZ (kA ‹(Sem.runT p (invoke f.target f.args) w #[]).1=Result.halt _ _›) (Dh _ _ _ _ _)
   |(split<;>exact lj ‹(Sem.runT p (invoke f.target f.args) w #[]).1=uc _ _›)
def TB(main:Bool)(fr:Frame)(cs:List Frame)(d:Option Dying)(w:World):w.drawn<=wd (unwind p main fr cs d w):=by
 unfold unwind;split
 .rw[oC];split
  .exact lj ‹_›
  .exact kA ‹_›
 .exact RE _ _ _ _ _
 .split
  .exact bD _
  .split
   .exact bD _
   .split
    .exact bD _
    .split
     .split
      .exact bD _
      .split
       .exact fV ‹_›
       .exact kd ‹_›
       .exact kd ‹_›
     .split
      .exact DD _ _ _
      .exact bD _
  .split
   .exact xv (yI _ _ _ _ _ _).symm
   .rw[oC];split
    .exact cZ (lj ‹_›) (xv (yI _ _ _ _ _ _).symm)
    .exact kA ‹_›
    .exact kA ‹_›
def vg(listen:Bool)(fr:Frame)(cs:List Frame)(d:Option Dying)(s:Sem Next)(w:World):w.drawn<=wd (stepG.apply p listen fr cs d s w):=by
 unfold stepG.apply;have hr:Result.drew w (if listen=true then s.runT p w #[]else(s.run p w, #[])).1:=by
  split
  .rw[ro];exact uz _ _ _
  .exact uz _ _ _
 rw[oC];generalize (if listen=true then s.runT p w #[]else(s.run p w, #[])).1=r at hr|-;cases r with
 |ok a w'=>
  cases a;all_goals (try exact hr)
  all_goals (dsimp only;repeat' split)
  all_goals exact hr
 |halt e w'=>
  cases e with
  |unsupported u=>cases u<;>first|exact hr|exact cZ hr (Vw _ _ _ _ _)
  |fatal m=>exact cZ hr (Dh _ _ _ _ _)
  |_=>exact hr
def Wt(listen:Bool)(fr:Frame)(cs:List Frame)(d:Option Dying)(w:World):w.drawn<=wd (stepG.oper p listen fr cs d w):=by
 unfold stepG.oper;split
 .exact bD _
 .split<;>exact vg _ _ _ _ _ _
def XR(main:Bool)(listen:Bool)(fr:Frame)(cs:List Frame)(d:Option Dying)(w:World):w.drawn<=wd (stepG.exec p main listen fr cs d w):=by
 have hleave:∀jump:Option Code,w.drawn<=wd (match fr.roundOf with
   |none=>if jump matches none|some .ret then GStep.go {frame:={fr with mode:= .returning},callers:=cs,status:= .running,dying:=d} w else .ended (.stuck "exit, goto: no such block or label" (fr.pos p)) w
   |some l=>GStep.after (seen p fr.fn ((Instr.endRound l jump).runT p w #[]).2)<|match((Instr.endRound l jump).runT p w #[]).1 with
    | .ok v w=>doReturn p main fr cs d v w
    | .halt _ w=> .ended (.stuck "range over a function: no such loop" (fr.pos p)) w):=by
  intro jump;split
  .refine wG ?_ ?_<;>exact bD _
  .rw[oC];split
   .exact cZ (lj ‹_›) (xv (yI _ _ _ _ _ _).symm)
   .exact kA ‹_›
 unfold stepG.exec;dsimp only;split;all_goals (try exact bD _)
 all_goals (try exact hleave _)
 all_goals (try exact vg _ _ _ _ _ _)
 all_goals (try exact hleave none)
 all_goals (try exact hleave (some .ret))
 .split<;>exact bD _
 .cases exitTo _ _
  .exact hleave (some (.exit _))
  .exact bD _
 .cases gotoIn _ _
  .exact hleave (some (.goto _))
  .exact bD _
 .rw[oC];split
  .exact cZ (lj ‹_›) (vg _ _ _ _ _ _)
  .exact kA ‹_›
 .split
  .exact lj ‹_›
  .exact kA ‹_›
  .exact kA ‹_›
 .cases Extern.next _
  .exact bD _
  .exact vg _ _ _ _ _ _
 .refine wG (bD _) ?_;split
  .exact fV ‹_›
  .exact kd ‹_›
 .exact wG (Wt _ _ _ _ _) (bD _)
def Un(main:Bool)(g:Goroutine)(w:World)(listen:Bool):w.drawn<=wd (stepG p main g w listen):=by
 unfold stepG;split;split
 .exact Ye _ _ _
 .exact XR _ _ _ _ _ _
 .exact TB _ _ _ _ _
def sd(n:Nat):Stepped->Prop
 | .next m=>n<=m.world.drawn
 | .ended _ _=>True
def G3(gs:Array Goroutine)(rest:Rest)(w:World):sd w.drawn (look p gs rest w):=by
 unfold look;split
 .dsimp only
  repeat' split
  all_goals first|exact trivial|skip
  all_goals (have h:=fV (p:=p) (w:=w) (by assumption);exact h)
 .exact trivial
def SD{rest:Rest}{cases:Array CommCase}{w w':World}(h:waitingAt rest cases w=some w'):w.drawn<=w'.drawn:=by unfold waitingAt at h;grind
def Xe(rest:Rest)(gs:Array Goroutine)(i:Nat)(g:Goroutine)(cases:Array CommCase)(b:Bool)(shape:CommShape)(w:World):sd w.drawn (communicate p rest gs i g cases b shape w).1:=by
 unfold communicate;dsimp only
 repeat' split
 all_goals first
  |exact trivial
  |exact bD _
  |exact SD ‹_›
  |(have h:=fV (p:=p) (w:=w) (by assumption);first
     |exact h
     |(have h2:=kd (p:=p) ‹eJ p (runtimePanic (RuntimeError.plain "send on closed channel")) _=Result.halt _ _›;exact cZ h h2)
     |(have h2:=fV (p:=p) ‹eJ p (choose (Question.extern "which waiting goroutine is the partner" _)) _=uc _ _›;exact cZ h h2))
def Vx(w:World)(c:Nat):(drain w c).2.drawn=w.drawn:=by unfold drain;split<;>rfl
def EP(m:Machine)(k:Nat)(t:Timer)(a b:Nat):(retime m k t a b).2.world.drawn=m.world.drawn:=by
 unfold retime;cases t.chan with
 |none=>rfl
 |some c=>exact Vx _ _
def Tj{m m':Machine}{v:Addr}(h:timerOp.opened m v=some m'):m'.world.drawn=m.world.drawn:=by unfold timerOp.opened at h;grind
def FQ{m m':Machine}{var:Addr}{f:Nat->Timer->Value×Machine}{v:Value}{n:Nat}(hf:∀k t,(f k t).2.world.drawn=n)(h:timerOp.named m var f= .ok (v,m')):m'.world.drawn=n:=by unfold timerOp.named at h;grind
def SI{m m':Machine}{op:TimerOp}{v:Value}(h:timerOp m op= .ok (v,m')):m'.world.drawn=m.world.drawn:=by
 unfold timerOp at h;split at h
 .split at h
  .cases h;rfl
  grind
 .exact FQ (λk t=>EP _ _ _ _ _) h
 .split at h
  .rename_i ho;exact(FQ (λk t=>EP _ _ _ _ _) h).trans (Tj ho)
  .cases h
 .cases h;rfl
def Wi(m:Machine)(i:Nat)(listen:Bool):sd m.world.drawn (runT p m i listen).1:=by
 unfold runT;generalize (m.gs.swapAt! i {(default:Goroutine)with status:= .finished})=q;obtain⟨g,gs⟩:=q;dsimp only;have hs:=Un (p:=p) (i==0) g m.world listen;generalize stepG p (i==0) g m.world listen=s at hs|-;cases s with
 |ended o w es=>exact trivial
 |comm g cases b shape w es=>
  have:=Xe (p:=p) m.rest gs i g cases b shape w;revert this;generalize (communicate p m.rest gs i g cases b shape w).1=r;intro h;cases r with
  |next m'=>exact cZ hs h
  |ended _ _=>exact trivial
 |go g w es=>exact hs
 |spawn g c w es=>exact hs
 |count g w es=>
  dsimp only;split
  .exact trivial
  .exact hs
 |alone g on w es=>exact hs
 |collect g w es=>
  have:=G3 (p:=p) (gs.setIfInBounds i g) m.rest w;dsimp only;revert this;generalize look p (gs.setIfInBounds i g) m.rest w=r;intro h;cases r with
  |next m'=>exact cZ hs h
  |ended _ _=>exact trivial
 |watch g w es=>exact hs
 |newcoro g c d w es=>exact hs
 |coroswitch g c exit w es=>
  dsimp only;split
  .exact hs
  .exact hs
  .exact trivial
 |timer g op w es=>
  dsimp only;split
  .rename_i h;exact cZ hs (xv (SI h).symm)
  .exact hs
  .exact trivial
  .exact trivial
def md(n:Nat):Move->Prop
 | .goroutine m _=>n<=m.world.drawn
 | .machine s _=>sd n s
def U4(m:Machine)(k:Nat):sd m.world.drawn (serve p m k):=by
 unfold serve;split
 .exact trivial
 .exact bD _
 .dsimp only;split
  .exact trivial
  .exact bD _
def Bb{a b:Nat}{x:Move}(h:a<=b)(hx:md b x):md a x:=by
 cases x with
 |goroutine m i=>exact cZ h hx
 |machine s ops=>cases s with
  |next m=>exact cZ h hx
  |ended _ _=>exact trivial
def ze(m:Machine):md m.world.drawn (askOn p m):=by
 unfold askOn;dsimp only
 repeat' split
 all_goals first
  |exact trivial
  |(have h:=fV (p:=p) (w:=m.world) (by assumption);first
     |exact h
     |exact Bb h (U4 (p:=p) _ _)
     |exact cZ h (fV (p:=p) (by assumption))
     |exact cZ h (cZ (fV (p:=p) (by assumption)) (fV (p:=p) (by assumption)))
     |exact cZ h (cZ (fV (p:=p) (by assumption)) (cZ (fV (p:=p) (by assumption)) (fV (p:=p) (by assumption))))
     |(have h2:=fV (p:=p) ‹eJ p (choose (Question.extern "clock.wait" _)) _=uc _ _›;first
        |exact cZ h h2
        |(have h3:=fV (p:=p) ‹eJ p (choose (Question.sched _)) _=uc _ _›;first
           |exact cZ h (cZ h2 h3)
           |(have h4:=fV (p:=p) ‹eJ p (choose (Question.extern "sched.slice" _)) _=uc _ _›;exact cZ h (cZ h2 (cZ h3 h4))))))
  |skip
def JJ(m:Machine):md m.world.drawn (ask p m):=by
 unfold ask;split
 .split
  .exact trivial
  .rename_i w1 h1;have h2:=G3 (p:=p) m.gs m.rest w1;have h1:=fV h1;split
   .rename_i h3;rw[h3]at h2;exact Bb (cZ h1 h2) (ze _)
   .cases hl:look p m.gs m.rest w1 with
    |next m'=>grind
    |ended _ _=>exact trivial
  .rename_i h1;exact Bb (fV h1) (ze _)
 .exact ze m
def Wz(m:Machine):md m.world.drawn (move p m):=by
 unfold move;split
 .split
  .exact bD _
  .exact trivial
 .split
  .split
   .exact bD _
   .exact JJ _
  .exact JJ _
def SJ{m m':Machine}(h:step p m= .next m'):m.world.drawn<=m'.world.drawn:=by
 have hm:=Wz (p:=p) m;unfold step stepT at h;cases hv:move p m with
 |goroutine m1 i=>
  rw[hv]at hm h;have:=Wi (p:=p) m1 i true;rw[h]at this;exact cZ hm this
 |machine s ops=>
  rw[hv]at hm h;dsimp only at h;rw[h]at hm;exact hm
def yM:∀(n:Nat) {m m':Machine},runN p n m= .next m'->m.world.drawn<=m'.world.drawn
 |0,m,m',h=>by cases h;omega
 |n+1,m,m',h=>by
  unfold runN at h;split at h
  .rename_i m1 h1;exact cZ (SJ h1) (yM n h)
  grind
def Dm{f:FuncId}{args:Array Value}{w:World}{R:Ending->World->Prop}(h:Calls p f args w R)(hn:∀w',¬R .outgrown w'):Calls p f args w λe w'=>R e w'/\w.drawn<=w'.drawn:=by
 intro cs;obtain⟨e,w',fr,h1,h2,h3⟩:=h cs;refine⟨e,w',fr,⟨h1,?_⟩,h2,h3⟩;cases e with
 |returned v=>obtain⟨n,hn⟩:=h2;exact yM n hn
 |panicked c=>obtain⟨n,hn⟩:=h2;exact yM n hn
 |outgrown=>grind
end
end Go.Proofs.YtdnhebjljnfjaaaGreat
namespace Go.Proofs
open Go.Shelf
def Tryz.sort192_ren:Go.Shelf.Ren:=⟨λ|6=>192|15=>109|14=>242|28=>181|29=>182|20=>265|21=>266|22=>267|23=>268|24=>269|25=>270|26=>271|27=>272|46=>280|47=>235|48=>236|49=>281|50=>282|57=>285|n=>n,λ|22=>43|24=>3|25=>107|3=>3|39=>164|0=>0|53=>190|55=>140|4=>4|46=>215|45=>214|50=>102|5=>5|9=>9|66=>255|70=>259|76=>275|77=>50|n=>n,λ|n=>n⟩
def Tryz.sort192:Go.Proofs.SlLaysF.n6 aH Tryz.sort192_ren:={
 mixed:=by kernel_rfl
 f6:=⟨Tryz.f192.name,by decide,Tryz.func192.trans (congrArg some (by kernel_rfl))⟩
 f14:=⟨Tryz.f242.name,by decide,Tryz.func242.trans (congrArg some (by kernel_rfl))⟩
 f15:=Tryz.func109.trans (congrArg some (by kernel_rfl))
 f20:=⟨Tryz.f265.name,by decide,Tryz.func265.trans (congrArg some (by kernel_rfl))⟩
 f21:=⟨Tryz.f266.name,by decide,Tryz.func266.trans (congrArg some (by kernel_rfl))⟩
 f22:=⟨Tryz.f267.name,by decide,Tryz.func267.trans (congrArg some (by kernel_rfl))⟩
 f23:=⟨Tryz.f268.name,by decide,Tryz.func268.trans (congrArg some (by kernel_rfl))⟩
 f24:=⟨Tryz.f269.name,by decide,Tryz.func269.trans (congrArg some (by kernel_rfl))⟩
 f25:=⟨Tryz.f270.name,by decide,Tryz.func270.trans (congrArg some (by kernel_rfl))⟩
 f26:=⟨Tryz.f271.name,by decide,Tryz.func271.trans (congrArg some (by kernel_rfl))⟩
 f27:=⟨Tryz.f272.name,by decide,Tryz.func272.trans (congrArg some (by kernel_rfl))⟩
 f28:=Tryz.func181.trans (congrArg some (by kernel_rfl))
 f29:=Tryz.func182.trans (congrArg some (by kernel_rfl))
 f46:=⟨Tryz.f280.name,by decide,Tryz.func280.trans (congrArg some (by kernel_rfl))⟩
 f47:=Tryz.func235.trans (congrArg some (by kernel_rfl))
 f48:=Tryz.func236.trans (congrArg some (by kernel_rfl))
 f49:=⟨Tryz.f281.name,by decide,Tryz.func281.trans (congrArg some (by kernel_rfl))⟩
 f50:=⟨Tryz.f282.name,by decide,Tryz.func282.trans (congrArg some (by kernel_rfl))⟩
 f57:=⟨Tryz.f285.name,by decide,Tryz.func285.trans (congrArg some (by kernel_rfl))⟩
 t0:=Tryz.underlying0
 a0:=Tryz.isAgg0
 z0:=Tryz.sizeOf0
 v0:=Tryz.zeroValue0
 t3:=rG
 a3:=uT
 z3:=xk
 v3:=Tryz.zeroValue3
 t4:=C5
 a4:=Tryz.isAgg4
 z4:=Tryz.sizeOf4
 v4:=Tryz.zeroValue4
 t5:=Tryz.underlying5
 a5:=Tryz.isAgg5
 z5:=Tryz.sizeOf5
 v5:=Tryz.zeroValue5
 t9:=Tryz.underlying9
 a9:=Tryz.isAgg9
 z9:=Tryz.sizeOf9
 v9:=Tryz.zeroValue9
 t22:=Tryz.underlying43
 a22:=Tryz.isAgg43
 z22:=Tryz.sizeOf43
 v22:=Tryz.zeroValue43
 a24:=uT
 z24:=xk
 t25:=Tryz.underlying107
 a25:=Tryz.isAgg107
 z25:=Tryz.sizeOf107
 v25:=Tryz.zeroValue107
 t39:=Qj
 a39:=Tryz.isAgg164
 z39:=Tryz.sizeOf164
 v39:=Qk
 t45:=Ql
 a45:=Tryz.isAgg214
 z45:=Tryz.sizeOf214
 v45:=Qm
 t46:=Qn
 a46:=Tryz.isAgg215
 z46:=Tryz.sizeOf215
 v46:=Qo
 t50:=Qp
 a50:=Tryz.isAgg102
 z50:=Tryz.sizeOf102
 v50:=Qq
 t53:=Qr
 a53:=Tryz.isAgg190
 z53:=Tryz.sizeOf190
 v53:=Qs
 t55:=Qt
 a55:=Tryz.isAgg140
 z55:=Tryz.sizeOf140
 v55:=Qu
 t66:=Qv
 a66:=Tryz.isAgg255
 z66:=Tryz.sizeOf255
 v66:=Qw
 t70:=Qx
 a70:=Tryz.isAgg259
 z70:=Tryz.sizeOf259
 v70:=Qy
 t76:=Qz
 a76:=Tryz.isAgg275
 z76:=Tryz.sizeOf275
 v76:=Q0
 t77:=Q1
 a77:=Tryz.isAgg50
 z77:=Tryz.sizeOf50
 v77:=Tryz.zeroValue50}
def Tryz.sort46_ren:Go.Shelf.Ren:=⟨λ|6=>46|15=>109|14=>108|28=>181|29=>182|20=>173|21=>174|22=>175|23=>176|24=>177|25=>178|26=>179|27=>180|46=>234|47=>235|48=>236|49=>237|50=>238|57=>263|n=>n,λ|22=>25|24=>60|25=>99|3=>3|39=>164|0=>0|53=>190|55=>140|4=>4|46=>215|45=>214|50=>102|5=>5|9=>9|66=>255|70=>259|76=>275|77=>50|n=>n,λ|n=>n⟩
def Tryz.sort46:Go.Proofs.SlLaysF0.n6 aH Tryz.sort46_ren:={
 mixed:=by kernel_rfl
 f6:=⟨Tryz.f46.name,by decide,Tryz.func46.trans (congrArg some (by kernel_rfl))⟩
 f14:=⟨Tryz.f108.name,by decide,Tryz.func108.trans (congrArg some (by kernel_rfl))⟩
 f15:=Tryz.func109.trans (congrArg some (by kernel_rfl))
 f20:=⟨Tryz.f173.name,by decide,Tryz.func173.trans (congrArg some (by kernel_rfl))⟩
 f21:=⟨Tryz.f174.name,by decide,Tryz.func174.trans (congrArg some (by kernel_rfl))⟩
 f22:=⟨Tryz.f175.name,by decide,Tryz.func175.trans (congrArg some (by kernel_rfl))⟩
 f23:=⟨Tryz.f176.name,by decide,Tryz.func176.trans (congrArg some (by kernel_rfl))⟩
 f24:=⟨Tryz.f177.name,by decide,Tryz.func177.trans (congrArg some (by kernel_rfl))⟩
 f25:=⟨Tryz.f178.name,by decide,Tryz.func178.trans (congrArg some (by kernel_rfl))⟩
 f26:=⟨Tryz.f179.name,by decide,Tryz.func179.trans (congrArg some (by kernel_rfl))⟩
 f27:=⟨Tryz.f180.name,by decide,Tryz.func180.trans (congrArg some (by kernel_rfl))⟩
 f28:=Tryz.func181.trans (congrArg some (by kernel_rfl))
 f29:=Tryz.func182.trans (congrArg some (by kernel_rfl))
 f46:=⟨Tryz.f234.name,by decide,Tryz.func234.trans (congrArg some (by kernel_rfl))⟩
 f47:=Tryz.func235.trans (congrArg some (by kernel_rfl))
 f48:=Tryz.func236.trans (congrArg some (by kernel_rfl))
 f49:=⟨Tryz.f237.name,by decide,Tryz.func237.trans (congrArg some (by kernel_rfl))⟩
 f50:=⟨Tryz.f238.name,by decide,Tryz.func238.trans (congrArg some (by kernel_rfl))⟩
 f57:=⟨Tryz.f263.name,by decide,Tryz.func263.trans (congrArg some (by kernel_rfl))⟩
 t0:=Tryz.underlying0
 a0:=Tryz.isAgg0
 z0:=Tryz.sizeOf0
 v0:=Tryz.zeroValue0
 t3:=rG
 a3:=uT
 z3:=xk
 v3:=Tryz.zeroValue3
 t4:=C5
 a4:=Tryz.isAgg4
 z4:=Tryz.sizeOf4
 v4:=Tryz.zeroValue4
 t5:=Tryz.underlying5
 a5:=Tryz.isAgg5
 z5:=Tryz.sizeOf5
 v5:=Tryz.zeroValue5
 t9:=Tryz.underlying9
 a9:=Tryz.isAgg9
 z9:=Tryz.sizeOf9
 v9:=Tryz.zeroValue9
 t22:=Tryz.underlying25
 a22:=Tryz.isAgg25
 z22:=Tryz.sizeOf25
 v22:=Tryz.zeroValue25
 t25:=Tryz.underlying99
 a25:=Tryz.isAgg99
 z25:=Tryz.sizeOf99
 v25:=Tryz.zeroValue99
 t39:=Qj
 a39:=Tryz.isAgg164
 z39:=Tryz.sizeOf164
 v39:=Qk
 t45:=Ql
 a45:=Tryz.isAgg214
 z45:=Tryz.sizeOf214
 v45:=Qm
 t46:=Qn
 a46:=Tryz.isAgg215
 z46:=Tryz.sizeOf215
 v46:=Qo
 t50:=Qp
 a50:=Tryz.isAgg102
 z50:=Tryz.sizeOf102
 v50:=Qq
 t53:=Qr
 a53:=Tryz.isAgg190
 z53:=Tryz.sizeOf190
 v53:=Qs
 t55:=Qt
 a55:=Tryz.isAgg140
 z55:=Tryz.sizeOf140
 v55:=Qu
 t66:=Qv
 a66:=Tryz.isAgg255
 z66:=Tryz.sizeOf255
 v66:=Qw
 t70:=Qx
 a70:=Tryz.isAgg259
 z70:=Tryz.sizeOf259
 v70:=Qy
 t76:=Qz
 a76:=Tryz.isAgg275
 z76:=Tryz.sizeOf275
 v76:=Q0
 t77:=Q1
 a77:=Tryz.isAgg50
 z77:=Tryz.sizeOf50
 v77:=Tryz.zeroValue50}
def Tryz.sort50_ren:Go.Shelf.Ren:=⟨λ|6=>50|15=>109|14=>113|28=>181|29=>182|20=>184|21=>185|22=>186|23=>187|24=>188|25=>189|26=>190|27=>191|46=>239|47=>235|48=>236|49=>240|50=>241|57=>264|n=>n,λ|22=>26|24=>45|25=>108|3=>3|39=>164|0=>0|53=>190|55=>140|4=>4|46=>215|45=>214|50=>102|5=>5|9=>9|66=>255|70=>259|76=>275|77=>50|n=>n,λ|n=>n⟩
def Tryz.sort50:Go.Proofs.SlLaysF0.n6 aH Tryz.sort50_ren:={
 mixed:=by kernel_rfl
 f6:=⟨Tryz.f50.name,by decide,Tryz.func50.trans (congrArg some (by kernel_rfl))⟩
 f14:=⟨Tryz.f113.name,by decide,Tryz.func113.trans (congrArg some (by kernel_rfl))⟩
 f15:=Tryz.func109.trans (congrArg some (by kernel_rfl))
 f20:=⟨Tryz.f184.name,by decide,Tryz.func184.trans (congrArg some (by kernel_rfl))⟩
 f21:=⟨Tryz.f185.name,by decide,Tryz.func185.trans (congrArg some (by kernel_rfl))⟩
 f22:=⟨Tryz.f186.name,by decide,Tryz.func186.trans (congrArg some (by kernel_rfl))⟩
 f23:=⟨Tryz.f187.name,by decide,Tryz.func187.trans (congrArg some (by kernel_rfl))⟩
 f24:=⟨Tryz.f188.name,by decide,Tryz.func188.trans (congrArg some (by kernel_rfl))⟩
 f25:=⟨Tryz.f189.name,by decide,Tryz.func189.trans (congrArg some (by kernel_rfl))⟩
 f26:=⟨Tryz.f190.name,by decide,Tryz.func190.trans (congrArg some (by kernel_rfl))⟩
 f27:=⟨Tryz.f191.name,by decide,Tryz.func191.trans (congrArg some (by kernel_rfl))⟩
 f28:=Tryz.func181.trans (congrArg some (by kernel_rfl))
 f29:=Tryz.func182.trans (congrArg some (by kernel_rfl))
 f46:=⟨Tryz.f239.name,by decide,Tryz.func239.trans (congrArg some (by kernel_rfl))⟩
 f47:=Tryz.func235.trans (congrArg some (by kernel_rfl))
 f48:=Tryz.func236.trans (congrArg some (by kernel_rfl))
 f49:=⟨Tryz.f240.name,by decide,Tryz.func240.trans (congrArg some (by kernel_rfl))⟩
 f50:=⟨Tryz.f241.name,by decide,Tryz.func241.trans (congrArg some (by kernel_rfl))⟩
 f57:=⟨Tryz.f264.name,by decide,Tryz.func264.trans (congrArg some (by kernel_rfl))⟩
 t0:=Tryz.underlying0
 a0:=Tryz.isAgg0
 z0:=Tryz.sizeOf0
 v0:=Tryz.zeroValue0
 t3:=rG
 a3:=uT
 z3:=xk
 v3:=Tryz.zeroValue3
 t4:=C5
 a4:=Tryz.isAgg4
 z4:=Tryz.sizeOf4
 v4:=Tryz.zeroValue4
 t5:=Tryz.underlying5
 a5:=Tryz.isAgg5
 z5:=Tryz.sizeOf5
 v5:=Tryz.zeroValue5
 t9:=Tryz.underlying9
 a9:=Tryz.isAgg9
 z9:=Tryz.sizeOf9
 v9:=Tryz.zeroValue9
 t22:=Tryz.underlying26
 a22:=Tryz.isAgg26
 z22:=Tryz.sizeOf26
 v22:=Tryz.zeroValue26
 t25:=Tryz.underlying108
 a25:=Tryz.isAgg108
 z25:=Tryz.sizeOf108
 v25:=Tryz.zeroValue108
 t39:=Qj
 a39:=Tryz.isAgg164
 z39:=Tryz.sizeOf164
 v39:=Qk
 t45:=Ql
 a45:=Tryz.isAgg214
 z45:=Tryz.sizeOf214
 v45:=Qm
 t46:=Qn
 a46:=Tryz.isAgg215
 z46:=Tryz.sizeOf215
 v46:=Qo
 t50:=Qp
 a50:=Tryz.isAgg102
 z50:=Tryz.sizeOf102
 v50:=Qq
 t53:=Qr
 a53:=Tryz.isAgg190
 z53:=Tryz.sizeOf190
 v53:=Qs
 t55:=Qt
 a55:=Tryz.isAgg140
 z55:=Tryz.sizeOf140
 v55:=Qu
 t66:=Qv
 a66:=Tryz.isAgg255
 z66:=Tryz.sizeOf255
 v66:=Qw
 t70:=Qx
 a70:=Tryz.isAgg259
 z70:=Tryz.sizeOf259
 v70:=Qy
 t76:=Qz
 a76:=Tryz.isAgg275
 z76:=Tryz.sizeOf275
 v76:=Q0
 t77:=Q1
 a77:=Tryz.isAgg50
 z77:=Tryz.sizeOf50
 v77:=Tryz.zeroValue50}
end Go.Proofs
namespace Go.Proofs.YtdnhebjljnfjaaaGreat
section
open Go.RowKit Go.Sort Go.Shelf Go.Lib
structure Lay(w w':World):Prop where
 below:Below w.heap.size w w'
 drawn:w.drawn<=w'.drawn
def Lay.grow{w w':World}(h:Lay w w'):∃q os,w'=xw (w.drewN q) os:=by
 obtain⟨p,hp⟩:=Rg h.below;refine⟨w'.drawn-w.drawn,p.os,?_⟩;have hd:=h.drawn;have hn:w'.drawn=p.n:=by rw[hp];rfl
 rw[hp];unfold grD xw World.drewN;grind
section
variable {α:Type} [Inhabited α]
def DA{enc:α->Value}{w:World}{g n:Nat}{d:Array α}{os:Array Obj}{cur:Array Value}{t:TypeId}(hb:w.heap[g]? =some (.cells cur t (0,0))):(sortWorld enc w g 0 n d os).heap[g]? =some (.cells (putCells enc 0 d cur) t (0,0)):=by have hlt:=(Array.getElem?_eq_some_iff.1 hb).1;unfold sortWorld xw putRow mapBlock;simp only[heap_ahead];rw[Array.getElem?_append_left (by grind),Array.getElem?_modify,if_pos rfl,hb];rfl
def C9{enc:α->Value}{w:World}{g n:Nat}{d:Array α}{os:Array Obj}:w.grownBy (sortWorld enc w g 0 n d os) (some g):=by
 refine⟨rfl,rfl,rfl,?_,?_⟩
 .unfold sortWorld xw putRow mapBlock;simp
 .intro k hk hne;unfold sortWorld xw putRow mapBlock;simp only[heap_ahead];grind
end
def qe(l:List Int):LT.I.enc l=l.map (PV.int .i64):=by show nW l=_;exact vD (λn=>PV.int .i64 n) l
def T1{C:bH}{w:World}{b c:Nat}{l:List Int}{arr:Array Value}{ty:TypeId}(hL:Lent C w b c ty 1 (LT.I.enc l) arr):Holds (cw .i64) w b 0 l.toArray/\l.length<=arr.size:=by
 obtain⟨_,h2,_⟩:=hL.row (by decide);rw[qe,dt]at h2;refine⟨λj hj=> ?_,h2⟩;obtain⟨v,h3,_,h4⟩:=hL.cells j (.int .i64 l[j]) (by rw[qe,dH,c8 hj];rfl);subst h4;refine⟨?_,?_⟩
 .rw[gR];refine(cell_of_row w b j arr ty (0,0) hL.blk).trans (h3.trans ?_);grind
 .simp[World.frozen?,hL.blk]
end
end Go.Proofs.YtdnhebjljnfjaaaGreat
