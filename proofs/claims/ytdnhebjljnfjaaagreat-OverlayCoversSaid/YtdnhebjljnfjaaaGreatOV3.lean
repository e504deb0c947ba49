/- Part 3 of what the statement stands on -/
import Derived.Test.YtdnhebjljnfjaaaGreatOV2
import Derived.ChangeKeysEq
import Derived.Lib.AppendZerosOnto
import Derived.Test.YtdnhebjljnfjaaaGreatRows
import Derived.ProofKit
import Derived.Carry
import Derived.SizedLaws
import Derived.Deep.SlicePairs
import Derived.Lib.SmallJoins
import Derived.Calls
import Derived.Shelf.SlSortCmp.NoneTotal
import Derived.Ground.SlsfProg
import Derived.Shelf.SlSortCmp.WholeK
set_option linter.all false
set_option maxRecDepth 100000
set_option maxHeartbeats 8000000
open Nat renaming le_refl->bA,zero_add->gX,lt_or_ge->jC,beq->ae,ne_of_beq_eq_false->fz,ne_of_gt->j4,zero_mul->xj,ble->iP,blt->dD,zero_le->cu,le_of_ble_eq_true->jF,eq_of_beq_eq_true->bk,one_mul->nv,le_trans->cZ,mod_lt->fg,gcd->bz,gcd_comm->Cu,le_antisymm->nw,eq_zero_or_pos->nj,le_succ->C7,le_of_eq->xy
open List renaming getElem?_eq_none->eW,mem_singleton->bN,take_length->kY,length_take->fV,mem_cons->bc,lookup_cons->dF,mem_append->eA,take_left->uX,mem_map->cC,mem_filterMap->jy,mem_append_left->fy,map_map->gY,map_congr_left->mI,mem_append_right->fi,mem_cons_of_mem->dT,length_eq_zero_iff->ig,length->fh,map_cons->cO,length_map->d6,map_nil->lK,cons.injEq->lM,replicate->bS,getElem?_map->du,getElem?_eq_getElem->c7,range->bM,take_add_one->pU,foldl_append->Cs,take->bL,drop->cP,take_of_length_le->ij,range_succ->pP,map_append->dZ,all_eq_true->dW,getElem_of_mem->iF,mem_range->dR,getElem_map->ua,getElem_range->ub,length_append->dn,all_eq_false->Cv,any_eq_true->nr,any_eq_false->xw,any->io,mem_cons_self->eD,flatten->ew,getElem_mem->eG,drop_zero->mJ
open Option renaming map_some->dm
open Classical renaming choose_spec->Qj
open Go.Sem renaming run->eM,run_bind->bi,run_pure->cF
open Go.Proofs.Tryz renaming prog->aG,underlying53->Cm,isAgg3->uV,underlying3->nt,sizeOf3->xq,underlying4->C8,underlying164->Qo,zeroValue164->Qp,underlying214->Qq,zeroValue214->Qr,underlying215->Qs,zeroValue215->Qt,underlying102->Qu,zeroValue102->Qv,underlying190->Qw,zeroValue190->Qx,underlying140->Qy,zeroValue140->Qz,underlying255->Q0,zeroValue255->Q1,underlying259->Q3,zeroValue259->Q4,underlying275->Q5,zeroValue275->Q6,underlying50->Q7
open Go.Op renaming equalIn->jX
open Go.Program renaming fieldsOf->xt
open Go.Value renaming int->c6
open Go.Result renaming andThen_ok->bq,andThen->pR,ok->ud
open Bool renaming eq_iff_iff->mE,not_true->xZ,false_eq_true->ng,and_eq_true->bv,or_eq_true->jW
open Go.Instr renaming checkKey->uU
open Int renaming mul_nonneg->jA,natAbs->bh,tmod->dc,natAbs_tmod->Ct,tdiv->bp,emod_add_mul_ediv->Cy,emod_nonneg->Cz,emod_lt_of_pos->C2,lt_trichotomy->xx,mul_le_mul_of_nonneg_left->rQ,mul_comm->C3,mul_lt_mul_of_pos_right->C4
open And renaming intro->cl
open Decidable renaming of_not_not->xv
open Go.IntKind renaming i64->dr
open Go.DataW renaming trod_int->Cw
open Go.Sort renaming grow->xz
open Go.RowKit
open Go.Proofs.YtdnhebjljnfjaaaGreat.Geo
open Go.Proofs.YtdnhebjljnfjaaaGreat.Geo renaming sub->aB0,nth->aBX,bg->aB3,onP->aB4,bJ->aB5
namespace Go.Proofs.YtdnhebjljnfjaaaGreat
def frS(s:Nat)(cells:List PV)(x' y:AV):Prop:=x'= .any\/x'=y\/∃n k,y= .own s 0 n/\x'= .p (.sl n (cells.take k))
def frO(s:Nat)(cells:List PV)(o:Option Ob)(ob:Ob):Prop:=o=some ob\/∃ob0,o=some ob0/\ob.ty=ob0.ty/\ob.esz=ob0.esz/\¬(ob.esz=0/\ob.ty<=2)/\ob.cells.length=ob0.cells.length/\
 ∀(i:Nat) x,ob.cells[i]? =some x->∃y,ob0.cells[i]? =some y/\frS s cells x y
def frO.get{s:Nat}{cells:List PV}{o:Option Ob}{ob:Ob}(h:frO s cells o ob):∃ob0,o=some ob0/\ob.ty=ob0.ty/\ob.esz=ob0.esz:=by
 rcases h with h|⟨ob0,h1,h2,h3,_⟩
 .grind
 grind
def yE{F F':List AV}{L L':Sto}{N:Nat}{ty esz:Nat}(s:Nat)(cells:List PV)(hs:L s=some ⟨ty,esz,cells.map .p⟩)(hz:esz≠0)(hl:F'.length=F.length)
  (hF:∀t,t<F.length->frS s cells (F'.getD t .any) (F.getD t .any)) (hL:∀k ob,L' k=some ob->k≠s/\frO s cells (L k) ob):cV F L N F' L' N:=by
 intro C0 B wI a w ⟨⟨ρ,s1,s2,s3⟩,s4,s5,s6,s7⟩;have hdead:∀k,L k=none->L' k=none:=by
  intro k hk;cases h:L' k with
  |none=>rfl
  |some ob=>obtain⟨ob0,h0,_⟩:=(hL k ob h).2.get;grind
 have hmono:∀b o v,ai C0 B w ρ L b o v->ai C0 B w ρ L' b o v:=λb o v ⟨e1,e2,e3⟩=>⟨e1,λk c h=>hdead k (e2 k c h),e3⟩;have hone:∀x' y v,frS s cells x' y->aR ρ (ai C0 B w ρ L) y v->aR ρ (ai C0 B w ρ L') x' v:=by
  rintro x' y v (rfl|rfl|⟨n,kt,rfl,rfl⟩) hv
  .unfold aR;trivial
  .exact aR.mono (λ_ _ h=>h) hmono _ v hv
  .unfold aR at hv|-;obtain⟨q,c,hρ,hcase⟩:=hv;obtain⟨q2,c2,hρ2,hob⟩:=s1.ob s _ hs;rw[hρ]at hρ2;cases hρ2;unfold az;rcases hcase with⟨h1,h4,h5,_⟩|⟨b,o',c',h1,h4,h5,h6,h7⟩
   .subst h5;rcases hob with⟨_,⟨_,h8,_⟩|⟨h8,_⟩⟩|⟨b,arr,h8,_⟩
    .exact⟨none,0,h4,bA _,λ_=>⟨rfl,by simp_all⟩,λad e=>by cases e⟩
    .grind
    grind
   .obtain⟨rfl,rfl⟩:=h7 rfl;rcases hob with⟨h8,_⟩|⟨b2,arr,h8,h9,h10⟩
    .grind
    .rw[h1]at h8;cases h8;refine⟨_,c',h4,h5,(λe=>by cases e),λad e=> ?_⟩;cases e;refine⟨λ_=>rfl,cc.take (cc.of _ _ _ λi x hi=> ?_) kt⟩;obtain⟨u,k1,k2,k3⟩:=h10.cells i (.p x) (by grind);unfold aR at k3;refine⟨u,⟨by rw[gX,h10.cell];exact k1,λk c2 hk=> ?_,.inl h9⟩,k2,az.mono hmono x u k3⟩;cases h:L' k with
     |none=>rfl
     |some ob=>
      obtain⟨hne,h2⟩:=hL k ob h;obtain⟨ob0,h2,_⟩:=h2.get;exact absurd (s1.inj k s ob0 _ b c2 c' h2 hs hk (by rw[hρ,h1])) hne
 refine⟨⟨ρ,⟨?_,?_,?_⟩,s2,?_⟩,s4,s5,by rw[s6,hl],s7⟩
 .intro k ob hk;obtain⟨hne,h2|⟨ob0,h2,g1,g2,g3,g4,g5⟩⟩:=hL k ob hk
  .obtain⟨q,c,hρ,hcase⟩:=s1.ob k ob h2;refine⟨q,c,hρ,?_⟩;rcases hcase with⟨g1,g2⟩|⟨b,arr,g1,g2,g3⟩
   .refine .inl ⟨g1,?_⟩;rcases g2 with g2|⟨g2,g3⟩
    .exact .inl g2
    .exact .inr ⟨g2,g3.mono (λ_ _ h=>h) hmono λ_ _ _ _=>rfl⟩
   .refine .inr ⟨b,arr,g1,g2,⟨g3.blk,g3.box,g3.row,λi x hi=> ?_⟩⟩;obtain⟨v,m1,m2,m3⟩:=g3.cells i x hi;exact⟨v,m1,m2,aR.mono (λ_ _ h=>h) hmono _ v m3⟩
  .obtain⟨q,c,hρ,hcase⟩:=s1.ob k ob0 h2;refine⟨q,c,hρ,?_⟩;rcases hcase with⟨k1,⟨k2,k3,k4⟩|⟨k2,k3⟩⟩|⟨b,arr,k1,k2,k3⟩
   .grind
   .exfalso;refine g3 ⟨by omega,?_⟩;rw[g1];rcases k3 with⟨k3,_⟩|⟨k3,_⟩|⟨k3,_⟩<;>(rw[k3];decide)
   .refine .inr ⟨b,arr,k1,k2,⟨by rw[g1];exact k3.blk,λh=>by rw[g4];exact k3.box (by omega),λh=>by rw[g4,g2];exact k3.row (by omega),λi x hi=> ?_⟩⟩;obtain⟨y,y1,y2⟩:=g5 i x hi;obtain⟨v,m1,m2,m3⟩:=k3.cells i y y1;grind
 .intro k k' o o' b c c' h1 h2 h3 h4;obtain⟨o1,e1,_⟩:=(hL k o h1).2.get;obtain⟨o2,e2,_⟩:=(hL k' o' h2).2.get;exact s1.inj k k' o1 o2 b c c' e1 e2 h3 h4
 .intro k k' o o' c c' h1 h2 h3 h4 h5 h6 h7;obtain⟨o1,e1,a1,a2⟩:=(hL k o h1).2.get;obtain⟨o2,e2,b1,b2⟩:=(hL k' o' h2).2.get;refine s1.mpi k k' o1 o2 c c' e1 e2 (by omega) (by omega) h5 h6 ?_;unfold mC at h7|-;grind
 .intro t;rcases jC t F.length with h|h
  .grind
  .rw[List.getD_eq_getElem?_getD,eW (by omega)];show aR _ _ .any _;unfold aR;trivial
noncomputable section
def tL(d:Nat)(F:Frm)(L:aJ):Option (List Prop×Frm×aJ):=match F.at d with
 | .ownx s n=>(match L.at s with
   |some (.arr _ ez cs)=>(match bJ (avs cs),ae ez 0 with
    |some _,false=>some ([],(d,.sl n cs)::F,(s,none)::L)
    |_,_=>none)
   |_=>none)
 | .own s _ n=>(match L.at s with
   |some (.row _ lt l)=>some ([n=l.length],(d,.lst lt l)::F,(s,none)::L)
   |_=>none)
 |_=>none
def vp{L:aJ}{s:Nat}{ob:SOb}(hs:L.at s=some ob)(hf:ob.flat=true){k:Nat}{o:Ob}(h:aJ.fn ((s,none)::L) k=some o):k≠aD s/\L.fn k=some o:=by have h1:=(bI.flat (σ:=L.at) (rd:=[]) (W:=[(s,none)]) λq hq=>by rw[bN.1 hq,hs];exact⟨hf,rfl⟩).2.2;rw[aJ.ow]at h1;have h2:aJ.fn ((s,none)::L)=aX L.fn [(aD s,none)] :=h1.symm;rw[h2]at h;unfold aX at h;grind
def Gb{n d t:Nat}{v:SV}{F:Frm}(ht:t<n):(Frm.av n ((d,v)::F)).getD t .any=if t=d then v.av else(F.av n).getD t .any:=by rw[Frm.fY ht,Frm.fY ht,Frm.cX];split<;>rfl
def SH{n N d:Nat}{F F':Frm}{L L':aJ}{ps:List Prop}(h:tL d F L=some (ps,F',L'))(hp:∀p∈ps,p):cV (F.av n) L.fn N (F'.av n) L'.fn N:=by
 unfold tL at h;split at h
 .rename_i s m hd;split at h
  case h_2=>cases h
  rename_i ty ez cs hs;split at h<;>cases h;rename_i q hq hz;refine yE (aD s) q (ty:=ty) (esz:=ez) ?_ (fz hz) (by rw[Frm.d7,Frm.d7]) ?_ λk ob hk=>⟨(vp hs rfl hk).1,.inl (vp hs rfl hk).2⟩
  .show Sg.a L.at (aD s)=_;rw[Sg.bW,hs,<-fJ hq];rfl
  .intro t ht;rw[Frm.d7]at ht;rw[Gb ht];by_cases e:t=d
   .subst e;rw[if_pos rfl,Frm.fY ht,hd];exact .inr (.inr ⟨m,q.length,rfl,by show(match bJ (avs cs)with|some q=>AV.p (.sl m q)|none=> .any)=_;rw[hq,kY]⟩)
   .rw[if_neg e];exact .inr (.inl rfl)
 .rename_i s t0 m hd;split at h<;>cases h;rename_i ty lt l hs;have hm:m=l.length:=hp _ (by grind);refine yE (aD s) (lt.enc l) (ty:=ty) (esz:=lt.w) ?_ (j4 lt.gv) (by rw[Frm.d7,Frm.d7]) ?_ λk ob hk=>⟨(vp hs rfl hk).1,.inl (vp hs rfl hk).2⟩
  .show Sg.a L.at (aD s)=_;rw[Sg.bW,hs];rfl
  .intro t ht;rw[Frm.d7]at ht;rw[Gb ht];by_cases e:t=d
   .subst e;rw[if_pos rfl,Frm.fY ht,hd];exact .inr (.inr ⟨m,(lt.enc l).length,rfl,by rw[kY,hm];rfl⟩)
   .rw[if_neg e];exact .inr (.inl rfl)
 .cases h
def CF(L:aJ):SV->Option (List Prop×SV×Nat)
 | .ownx s n=>(match L.at s with
   |some (.arr _ ez cs)=>(match bJ (avs cs),ae ez 0 with
    |some _,false=>some ([],.sl n cs,s)
    |_,_=>none)
   |_=>none)
 | .own s _ n=>(match L.at s with
   |some (.row _ lt l)=>some ([n=l.length],.lst lt l,s)
   |_=>none)
 | .owns s _ 0 n=>(match L.at s with
   |some (.row _ lt l)=>some ([n<=l.length],.lst lt (l.take n),s)
   |_=>none)
 |_=>none
def UE{L:aJ}{v w:SV}{s:Nat}{ps:List Prop}(h:CF L v=some (ps,w,s))(hp:∀p∈ps,p):∃ob,L.at s=some ob/\ob.flat=true/\∃ty esz,∃cells:List PV,∃n,ob.ob s=⟨ty,esz,cells.map .p⟩/\esz≠0/\v.av= .own (aD s) 0 n/\(∃kt,w.av= .p (.sl n (cells.take kt)))/\(∀ty cs,ob≠ .box ty cs):=by
 unfold CF at h;split at h
 .rename_i s m;split at h
  case h_2=>cases h
  rename_i ty ez cs hs;split at h<;>cases h;rename_i q hq hz;exact⟨_,hs,rfl,ty,ez,q,m,by rw[<-fJ hq];rfl,fz hz,rfl,⟨q.length,by show(match bJ (avs cs)with|some q=>AV.p (.sl m q)|none=> .any)=_;rw[hq,kY]⟩,λ_ _=>nofun⟩
 .rename_i s t0 m;split at h<;>cases h;rename_i ty lt l hs;have hm:m=l.length:=hp _ (by grind);exact⟨_,hs,rfl,ty,lt.w,lt.enc l,m,rfl,j4 lt.gv,rfl,⟨(lt.enc l).length,by rw[kY,hm];rfl⟩,λ_ _=>nofun⟩
 .rename_i s t0 m;split at h<;>cases h;rename_i ty lt l hs;have hm:m<=l.length:=hp _ (by grind);refine⟨_,hs,rfl,ty,lt.w,lt.enc l,m,rfl,j4 lt.gv,?_,⟨m*lt.w,?_⟩,λ_ _=>nofun⟩
  .show AV.own (aD s) (0*_) m=_;rw[xj]
  .rw[lt.wide.take];show AV.p (.sl (l.take m).length _)=_;rw[fV,Nat.min_eq_left hm]
 .cases h
def tM(k i:Nat)(L:aJ):Option (List Prop×aJ):=match L.at k with
 |some (.box ty cs)=>(match cs[i]?,iP ty 2 with
  |some v,false=>(match CF L v with
   |some (ps,w,s)=>some (ps,(k,some (.box ty (cs.set i w)))::(s,none)::L)
   |none=>none)
  |_,_=>none)
 |_=>none
def SI{n N k i:Nat}{F:Frm}{L L':aJ}{ps:List Prop}(h:tM k i L=some (ps,L'))(hp:∀p∈ps,p):cV (F.av n) L.fn N (F.av n) L'.fn N:=by
 unfold tM at h;split at h
 case h_2=>cases h
 rename_i ty cs hk;split at h
 case h_2=>cases h
 rename_i v hv hty;split at h<;>cases h;rename_i w s hf;obtain⟨ob,e1,e2,tys,esz,cells,m,e3,e4,e5,e6,e7⟩:=UE hf hp;have hks:k≠s:=λe=>by grind
 have hty:¬ty<=2:=λhh=>by rw[Nat.ble_eq_true_of_le hh]at hty;cases hty
 have up:aJ.fn ((k,some (.box ty (cs.set i w)))::(s,none)::L)=aX L.fn [(aD k,some ((SOb.box ty (cs.set i w)).ob k)),(aD s,none)] :=by
  have h1:=(bI.flat (σ:=L.at) (rd:=[]) (W:=[(k,some (.box ty (cs.set i w))),(s,none)]) λq hq=>by
   rcases bc.1 hq with rfl|hq
   .rw[hk];exact⟨rfl,rfl⟩
   .rw[bN.1 hq,e1];exact⟨e2,rfl⟩).2.2
  rw[aJ.ow]at h1;exact h1.symm
 refine yE (aD s) cells (ty:=tys) (esz:=esz) ?_ e4 rfl (λt ht=> .inr (.inl rfl)) λj ob' hj=> ?_
 .show Sg.a L.at (aD s)=_;rw[Sg.bW,e1,dm,e3]
 .rw[up]at hj;unfold aX at hj;rw[dF,dF]at hj;by_cases h1:j=aD k
  .subst h1;rw[beq_iff_eq.2 rfl]at hj;cases hj;refine⟨λe=>hks (eH e),.inr ⟨(SOb.box ty cs).ob k,by show Sg.a L.at (aD k)=_;rw[Sg.bW,hk];rfl,rfl,rfl,?_,?_,?_⟩⟩
   .rintro⟨_,hh⟩;exact hty hh
   .show(avs (cs.set i w)).length=(avs cs).length;rw[fW,fW,List.length_set]
   .intro a x hx;have hx:(avs (cs.set i w))[a]? =some x:=hx;rw[vw,List.getElem?_set]at hx;by_cases ha:i=a
    .subst ha;rw[if_pos rfl,if_pos (by grind)]at hx;cases hx;exact⟨v.av,by show(avs cs)[i]? =_;rw[qI,hv];rfl,.inr (by grind)⟩
    .rw[if_neg ha]at hx;exact⟨x,hx,.inr (.inl rfl)⟩
  .rw[beq_eq_false_iff_ne.2 h1]at hj;by_cases h2:j=aD s
   .grind
   .rw[beq_eq_false_iff_ne.2 h2]at hj;exact⟨h2,.inl hj⟩
def S0{k i:Nat}{L L':aJ}{ps:List Prop}(h:tM k i L=some (ps,L')):∃q,L'=q++L:=by
 unfold tM at h;split at h
 case h_2=>cases h
 split at h
 case h_2=>cases h
 split at h<;>cases h;exact⟨[(_,_),(_,_)],rfl⟩
def Bg(k:Nat):Nat->List SV->List (Nat×Nat)
 |_,[] =>[]
 |i,.lst _ _::r=>(k,i)::Bg k (i+1) r
 |i,_::r=>Bg k (i+1) r
def CH:List (Nat×SOb)->List (Nat×Nat)
 |[] =>[]
 |(k,.box _ cs)::r=>Bg k 0 cs++CH r
 |_::r=>CH r
def pC:List (Nat×Nat)->aJ->List Prop×aJ
 |[],L=>([],L)
 |d::ds,L=>match tM d.1 d.2 L with
  |some (ps,L')=>(match pC ds L' with|(qs,r)=>(ps++qs,r))
  |none=>pC ds L
def yX{n N:Nat}{F:Frm}:∀{ds:List (Nat×Nat)} {L L':aJ} {ps:List Prop},pC ds L=(ps,L')->(∀p∈ps,p)->cV (F.av n) L.fn N (F.av n) L'.fn N
 |[],L,L',ps,h,_=>by cases h;exact cV.rfl
 |d::ds,L,L',ps,h,hp=>by
  unfold pC at h;split at h
  .rename_i p1 L1 h1;split at h;rename_i qs r h2;cases h;have w1:=SI (n:=n) (N:=N) (F:=F) h1 λp hq=>hp p (by grind);have w2:=yX (n:=n) (N:=N) (F:=F) h2 λp hq=>hp p (by grind);exact λC0 B wI a w hst=>w2 C0 B wI a w (w1 C0 B wI a w hst)
  .exact yX h hp
def yq:∀{ds:List (Nat×Nat)} {L L':aJ} {ps:List Prop},pC ds L=(ps,L')->∃q,L'=q++L
 |[],L,L',ps,h=>by cases h;simp_all
 |d::ds,L,L',ps,h=>by
  unfold pC at h;split at h
  .rename_i p1 L1 h1;split at h;rename_i qs r h2;obtain⟨q,e2⟩:=S0 h1;obtain⟨q',e4⟩:=yq h2;grind
  .exact yq h
def CG:Frm->List Nat
 |[] =>[]
 |(d,.lst _ _)::r=>d::CG r
 |_::r=>CG r
def pH:List Nat->Frm->aJ->List Prop×Frm×aJ
 |[],F,L=>([],F,L)
 |d::ds,F,L=>match tL d F L with
  |some (ps,F',L')=>(match pH ds F' L' with|(qs,r)=>(ps++qs,r))
  |none=>pH ds F L
def yp{n N:Nat}:∀{ds:List Nat} {F F':Frm} {L L':aJ} {ps:List Prop},pH ds F L=(ps,F',L')->(∀p∈ps,p)->cV (F.av n) L.fn N (F'.av n) L'.fn N
 |[],F,F',L,L',ps,h,_=>by cases h;exact cV.rfl
 |d::ds,F,F',L,L',ps,h,hp=>by
  unfold pH at h;split at h
  .rename_i p1 F1 L1 h1;split at h;rename_i qs r h2;cases h;have w1:=SH (n:=n) (N:=N) h1 λp hq=>hp p (by grind);have w2:=yp (n:=n) (N:=N) h2 λp hq=>hp p (by grind);exact λC0 B wI a w hst=>w2 C0 B wI a w (w1 C0 B wI a w hst)
  .exact yp h hp
def Sy{d:Nat}{F F':Frm}{L L':aJ}{ps:List Prop}(h:tL d F L=some (ps,F',L')):(∃p,F'=p++F)/\∃q,L'=q++L:=by
 unfold tL at h;split at h
 .split at h
  case h_2=>cases h
  split at h<;>cases h;exact⟨⟨[_],rfl⟩,⟨[_],rfl⟩⟩
 .split at h<;>cases h;exact⟨⟨[_],rfl⟩,⟨[_],rfl⟩⟩
 .cases h
def za:∀{ds:List Nat} {F F':Frm} {L L':aJ} {ps:List Prop},pH ds F L=(ps,F',L')->(∃p,F'=p++F)/\∃q,L'=q++L
 |[],F,F',L,L',ps,h=>by cases h;simp_all
 |d::ds,F,F',L,L',ps,h=>by
  unfold pH at h;split at h
  .rename_i p1 F1 L1 h1;split at h;rename_i qs r h2;obtain⟨⟨p,e1⟩,⟨q,e2⟩⟩:=Sy h1;obtain⟨⟨p',e3⟩,⟨q',e4⟩⟩:=za h2;grind
  .exact za h
end
noncomputable section
inductive Ann:Type 1
 |mk (Y:Type) (wit:Frm->aJ->Option Y) (rk:List Nat) (inv:Y->List Prop) (upd:Y->Frm) (obs:Y->List (Nat×SOb)) (mu:Y->Nat) (inner:Y->List (Nat×Ann))
def Ld:List (Nat×Ann)->Nat->Option Ann
 |[],_=>none
 |(k,a)::l,x=>match ae x k with|true=>some a|false=>Ld l x
def asg:Code->List Nat
 | .region _ ops _=>ops.toList.filterMap (·.dst)
 | .seq a b=>asg a++asg b
 | .cond _ t e=>asg t++asg e
 | .block _ c=>asg c
 | .loop c=>asg c
 | .scope c=>asg c
 |_=>[]
def nN:Code->Option Nat
 | .region id _ _=>some id
 | .seq a b=>(match nN a with|some k=>some k|none=>nN b)
 | .cond _ t e=>(match nN t with|some k=>some k|none=>nN e)
 | .block _ c=>nN c
 | .loop c=>nN c
 | .scope c=>nN c
 |_=>none
def Br(A:List (Nat×Ann))(c:Code)(j:Nat):Option Ann:=match nN c with
 |some k=>Ld A (k+j)
 |none=>none
def gi(N:Nat):List Nat->Nat
 |[] =>N
 |s::l=>(match dD (ncl s) (gi N l)with|true=>gi N l|false=>ncl s+1)
abbrev jl:=Exit->Frm->aJ->Nat->Fm
def Bu(X:Cx)(n:Nat)(raw:Nat->Nat->Bool)(id:Nat)(ops:List Oper)(draw:Bool)(F:Frm)(L:aJ)(N:Nat)(K:Frm->aJ->Fm):Fm:=match draw with
 |true=>(match X.P.follows .mixedOrders,qi ops (oq ops),dOk ops n with
  |true,true,true=>dY X n (raw id) N (ops.map (·.dst)) ops 0 F L [] λF L log=>(match nF (oq ops) log with|true=>K F L|false=> .stuck (id+100000))
  |_,_,_=> .stuck (id+200000))
 |false=>(match gOk ops with
  |true=>dY X n (raw id) N (ops.map (·.dst)) ops 0 F L [] λF L _=>K F L
  |false=> .stuck (id+300000))
def t8(n:Nat)(F:Frm)(L:aJ)(N:Nat)(rk:List Nat)(upd:Frm)(obs:List (Nat×SOb))(qs:List Prop)(F':Frm)(L':aJ):Fm:=match pH (CG upd) F' L' with
 |(pz,F0,La)=>match pC (CH obs) La with
  |(pb,L0)=>match oy NM 100 (A0 L0) F0 L0 with
   |(p0,F1,L1)=>(match cq (λq:Nat×SV=>mem ((F'.take (F'.length-F.length)).map (·.1)) q.1) (F1.take (F1.length-F'.length)),wZ n L N (gi N rk) rk upd obs F1 L1 with
    |true,some ps=>needs (pz++(pb++(p0++(ps++qs)))) .tt
    |_,_=> .stuck 400000)
def exq{Y:Type}(w:Option Y)(f:Y->Fm):Fm:=match w with
 |some y=>f y
 |none=> .ex Y f
def yv{Y:Type}{w:Option Y}{f:Y->Fm}(h:(exq w f).holds):∃y,(f y).holds:=by
 cases w with
 |some y=>exact⟨y,h⟩
 |none=>exact h
def Ip(A:List (Nat×Ann))(c:Code):Nat->Option Nat
 |0=>none
 |k+1=>(match Br A c (30001+k)with|some _=>some (k+1)|none=>Ip A c k)
def unr(body:jl->Frm->aJ->Nat->Fm)(Q:jl):Nat->Frm->aJ->Nat->Fm
 |0,_,_,_=> .stuck 810000
 |k+1,F,L,N=>body (λe F' L' N'=>match e with| .normal=>unr body Q k F' L' N'|e=>Q e F' L' N') F L N
abbrev Inl:=Nat->List SV->Frm->Nat->aJ->Nat->(SV->aJ->Nat->Fm)->Fm
def wW:Inl:=λ_ _ _ _ _ _ _=> .stuck 990000
inductive Spl where
 |call (f:Nat) (args:List Operand)
 |isnil (t:TypeId) (x y:Operand)
 |clo (t:Nat) (args:List Operand)
def kp(X:Cx)(o:Oper):Option Spl:=match o.guard,o.op with
 |none,.call {callee:= .value (.func f),args, .. }=>(match X.inl f with|true=>some (.call f args.toList)|false=>none)
 |none,.call {callee:= .value (.tmp t),args, .. }=>(match X.inl 1000045 with|true=>some (.clo t args.toList)|false=>none)
 |none,.binOp .eql t x y _=>(match X.inl 1000044,br 0 [] y with|true,.nil=>some (.isnil t x y)|_,_=>none)
 |_,_=>none
def tS(X:Cx):List Oper->Option (List Oper×Oper×Spl×List Oper)
 |[] =>none
 |o::l=>(match kp X o with
  |some s=>some ([],o,s,l)
  |none=>(match tS X l with
   |some (pre,q,s,post)=>some (o::pre,q,s,post)
   |none=>none))
def SU{X:Cx}{o:Oper}{f:Nat}{args:List Operand}(h:kp X o=some (.call f args)):∃c:Call,o.op= .call c/\c.callee= .value (.func f)/\c.args.toList=args:=by
 unfold kp at h;split at h
 .rename_i hg ho;split at h<;>cases h;exact⟨_,ho,rfl,rfl⟩
 .split at h<;>cases h
 .split at h<;>cases h
 .cases h
def TN{X:Cx}{o:Oper}{t:Nat}{args:List Operand}(h:kp X o=some (.clo t args)):∃c:Call,o.op= .call c/\c.callee= .value (.tmp t)/\c.args.toList=args:=by
 unfold kp at h;split at h
 .split at h<;>cases h
 .rename_i hg ho;split at h<;>cases h;exact⟨_,ho,rfl,rfl⟩
 .split at h<;>cases h
 .cases h
def TM{X:Cx}{o:Oper}{t:TypeId}{x y:Operand}(h:kp X o=some (.isnil t x y)):∃t',o.op= .binOp .eql t x y t':=by
 unfold kp at h;split at h
 .split at h<;>cases h
 .split at h<;>cases h
 .rename_i hg ho;split at h<;>cases h;exact⟨_,ho⟩
 .cases h
def yF{X:Cx}{o:Oper}{s:Spl}(h:kp X o=some s):o.guard=none:=by
 unfold kp at h;split at h
 .assumption
 .assumption
 .assumption
 .cases h
def uo{X:Cx}:∀{ops pre:List Oper} {o:Oper} {s:Spl} {post:List Oper},tS X ops=some (pre,o,s,post)->ops=pre++o::post/\kp X o=some s
 |[],_,_,_,_,h=>by cases h
 |x::l,pre,o,s,post,h=>by
  unfold tS at h;split at h
  .rename_i h1;cases h;exact⟨rfl,h1⟩
  .split at h
   .rename_i h1;cases h;obtain⟨e,h2⟩:=uo h1;exact⟨by rw[e];rfl,h2⟩
   .cases h
def qq(X:Cx)(I:Inl):Prop:=∀(f:Nat) (xs:List SV) (F:Frm) (n:Nat) (L:aJ) (N:Nat) (K:SV->aJ->Nat->Fm) (o:Oper) (c:Call) (fo:Operand) (caps:List AV),o.op= .call c->c.callee= .value fo->xX (dA (F.av n) fo) f caps->c.args.toList.map (dA (F.av n))++caps=avs xs->(I f xs F n L N K).holds->
 cY X.P o (F.av n) L.fn N λFA LA N'=>∃r L',r.ok/\FA=cE (F.av n) o.dst r.av/\LA=L'.fn/\dw L L'/\(K r L' N').holds
def FT(X:Cx):qq X wW:=λ_ _ _ _ _ _ _ _ _ _ _ _ _ _ _ h=>h.elim
abbrev ju:=Nat->List Oper->Bool->Frm->aJ->Nat->(Frm->aJ->Nat->Fm)->Option Fm
def lc:ju:=λ_ _ _ _ _ _ _=>none
structure Inls where
 call:Inl
 hook:ju
def nZ:Code->List (Nat×Array Oper×Bool)
 | .region id ops draw=>[(id,ops,draw)]
 | .seq a b=>nZ a++nZ b
 | .cond _ t e=>nZ t++nZ e
 | .block _ c=>nZ c
 | .loop c=>nZ c
 | .scope c=>nZ c
 |_=>[]
def nW(X:Cx)(I:Inls)(n:Nat)(raw:Nat->Bool)(ds:List (Option Nat)):Nat->List Oper->Nat->Frm->aJ->Nat->(Frm->aJ->Nat->Fm)->Fm
 |0,ops,i,F,L,N,K=>dY X n raw N ds ops i F L [] λF L _=>K F L N
 |k+1,ops,i,F,L,N,K=>(match tS X ops with
  |some (pre,o,.call f args,post)=>dY X n raw N ds pre i F L [] λF L _=>I.call f (args.map (br n F)) F n L (N+(i+pre.length)) λr L' N'=>nW X I n raw ds k post (i+(pre.length+1)) (dj n F o.dst r) L' N' K
  |some (pre,o,.clo t args,post)=>dY X n raw N ds pre i F L [] λF L _=>(match br n F (.tmp t)with
   | .fn f [] caps=>I.call f (args.map (br n F)++caps) F n L (N+(i+pre.length)) λr L' N'=>nW X I n raw ds k post (i+(pre.length+1)) (dj n F o.dst r) L' N' K
   |_=> .stuck 995001)
  |some (pre,o,.isnil t x y,post)=>dY X n raw N ds pre i F L [] λF L _=>(match br n F x,br n F y,(bm X.P t).isSome with
   | .lst _ l,.nil,true=> .both (.imp (l=[]) (nW X I n raw ds k post (i+(pre.length+1)) (dj n F o.dst (.lit true)) L (N+(i+pre.length)) K)) (nW X I n raw ds k post (i+(pre.length+1)) (dj n F o.dst (.lit false)) L (N+(i+pre.length)) K)
   |_,_,_=> .stuck 995000)
  |none=>dY X n raw N ds ops i F L [] λF L _=>K F L N)
def vc(X:Cx)(I:Inls)(n:Nat)(raw:Nat->Nat->Bool):Code->(Nat->Bool)->List (Nat×Ann)->jl->Frm->aJ->Nat->Fm
 | .skip,_,_,Q,F,L,N=>Q .normal F L N
 | .region id ops draw,_,_,Q,F,L,N=>(match I.hook id ops.toList draw F L N λF L N=>Q .normal F L N with
  |some f=>f
  |none=>(match draw,tS X ops.toList with
   |false,some _=>nW X I n (raw id) (ops.toList.map (·.dst)) 6 ops.toList 0 F L N λF L N=>Q .normal F L (N+ops.size)
   |_,_=>Bu X n raw id ops.toList draw F L N λF L=>Q .normal F L (N+ops.size)))
 | .seq a b,al,A,Q,F,L,N=>(match Br A b 10000 with
   |none=>vc X I n raw a al A (λe F L N=>match e with| .normal=>vc X I n raw b al A Q F L N|e=>Q e F L N) F L N
   |some (.mk Y wit rk inv upd obs _ inner)=>(match cq al (iD F rk N F)with
    |true=> .both
     (vc X I n raw a (mem (asg a)) A (λe F1 L1 N1=>match e with| .normal=>exq (wit F1 L1) λy=>t8 n F L N rk (upd y) (obs y) (inv y) F1 L1|e=>Q e F1 L1 N1) F L N)
     (.all Y λy=>CD (inv y) (match cq (λq=>mem (asg a++iD F rk N F) q.1) (upd y)with
       |true=>vc X I n raw b al (inner y++A) Q (iy F (upd y) (asg a++iD F rk N F)) (gT L (obs y)) (gi N rk)
       |false=> .stuck 500000))
    |false=> .stuck 600000))
 | .cond c t e,al,A,Q,F,L,N=>(match br n F c with
   | .lit true=>vc X I n raw t al A Q F L N
   | .lit false=>vc X I n raw e al A Q F L N
   | .prop p _=> .both (.imp p (vc X I n raw t al A Q F L N)) (.imp (¬p) (vc X I n raw e al A Q F L N))
   | .bool b=> .both (.imp (b=true) (vc X I n raw t al A Q F L N)) (.imp (b=false) (vc X I n raw e al A Q F L N))
   |_=> .stuck 700000)
 | .block id c,al,A,Q,F,L,N=>vc X I n raw c al A (λe F L N=>match e with| .exit id'=>(match ae id' id with|true=>Q .normal F L N|false=>Q (.exit id') F L N)|e=>Q e F L N) F L N
 | .loop c,al,A,Q,F,L,N=>(match Br A c 0 with
   |none=>(match Ip A c 6 with
    |some k=>unr (λQ F L N=>vc X I n raw c al A Q F L N) Q k F L N
    |none=> .stuck 800000)
   |some (.mk Y wit rk inv upd obs mu inner)=>(match cq al (iD F rk N F)with
    |true=> .both
     (exq (wit F L) λy=>t8 n F L N rk (upd y) (obs y) (inv y) F L)
     (.all Y λx=>CD (inv x) (match cq (λq=>mem (asg c++iD F rk N F) q.1) (upd x)with
       |true=>vc X I n raw c (mem (asg c)) (inner x++A) (λe F1 L1 N1=>match e with| .normal=>exq (wit F1 L1) λy=>t8 n F L N rk (upd y) (obs y) (inv y++[mu y<mu x]) F1 L1|e=>Q e F1 L1 N1) (iy F (upd x) (asg c++iD F rk N F)) (gT L (obs x)) (gi N rk)
       |false=> .stuck 500000))
    |false=> .stuck 600000))
 | .exit id,_,_,Q,F,L,N=>Q (.exit id) F L N
 | .ret,_,_,Q,F,L,N=>Q .ret F L N
 | .scope c,al,A,Q,F,L,N=>vc X I n raw c al A (λe F L N=>match e with| .goto _=> .stuck 910001|e=>Q e F L N) F L N
 | .label _,_,_,Q,F,L,N=>Q .normal F L N
 |_,_,_,_,_,_,_=> .stuck 900000
def eC.mono{n:Nat}{S T:Nat->Prop}{F:Frm}{L:aJ}{FA:List AV}{LA:Sto}{G H:Frm->aJ->Prop}(hS:∀d,S d->T d)(hG:∀F L,F.ok->G F L->H F L)(h:eC n S F L FA LA G):eC n T F L FA LA H:=by obtain⟨F',L',a,b,c,d,e,f⟩:=h;exact⟨F',L',a,b,c,d.mono hS,e,hG F' L' c f⟩
def least{p:Nat->Prop}(h:∃k,p k):∃k,p k/\∀j,p j->k<=j:=by
 obtain⟨k,hk⟩:=h;induction k using Nat.strongRecOn with
 |ind k ih=>
  grind
def Eh{F upd:Frm}{hav:List Nat}:Pre (λd=>d∈upd.map (·.1)\/d∈hav) F (iy F upd hav):=by refine⟨upd++(hav.map λd=>(d,SV.any)),by unfold iy;simp,λq hq=> ?_⟩;grind
def yo{L:aJ}{obs:List (Nat×SOb)}:dw L (gT L obs):=⟨_,rfl⟩
def Fp{F upd:Frm}{hav:List Nat}(hF:F.ok)(hu:∀q∈upd,q.2.ok):(iy F upd hav).ok:=by
 intro t;unfold iy;rw[Frm.lS,Frm.lS];split
 .split
  .rename_i h;exact hu _ (wn h)
  .rw[JK];split<;>trivial
 .exact hF t
def HO{n:Nat}{F':Frm}:∀{upd:Frm} {ps:List Prop} {r:Rm},q9 n F' upd=some (ps,r)->∀q∈upd,q.2.ok
 |[],ps,r,_,q,hq=>by cases hq
 |(d,v)::upd,ps,r,h,q,hq=>by
  unfold q9 at h;split at h<;>cases h;rename_i p1 m1 p2 m2 h1 h2 h3 h4;rcases bc.1 hq with rfl|hq
  .exact SV.ji h2
  .exact HO h4 q hq
def AO{n:Nat}{F F' upd:Frm}{L L':aJ}{N N':Nat}{rk:List Nat}{obs:List (Nat×SOb)}{hav:List Nat}{qs:List Prop}(h:(t8 n F L N rk upd obs qs F' L').holds)
  (hF:Pre (λd=>d∈hav) F F') (hbad:∀d∈iD F rk N F,d∈hav) (hL:dw L L'):
  cV (F'.av n) L'.fn N' ((iy F upd hav).av n) (gT L obs).fn (gi N rk)/\(∀p∈qs,p)/\∀q∈upd,q.2.ok:=by
 unfold t8 at h;split at h;rename_i pz F0 La hz;split at h;rename_i pb L0 hb;split at h;rename_i p0 F1 L1 h0;split at h
 .rename_i ps hc hm;have hp:=(j8 h).1;obtain⟨⟨pa,ea1⟩,⟨qa,ea2⟩⟩:=yZ h0;obtain⟨⟨pb',eb1⟩,⟨qb,eb2⟩⟩:=za hz;obtain⟨qc,ec2⟩:=yq hb;obtain⟨p,e1⟩:∃p,F1=p++F':=by grind
  obtain⟨q,e2⟩:∃q,L1=q++L':=by grind
  have wz1:=yp (n:=n) (N:=N') hz λp hpp=>hp p (by grind);have wz2:=yX (n:=n) (N:=N') (F:=F0) hb λp hpp=>hp p (by grind);have wz:cV (F'.av n) L'.fn N' (F0.av n) L0.fn N':=λC0 B wI a w hst=>wz2 C0 B wI a w (wz1 C0 B wI a w hst);have hp:∀p∈p0++(ps++qs),p:=λp hpp=>hp p (by grind);have hF1:Pre (λd=>d∈hav) F F1:=by
   obtain⟨pre,e3,hpre⟩:=hF;refine⟨p++pre,by grind,λr hr=> ?_⟩;rcases eA.1 hr with hr|hr
   .have:=dG hc r (by rw[e1,show(p++F').length-F'.length=p.length by simp,uX];exact hr);obtain⟨r',h1,h2⟩:=cC.1 ((mem_iff _ _).1 this);grind
   .grind
  have hL1:dw L L1:=by obtain⟨pre,e3⟩:=hL;exact⟨q++pre,by grind⟩
  have hps:∀p∈ps,p:=λp hpp=>hp p (by grind);refine⟨?_,λp hpp=>hp p (by grind),?_⟩
  .rcases yM (n:=n) h0 (λp hpp=>hp p (by grind)) N' with⟨_,f1,f2⟩|w
   .have:=EX (N':=N') hm hps hF1 hbad hL1;rw[f1,f2]at this;exact λC0 B wI a w' hst=>this C0 B wI a w' (wz C0 B wI a w' hst)
   .have:=EX (N':=NM) hm hps hF1 hbad hL1;exact λC0 B wI a w' hst=>this C0 B wI a w' (w C0 B wI a w' (wz C0 B wI a w' hst))
  unfold wZ at hm;split at hm
  .cases hm
  .rename_i h1;exact HO h1
 .exact h.elim
def GM{X:Cx}(hX:X.Ok){n:Nat}{raw:Nat->Nat->Bool}{id:Nat}{ops:Array Oper}{draw:Bool}{F:Frm}{L:aJ}{N:Nat}{K:Frm->aJ->Fm}(hF:F.ok)(h:(Bu X n raw id ops.toList draw F L N K).holds):
  xV X.P draw ops.toList (F.av n) L.fn N λFA LA=>eC n (λd=>d∈asg (.region id ops draw)) F L FA LA λF' L'=>(K F' L').holds:=by
 have hd:∀o∈ops.toList,o.dst∈ops.toList.map (·.dst):=by grind
 have hS:∀d,some d∈ops.toList.map (·.dst)->d∈asg (.region id ops draw):=by intro d hd;obtain⟨o,ho,e⟩:=cC.1 hd;exact jy.2 ⟨o,ho,e⟩
 unfold Bu at h;split at h
 .split at h
  .rename_i h1 h2 h3;refine⟨_,h1,h2,by rw[Frm.d7];exact h3,?_⟩;refine d8 ?_ (iH hX ops.toList 0 F L [] hd hF h);intro FA LA log ht;have hf:nF (oq ops.toList) log=true:=by
    obtain⟨_,_,_,_,_,_,_,hh⟩:=ht;split at hh
    .assumption
    .exact hh.elim
   refine⟨hf,ht.mono hS λF L _ hh=> ?_⟩;grind
  .exact h.elim
 .split at h
  .rename_i h1;exact⟨h1,d8 (λ_ _ _ ht=>ht.mono hS λ_ _ _ h=>h) (iH hX ops.toList 0 F L [] hd hF h)⟩
  .exact h.elim
def vk{X:Cx}(hX:X.Ok){I:Inls}(hI:qq X I.call){n:Nat}{raw:Nat->Bool}{ds:List (Option Nat)}{K:Frm->aJ->Nat->Fm}:∀(k:Nat) (ops:List Oper) (i:Nat) (F:Frm) (L:aJ) (N:Nat),(∀o∈ops,o.dst∈ds)->F.ok->(nW X I n raw ds k ops i F L N K).holds->
  kP X.P ds k ops i (F.av n) L.fn N λFA LA N'=>eC n (λd=>some d∈ds) F L FA LA λF' L'=>(K F' L' N').holds
 |0,ops,i,F,L,N,hd,hF,h=>iH hX ops i F L [] hd hF h
 |k+1,ops,i,F,L,N,hd,hF,h=>by
  unfold nW at h;split at h
  .rename_i pre o f args post hin;obtain⟨e1,e6⟩:=uo hin;have e2:=yF e6;obtain⟨c,e3,e4,e5⟩:=SU e6;refine .inr ⟨pre,o,post,e1,e2,d8 ?_ (iH hX pre i F L [] (λo' ho=>hd o' (by rw[e1];exact fy _ ho)) hF h)⟩;rintro FA LA log ⟨F',L',rfl,rfl,hF',hpre,hpreL,hh⟩;refine(hI f _ F' n L' _ _ o c (.func f) [] e3 e4 (.inr ⟨[],rfl,rfl⟩) ?_ hh).mono ?_
   .rw[e5,f8,gY,List.append_nil];exact mI λx _=>(eI x).symm
   .rintro FA LA N' ⟨r,L2,hr,rfl,rfl,hpl,hq⟩;have hg:=vk hX hI k post (i+(pre.length+1)) _ _ _ (λo' ho=>hd o' (by rw[e1];exact fi _ (dT _ ho))) (mr hF' hr) hq;rw[ir];refine pi ?_ hg;intro FA LA N' ht;exact(ht.step (pn λt ht=>by rw[<-ht];exact hd o (by rw[e1];simp)) hpl).step hpre hpreL
  .rename_i pre o t args post hin;obtain⟨e1,e6⟩:=uo hin;have e2:=yF e6;obtain⟨c,e3,e4,e5⟩:=TN e6;refine .inr ⟨pre,o,post,e1,e2,d8 ?_ (iH hX pre i F L [] (λo' ho=>hd o' (by rw[e1];exact fy _ ho)) hF h)⟩;rintro FA LA log ⟨F',L',rfl,rfl,hF',hpre,hpreL,hh⟩;split at hh
   case h_2=>exact hh.elim
   rename_i f caps hf;refine(hI f _ F' n L' _ _ o c (.tmp t) (avs caps) e3 e4 (.inl ?_) ?_ hh).mono ?_
   .rw[<-eI,hf];rfl
   .rw[e5,lQ];refine congrArg (λu=>u++avs caps) ?_;rw[f8,gY];exact mI λx _=>(eI x).symm
   .rintro FA LA N' ⟨r,L2,hr,rfl,rfl,hpl,hq⟩;have hg:=vk hX hI k post (i+(pre.length+1)) _ _ _ (λo' ho=>hd o' (by rw[e1];exact fi _ (dT _ ho))) (mr hF' hr) hq;rw[ir];refine pi ?_ hg;intro FA LA N' ht;exact(ht.step (pn λt ht=>by rw[<-ht];exact hd o (by rw[e1];simp)) hpl).step hpre hpreL
  .rename_i pre o t x y post hin;obtain⟨e1,e6⟩:=uo hin;have e2:=yF e6;obtain⟨t',e3⟩:=TM e6;refine .inr ⟨pre,o,post,e1,e2,d8 ?_ (iH hX pre i F L [] (λo' ho=>hd o' (by rw[e1];exact fy _ ho)) hF h)⟩;rintro FA LA log ⟨F',L',rfl,rfl,hF',hpre,hpreL,hh⟩;split at hh
   case h_2=>exact hh.elim
   rename_i lt l hx hy ht;obtain⟨hh1,hh2⟩:=Fm.lP hh;have fin:∀r:SV,r.ok->(nW X I n raw ds k post (i+(pre.length+1)) (dj n F' o.dst r) L' (N+(i+pre.length)) K).holds->
     kP X.P ds k post (i+(pre.length+1)) (cE (F'.av n) o.dst r.av) L'.fn (N+(i+pre.length)) λFA LA N'=>eC n (λd=>some d∈ds) F L FA LA λF' L'=>(K F' L' N').holds:=by
    intro r hr hq;have hg:=vk hX hI k post (i+(pre.length+1)) _ _ _ (λo' ho=>hd o' (by rw[e1];exact fi _ (dT _ ho))) (mr hF' hr) hq;rw[ir];refine pi ?_ hg;intro FA LA N' ht;exact(ht.step (pn λt ht=>by rw[<-ht];exact hd o (by rw[e1];simp)) dw.rfl).step hpre hpreL
   refine VY (m:=l.length) (cs:=lt.enc l) e3 ht (by rw[<-eI,hx];rfl) (by rw[<-eI,hy];rfl) (λhm _=> ?_) ?_
   .exact fin (.lit true) trivial ((hh1:l=[]->_) (ig.1 hm))
   .exact fin (.lit false) trivial hh2
  .exact .inl (iH hX ops i F L [] hd hF h)
def wo(X:Cx)(n:Nat)(H:ju)(r:Nat×Array Oper×Bool):Prop:=∀(F:Frm) (L:aJ) (N:Nat) (K:Frm->aJ->Nat->Fm) (f:Fm),H r.1 r.2.1.toList r.2.2 F L N K=some f->f.holds->F.ok->
 awp X.P (.region r.1 r.2.1 r.2.2) (λe FA LA N'=>e= .normal/\eC n (λd=>d∈asg (.region r.1 r.2.1 r.2.2)) F L FA LA λF' L'=>(K F' L' N').holds) (F.av n) L.fn N
def nJ(X:Cx)(n:Nat)(H:ju)(c:Code):Prop:=∀r∈nZ c,wo X n H r
def mR(X:Cx)(n:Nat)(c:Code):nJ X n lc c:=λ_ _ _ _ _ _ _ h=>by cases h
def y6{X:Cx}(hX:X.Ok){I:Inls}(hI:qq X I.call){n:Nat}{raw:Nat->Nat->Bool}:∀(c:Code),nJ X n I.hook c->∀(al:Nat->Bool) (A:List (Nat×Ann)) (Q:jl) (F:Frm) (L:aJ) (N:Nat),(∀d∈asg c,al d=true)->F.ok->(vc X I n raw c al A Q F L N).holds->
  awp X.P c (λe FA LA N'=>eC n (λd=>al d=true) F L FA LA λF' L'=>(Q e F' L' N').holds) (F.av n) L.fn N:=by
 intro c;induction c with
 |skip=>intro hH al A Q F L N hal hF h;exact⟨F,L,rfl,rfl,hF,Pre.rfl,dw.rfl,h⟩
 |region id ops draw=>
  intro hH al A Q F L N hal hF h;unfold vc at h;split at h
  .rename_i f hf;have hS:∀d,d∈asg (.region id ops draw)->al d=true:=λd hd=>hal d hd;refine gp _ ?_ (hH _ (bN.2 rfl) F L N _ f hf h hF);rintro e FA LA N' ⟨rfl,ht⟩;exact ht.mono hS λ_ _ _ h=>h
  cases draw with
  |true=>
   have:=GM (draw:=true) hX hF h;left;obtain⟨anc,h1,h2,h3,h4⟩:=this;exact⟨anc,h1,h2,h3,d8 (λF L log ⟨a,b⟩=>⟨a,b.mono hal λ_ _ _ h=>h⟩) h4⟩
  |false=>
  split at h
  .have hS:∀d,some d∈ops.toList.map (·.dst)->al d=true:=by intro d hd;obtain⟨o',ho,e⟩:=cC.1 hd;exact hal d (jy.2 ⟨o',ho,e⟩)
   refine .inr (.inl ⟨rfl,_,pi ?_ (vk hX hI 6 ops.toList 0 F L N (by grind) hF h)⟩);intro FA LA N' ht;exact⟨_,_,_,cV.rfl,ht.mono hS λ_ _ _ h=>h⟩
  .have:=GM (draw:=false) hX hF h;left;obtain⟨h1,h2⟩:=this;exact⟨h1,d8 (λF L log b=>b.mono hal λ_ _ _ h=>h) h2⟩
 |seq a b iha ihb=>
  intro hH al A Q F L N hal hF h;have hala:∀d∈asg a,al d=true:=λd hd=>hal d (fy _ hd);have halb:∀d∈asg b,al d=true:=λd hd=>hal d (fi _ hd);unfold vc at h;split at h
  .have h1:=iha (λr hr=>hH r (fy _ hr)) al A _ F L N hala hF h;refine⟨λFA LA N'=>eC n (λd=>al d=true) F L FA LA λF' L'=>(vc X I n raw b al A Q F' L' N').holds,gp a ?_ h1,?_⟩
   .grind
   .rintro FA LA N' ⟨F',L',rfl,rfl,hF',hpre,hpreL,hh⟩;refine⟨_,_,_,cV.rfl,gp b ?_ (ihb (λr hr=>hH r (fi _ hr)) al A Q F' L' N' halb hF' hh)⟩;intro e FA LA N' ht;exact ht.step hpre hpreL
  .rename_i Y wit rk inv upd obs mu inner hA;split at h
   case h_2=>exact h.elim
   rename_i hbad;have hbad:=dG hbad;obtain⟨h1,h2⟩:=Fm.lP h;have hmem:∀d,mem (asg a) d=true->d∈asg a:=λd=>(mem_iff d _).1;have h1:=iha (λr hr=>hH r (fy _ hr)) (mem (asg a)) A _ F L N (λd hd=>(mem_iff _ _).2 hd) hF h1;refine Rq (λFA LA N'=>∃y,(∀p∈inv y,p)/\(∀q∈upd y,q.2.ok)/\FA=(iy F (upd y) (asg a++iD F rk N F)).av n/\LA=(gT L (obs y)).fn/\N'=gi N rk) (gp a ?_ h1) ?_
   .intro e FA LA N' ht;cases e
    case normal=>
     obtain⟨F',L',rfl,rfl,hF',hpre,hpreL,hh⟩:=ht;obtain⟨y,hh⟩:=yv hh;obtain⟨k1,k2,k3⟩:=AO (N':=N') (hav:=asg a++iD F rk N F) hh (hpre.mono (by grind)) (by grind) hpreL;grind
    all_goals exact ht.mono (by grind) λ_ _ _ h=>h
   .rintro FA LA N' ⟨y,hy,hok,rfl,rfl,rfl⟩;have h2:=EA ((h2:∀y:Y,Fm.holds _) y) hy;split at h2
    case h_2=>exact h2.elim
    rename_i hu;have hu:=dG hu;refine gp b ?_ (ihb (λr hr=>hH r (fi _ hr)) al (inner y++A) Q _ _ _ halb (Fp hF hok) h2);intro e FA LA N' ht;refine ht.step (Eh.mono ?_) yo;rintro d (hd|hd)
    .obtain⟨q,hq,rfl⟩:=cC.1 hd;rcases eA.1 ((mem_iff _ _).1 (hu q hq))with hd|hd
     .grind
     grind
    grind
 |cond c t e iht ihe=>
  intro hH al A Q F L N hal hF h;have halt:∀d∈asg t,al d=true:=λd hd=>hal d (fy _ hd);have hale:∀d∈asg e,al d=true:=λd hd=>hal d (fi _ hd);unfold vc at h;have ev:∀v,br n F c=v->dA (F.av n) c=v.av:=λv hv=>by rw[<-eI,hv]
  split at h
  .rename_i hc;exact⟨true,ev _ hc,λ_=>iht (λr hr=>hH r (fy _ hr)) al A Q F L N halt hF h,λhh=>by cases hh⟩
  .rename_i hc;exact⟨false,ev _ hc,(λhh=>by cases hh),λ_=>ihe (λr hr=>hH r (fi _ hr)) al A Q F L N hale hF h⟩
  .rename_i p d hc;obtain⟨h1,h2⟩:=Fm.lP h;refine⟨@decide p d,ev _ hc,λhh=>iht (λr hr=>hH r (fy _ hr)) al A Q F L N halt hF ((h1:p->_) (by grind)),λhh=>ihe (λr hr=>hH r (fi _ hr)) al A Q F L N hale hF ((h2:¬p->_) (by grind))⟩
  .rename_i b hc;obtain⟨h1,h2⟩:=Fm.lP h;exact⟨b,ev _ hc,λhh=>iht (λr hr=>hH r (fy _ hr)) al A Q F L N halt hF ((h1:b=true->_) hh),λhh=>ihe (λr hr=>hH r (fi _ hr)) al A Q F L N hale hF ((h2:b=false->_) hh)⟩
  .exact h.elim
 |block id c ih=>
  intro hH al A Q F L N hal hF h;have:=ih hH al A _ F L N hal hF h;refine gp c ?_ this;intro e FA LA N' ht;cases e
  case exit id'=>
   dsimp only at ht|-;cases hb:ae id' id with
   |true=>
    simp_all
   |false=>
    rw[if_neg (fz hb)];grind
  all_goals exact ht
 |loop c ih=>
  intro hH al A Q F L N hal hF h;unfold vc at h;split at h
  .split at h
   case h_2=>exact h.elim
   rename_i k0 _
   let rep:Nat->List AV->Sto->Nat->Prop:=λk FA LA N'=>eC n (λd=>al d=true) F L FA LA λF' L'=>(unr (λQ F L N=>vc X I n raw c al A Q F L N) Q k F' L' N').holds
   have hmu:∃μ:List AV->Sto->Nat->Nat,∀FA LA N',(∃k,rep k FA LA N')->rep (μ FA LA N') FA LA N'/\∀k,rep k FA LA N'->μ FA LA N'<=k:=by
    have:∀FA LA N',∃k,(∃k,rep k FA LA N')->rep k FA LA N'/\∀j,rep j FA LA N'->k<=j:=by
     intro FA LA N';by_cases hh:∃k,rep k FA LA N'
     .obtain⟨k,h1,h2⟩:=least hh;exact⟨k,by grind⟩
     .simp_all
    exact⟨λFA LA N'=>Classical.choose (this FA LA N'),λFA LA N'=>Qj (this FA LA N')⟩
   obtain⟨μ,hμ⟩:=hmu;refine Es (λFA LA N'=>∃k,rep k FA LA N') μ ⟨_,_,_,cV.rfl,k0,⟨F,L,rfl,rfl,hF,Pre.rfl,dw.rfl,h⟩⟩ ?_;intro FA LA N' hr;have hk:=(hμ FA LA N' hr).1;generalize hkk:μ FA LA N'=k at hk|-;obtain⟨F',L',rfl,rfl,hF',hpre,hpreL,hh⟩:=hk;cases k with
   |zero=>exact hh.elim
   |succ k=>
    refine gp c ?_ (ih hH al A _ F' L' N' hal hF' hh);intro e FA LA N2 ht;have ht:=ht.step hpre hpreL;cases e
    case normal=>
     have hr2:rep k FA LA N2:=ht;exact⟨_,_,_,cV.rfl,⟨k,hr2⟩,Nat.lt_succ_of_le ((hμ _ _ _ ⟨k,hr2⟩).2 k hr2)⟩
    all_goals exact ht
  rename_i Y wit rk inv upd obs mu inner hA;split at h
  case h_2=>exact h.elim
  rename_i hbad;have hbad:=dG hbad;obtain⟨h1,h2⟩:=Fm.lP h;obtain⟨y0,h1⟩:=yv h1;have hmem:∀d,mem (asg c) d=true->d∈asg c:=λd=>(mem_iff d _).1
  let hav:=asg c++iD F rk N F
  let rep:Y->List AV->Sto->Prop:=λy FA LA=>(∀p∈inv y,p)/\(∀q∈upd y,q.2.ok)/\FA=(iy F (upd y) hav).av n/\LA=(gT L (obs y)).fn
  obtain⟨k1,k2,k3⟩:=AO (N':=N) (hav:=hav) h1 Pre.rfl (by grind) dw.rfl;have hmu:∃μ:List AV->Sto->Nat,∀FA LA,(∃y,rep y FA LA)->∃y,rep y FA LA/\mu y=μ FA LA/\∀z,rep z FA LA->μ FA LA<=mu z:=by
   have:∀FA LA,∃k,(∃y,rep y FA LA)->∃y,rep y FA LA/\mu y=k/\∀z,rep z FA LA->k<=mu z:=by
    intro FA LA;by_cases hh:∃y,rep y FA LA
    .obtain⟨y,hy⟩:=hh;obtain⟨k,⟨z,hz,e⟩,hk⟩:=least (p:=λk=>∃y,rep y FA LA/\mu y=k) ⟨_,y,hy,rfl⟩;exact⟨k,by grind⟩
    .exact⟨0,by grind⟩
   exact⟨λFA LA=>Classical.choose (this FA LA),λFA LA=>Qj (this FA LA)⟩
  obtain⟨μ,hμ⟩:=hmu;refine WG (λFA LA N'=>(∃y,rep y FA LA)/\N'=gi N rk) μ (by grind) ?_;rintro FA LA N' ⟨hr,rfl⟩;obtain⟨x,⟨hx,hok,rfl,rfl⟩,hmx,_⟩:=hμ FA LA hr;have h2:=EA ((h2:∀x:Y,Fm.holds _) x) hx;split at h2
  case h_2=>exact h2.elim
  rename_i hu;have hu:=dG hu;have hpre0:Pre (λd=>d∈hav) F (iy F (upd x) hav):=by
   refine Eh.mono ?_;rintro d (hd|hd)
   .obtain⟨q,hq,rfl⟩:=cC.1 hd;exact(mem_iff _ _).1 (hu q hq)
   .exact hd
  refine gp c ?_ (ih hH (mem (asg c)) (inner x++A) _ _ _ _ (λd hd=>(mem_iff _ _).2 hd) (Fp hF hok) h2);intro e FA' LA' N' ht;have up:∀(G:Frm->aJ->Prop),eC n (λd=>mem (asg c) d=true) (iy F (upd x) hav) (gT L (obs x)) FA' LA' G->eC n (λd=>al d=true) F L FA' LA' G:=by
   intro G ht;refine(ht.mono (λd hd=>hal d (hmem d hd)) λ_ _ _ h=>h).step (hpre0.mono ?_) yo;intro d hd;rcases eA.1 hd with hd|hd
   .exact hal d hd
   .grind
  cases e
  case normal=>
   obtain⟨F',L',rfl,rfl,hF',hpre,hpreL,hh⟩:=ht;obtain⟨y,hh⟩:=yv hh;obtain⟨k1,k2,k3⟩:=AO (N':=N') (hav:=hav) hh (hpre0.trans (hpre.mono (by grind))) (by grind) (yo.trans hpreL);have hry:rep y ((iy F (upd y) hav).av n) (gT L (obs y)).fn:=⟨λp h=>k2 p (by grind),k3,rfl,rfl⟩;refine⟨_,_,_,k1,by grind,?_⟩;obtain⟨z,_,ez,hz⟩:=hμ _ _ ⟨y,hry⟩;have g1:=hz y hry;have g2:mu y<mu x:=k2 _ (by grind);omega
  all_goals exact up _ ht
 |exit id=>intro hH al A Q F L N hal hF h;exact⟨F,L,rfl,rfl,hF,Pre.rfl,dw.rfl,h⟩
 |ret=>intro hH al A Q F L N hal hF h;exact⟨F,L,rfl,rfl,hF,Pre.rfl,dw.rfl,h⟩
 |rangeFunc f params x y _ _=>intro hH al A Q F L N hal hF h;exact h.elim
 |scope c ih=>
  intro hH al A Q F L N hal hF h;refine gp c ?_ (ih hH al A _ F L N hal hF h);intro e FA LA N' ht;cases e<;>first|exact ht|(obtain⟨_,_,_,_,_,_,_,hh⟩:=ht;exact hh.elim)
 |label l=>intro hH al A Q F L N hal hF h;exact⟨F,L,rfl,rfl,hF,Pre.rfl,dw.rfl,h⟩
 |goto l=>intro hH al A Q F L N hal hF h;exact h.elim
 |refuse s=>intro hH al A Q F L N hal hF h;exact h.elim
end
noncomputable section
def kN(P:Program)(n:Nat)(F:Frm)(σ:Sg):List ResultVar->Option (List SV)
 |[] =>some []
 | .tmp t::rs=>(match dD t n,kN P n F σ rs with|true,some l=>some (F.at t::l)|_,_=>none)
 | .cell a t::rs=>(match dD a n,F.at a,kN P n F σ rs with
   |true,.ptr s off,some l=>(match σ s with
    |some (.box _ cs)=>(match kr P t cs off with|some r=>some (r::l)|none=>none)
    |some (.arr _ _ cs)=>(match kr P t cs off with|some r=>some (r::l)|none=>none)
    |_=>none)
   |_,_,_=>none)
def lV{P:Program}{n:Nat}{F:Frm}{σ:Sg}:∀{rs:List ResultVar} {l:List SV} {K:List AV->Prop},kN P n F σ rs=some l->K (avs l)->fp P rs (F.av n) σ.a K
 |[],l,K,h,hK=>by cases h;exact hK
 | .tmp t::rs,l,K,h,hK=>by
   unfold kN at h;split at h<;>cases h;rename_i l' h1 h2;unfold fp;refine lV h2 ?_;rw[Frm.fY ((dV _ _).1 h1)];exact hK
 | .cell a t::rs,l,K,h,hK=>by
   unfold kN at h;split at h
   case h_2=>cases h
   rename_i s off l' h1 h2 h3;unfold fp;rw[Frm.fY ((dV _ _).1 h1),h2];split at h
   .rename_i ty cs hs;split at h<;>cases h;rename_i r hr;exact⟨_,by rw[Sg.bW,hs];rfl,mZ hr (lV h3 hK)⟩
   .rename_i ty ez cs hs;split at h<;>cases h;rename_i r hr;exact⟨_,by rw[Sg.bW,hs];rfl,mZ hr (lV h3 hK)⟩
   .cases h
def pE:List SV->SV
 |[x] =>x
 |l=> .tup l
def xP(P:Program)(n:Nat)(rs:List ResultVar)(r:SV)(F:Frm)(L:aJ):Fm:=match kN P n F L.at rs with
 |some l=>(match gH (eZ 3 L.at) l with
  |some (ps,m)=>(match eqv 3 r (pE m)with
   |some (qs,[])=>needs (ps++qs) .tt
   |_=> .stuck 920000)
  |none=> .stuck 930000)
 |none=> .stuck 940000
def w8(P:Program)(n:Nat)(rs:List ResultVar)(r:SV):jl:=λe F L _=>match e with
 | .normal=>xP P n rs r F L
 | .ret=>xP P n rs r F L
 |_=> .stuck 910000
def zu{P:Program}{n:Nat}{rs:List ResultVar}{r:SV}{q:PV}(hr:r.av= .p q){e:Exit}{F:Frm}{L:aJ}{N:Nat}(h:(w8 P n rs r e F L N).holds):qt P rs q e (F.av n) L.fn N:=by
 have key:(xP P n rs r F L).holds->fp P rs (F.av n) L.fn λl=>∃m,cI (ci 3 L.fn) l=some m/\jR m=q:=by
  intro h;unfold xP at h;split at h
  case h_2=>exact h.elim
  rename_i l hl;split at h
  case h_2=>exact h.elim
  rename_i ps m hm;split at h
  case h_2=>exact h.elim
  rename_i qs he;have hp:=(j8 h).1;have e2:Sg.a L.at=L.fn:=rfl;rw[<-e2];refine lV hl ?_;obtain⟨u,h1,h2⟩:=qD (λx ps y=>rz) hm (λp hpp=>hp p (by grind));refine⟨u,h1,?_⟩;have h3:=sh (m:=λ_=>none) 3 r (pE m) qs [] he (λp hpp=>hp p (by grind)) (λq hq=>by cases hq);rw[hr]at h3;unfold di at h3;have h4:(pE m).av= .p (jR u):=by
   cases m with
   |nil=>
    have:u=[] :=by have:=congrArg fh h2;simp[avs]at this;grind
    subst this;rfl
   |cons x m=>
    cases m with
    |nil=>
     cases u with
     |nil=>simp[avs]at h2
     |cons y u=>
      have h5:u=[] :=by have:=congrArg fh h2;simp only[avs,cO,List.length_cons,List.length_nil,d6]at this;grind
      subst h5;simp only[avs,cO,lK,lM,and_true]at h2;exact h2
    |cons y m=>
     have h5:(pE (x::y::m)).av=iJ (avs (x::y::m)):=rfl;rw[h5,h2];unfold iJ;rw[cQ];cases u with
     |nil=>simp[avs]at h2
     |cons a u=>
      cases u with
      |nil=>simp[avs]at h2
      |cons b u=>rfl
  rw[h4]at h3;cases h3;rfl
 cases e<;>first|exact h.elim|exact key h
structure Ar(α:Type) where
 enc:α->SV
 dec:SV->Option α
 ok:∀s a,dec s=some a->s.av=(enc a).av
 pl:∀a,∃q,(enc a).av= .p q
structure Arl(α:Type) where
 enc:α->List SV
 dec:List SV->Option α
 ok:∀s a,dec s=some a->avs s=avs (enc a)
 pl:∀a,∃q:List PV,avs (enc a)=q.map .p
def a0:Arl Unit:=⟨λ_=>[],λl=>match l with|[] =>some ()|_=>none,by grind,λ_=>⟨[],rfl⟩⟩
def a1{α:Type}(A:Ar α):Arl α:=⟨λa=>[A.enc a],λl=>match l with|[x] =>A.dec x|_=>none,λs a h=>by
  match s,h with
  |[x],h=>simp only[avs,A.ok x a h],
 λa=>by obtain⟨q,h⟩:=A.pl a;exact⟨[q],by simp only[avs,h,cO,lK]⟩⟩
def ac{α β:Type}(A:Ar α)(B:Arl β):Arl (α×β):=⟨λa=>A.enc a.1::B.enc a.2,λl=>match l with
  |x::r=>(match A.dec x,B.dec r with|some a,some b=>some (a,b)|_,_=>none)
  |_=>none,λs a h=>by
  match s,h with
  |x::r,h=>
   dsimp only at h;split at h<;>cases h;rename_i a b h1 h2;simp only[avs,A.ok x a h1,B.ok r b h2],
 λa=>by obtain⟨q,h⟩:=A.pl a.1;obtain⟨r,k⟩:=B.pl a.2;exact⟨q::r,by simp only[avs,h,k,cO]⟩⟩
def aI:Ar Int:=⟨λn=> .int .i64 n,λs=>match s with| .int .i64 n=>some n|_=>none,by grind,λ_=>⟨_,rfl⟩⟩
def aN:Ar Nat:=⟨λn=> .int .i64 (n:Int),λs=>match s with| .int .i64 (.ofNat n)=>some n|_=>none,λ_ _ h=>by
 (split at h<;>cases h;rfl),λ_=>⟨_,rfl⟩⟩
def aB:Ar Bool:=⟨λb=> .bool b,th,λ_ _ h=>sL h,λ_=>⟨_,rfl⟩⟩
def aV:Ar V:=⟨λv=> .agg [.int .i64 v.x,.int .i64 v.y],λs=>match s with| .agg [.int .i64 x,.int .i64 y] =>some ⟨x,y⟩|_=>none,by grind,λ_=>⟨_,rfl⟩⟩
def aS:Ar Geo.S:=⟨λs=> .agg [.int .i64 s.a.x,.int .i64 s.a.y,.int .i64 s.b.x,.int .i64 s.b.y],λs=>match s with| .agg [.int .i64 x,.int .i64 y,.int .i64 z,.int .i64 w] =>some ⟨⟨x,y⟩,⟨z,w⟩⟩|_=>none,by grind,λ_=>⟨_,rfl⟩⟩
def aT:Ar Pt:=⟨λp=> .agg [.int .i64 p.x,.int .i64 p.y,.int .i64 p.den],λs=>match s with| .agg [.int .i64 x,.int .i64 y,.int .i64 z] =>some ⟨x,y,z⟩|_=>none,by grind,λ_=>⟨_,rfl⟩⟩
def ic(t:LT)(s:SV):Option (List t.ty):=match s with
 | .lst t' l=>(match decEq t' t with| .isTrue h=>some (h▸l)| .isFalse _=>none)
 | .sl 0 [] =>some []
 | .sl n cs=>t.decs n cs
 |_=>none
def jI{t:LT}{s:SV}{l:List t.ty}(h:ic t s=some l):s.av= .p (.sl l.length (t.enc l)):=by
 unfold ic at h;split at h
 .split at h
  .rename_i e _;subst e;cases h;rfl
  .cases h
 .cases h;rfl
 .rename_i n cs _;obtain⟨e1,e2⟩:=LT.oX h;show(match bJ (avs cs)with|some q=>AV.p (.sl n q)|none=> .any)=_;rw[e2,cQ,e1]
 .cases h
def aL(t:LT):Ar (List t.ty):=⟨λl=> .lst t l,ic t,λ_ _ h=>jI h,λ_=>⟨_,rfl⟩⟩
def shD(s:SV):Option Shape:=match s with
 | .agg [r,h] =>(match ic .V r,ic .R h with|some o,some hs=>some ⟨o,hs⟩|_,_=>none)
 |_=>none
def Xz(s:SV)(a:Shape)(h:shD s=some a):s.av=(SV.agg [.lst .V a.outer,.lst .R a.holes]).av:=by
 unfold shD at h;split at h
 .split at h<;>cases h;rename_i o hs h1 h2;simp only[SV.av,avs,jI h1,jI h2]
 .cases h
def aSh:Ar Shape:=⟨λs=> .agg [.lst .V s.outer,.lst .R s.holes],shD,Xz,λ_=>⟨_,rfl⟩⟩
noncomputable def con{α:Type}(A:Arl α)(pre:α->List Prop)(res:α->SV):Con:=⟨α,A.dec,pre,.val false res⟩
def js(l:List SV):Nat->Frm
 |k=>match l with
  |[] =>[]
  |x::l=>(k,x)::js l (k+1)
def AZ:∀(l:List SV) (k t:Nat),(js l k).at t=if k<=t then(match l[t-k]? with|some x=>x|none=> .undef)else .undef
 |[],k,t=>by simp[js,Frm.at]
 |x::l,k,t=>by
  unfold js;rw[Frm.cX,AZ l (k+1) t];grind
def zk{l:List SV}{n:Nat}(hn:l.length<=n):(js l 0).av n=avs l++bS (n-(avs l).length) .undef:=by
 apply List.ext_getElem?;intro i;unfold Frm.av;rw[du];by_cases hi:i<n
 .rw[List.getElem?_range hi,dm,AZ,if_pos (cu _),Nat.sub_zero];by_cases h2:i<l.length
  .rw[List.getElem?_append_left (by rw[fW];exact h2),qI,c7 h2];rfl
  .rw[List.getElem?_append_right (by rw[fW];omega),List.getElem?_replicate,eW (by omega),fW,if_pos (by omega)];rfl
 .rw[eW (by simp;omega),eW (by simp[fW];omega)];rfl
def vz{args:List SV}(hpe:∀v∈args,v.ape=false):(js args 0).ok:=by
 intro t;rw[AZ,if_pos (cu _)];split
 .rename_i x hx;exact SV.ji (by grind)
 .trivial
def Iq:aJ.fn [] =λ_=>none:=by
 funext s
 rcases gZ s with⟨x,rfl⟩|⟨x,a,rfl⟩|hno
 .exact Sg.bW _ x
 .exact Sg.cw _ x a
 .exact Sg.fu _ hno
def aq:Nat->Nat->Bool:=λ_ _=>false
structure InD:Type 1 where
 hook:ju
 raw:Nat->Nat->Bool
 ann:List SV->aJ->List (Nat×Ann)
def noD:Nat->InD:=λ_=>⟨lc,aq,λ_ _=>[]⟩
def nU(X:Cx)(D:Nat->InD):Prop:=∀(f:Nat) (fn:Func) (c:Code),X.P.funcs[f]? =some fn->fn.body=some c->nJ X fn.ntmps (D f).hook c
def Ie(X:Cx):nU X noD:=λ_ _ _ _ _=>mR _ _ _
def xI(X:Cx)(D:Nat->InD)(J:Inl):Inl:=λf xs F n L N K=>match gF X.P f,X.P.funcs[f]?,L.at 0 with
 |true,some fn,some (.box 0 (.undef::S))=>(match fn.body with
  |some c=>(match iP xs.length fn.ntmps,cq (λv:SV=>match v.ape with|true=>false|false=>true) xs with
   |true,true=>
    let fin:Frm->aJ->Nat->Fm:=λF' L' N'=>match cq (λq:Nat×Option SOb=>match ae q.1 0 with|true=>false|false=>true) (L'.take (L'.length-(L.length+1)))with
     |true=>(match kN X.P fn.ntmps F' L'.at fn.results.toList with
      |some [] =>K .undef (L'.take (L'.length-(L.length+1))++L) N'
      |some [r] =>(match r.ape with|false=>K r (L'.take (L'.length-(L.length+1))++L) N'|true=> .stuck 991001)
      |_=> .stuck 991002)
     |false=> .stuck 991003
    vc X ⟨J,(D f).hook⟩ fn.ntmps (D f).raw c (λ_=>true) ((D f).ann xs L) (λe F' L' N'=>match e with
     | .normal=>fin F' L' N'
     | .ret=>fin F' L' N'
     |_=> .stuck 991004) (js xs 0) ((0,some (.box 0 (.undef::(S++(bM n).map F.at))))::L) N
   |_,_=> .stuck 991005)
  |none=> .stuck 991006)
 |_,_,_=> .stuck 991007
def GH{L:aJ}{pre:aJ}{s:Nat}(h:∀q∈pre,q.1≠s):aJ.at (pre++L) s=L.at s:=by
 induction pre with
 |nil=>rfl
 |cons q pre ih=>
  obtain⟨k,x⟩:=q;have hk:ae s k=false:=by
   cases hb:ae s k with
   |false=>rfl
   |true=>simp_all
  show(match ae s k with|true=>x|false=>aJ.at (pre++L) s)=_;grind
def DT{A B:aJ}{y:Nat}(h:aJ.at A y=aJ.at B y):∀pre:aJ,aJ.at (pre++A) y=aJ.at (pre++B) y
 |[] =>h
 |(k,x)::pre=>by
  show(match ae y k with|true=>x|false=>aJ.at (pre++A) y)=(match ae y k with|true=>x|false=>aJ.at (pre++B) y);rw[DT h pre]
def GP{L:aJ}{cs T:List SV}(hL:L.at 0=some (.box 0 cs)):aJ.fn ((0,some (.box 0 T))::L)=aX L.fn [(dh,some ⟨0,0,avs T⟩)] :=by have h:=(bI.flat (σ:=L.at) (rd:=[]) (W:=[(0,some (.box 0 T))]) λq hq=>by rw[bN.1 hq,hL];exact⟨rfl,rfl⟩).2.2;rw[aJ.ow]at h;have e:aD 0=dh:=ur (by unfold NM;omega);unfold aJ.fn;rw[show aJ.at ((0,some (.box 0 T))::L)=aJ.at ([(0,some (SOb.box 0 T))] ++L)from rfl,<-h,<-e];rfl
def IL{L:aJ}{cs:List SV}(hL:L.at 0=some (.box 0 cs)):L.fn dh=some ⟨0,0,avs cs⟩:=by have e:aD 0=dh:=ur (by unfold NM;omega);rw[<-e];show Sg.a L.at (aD 0)=_;rw[Sg.bW,hL];rfl
def Uh(F:Frm)(n:Nat):avs ((bM n).map F.at)=F.av n:=by rw[f8,gY];rfl
def HD{X:Cx}(hX:X.Ok){D:Nat->InD}(hD:nU X D){J:Inl}(hJ:qq X J):qq X (xI X D J):=by
 intro f xs F n L N K o c fo caps ho hc hclo hargs h;unfold xI at h;split at h
 case h_2=>exact h.elim
 rename_i fn S hok hf hL;split at h
 case h_2=>exact h.elim
 rename_i body hb;split at h
 case h_2=>exact h.elim
 rename_i hn hpe;have hn:=jF hn;have hpe:∀v∈xs,v.ape=false:=λv hv=>by have:=dG hpe v hv;grind
 have hw:=y6 hX (I:=⟨J,(D f).hook⟩) hJ body (hD f fn body hf hb) (λ_=>true) _ _ _ _ N (λ_ _=>rfl) (vz hpe) h;rw[zk hn,GP hL]at hw;have hT:avs (.undef::(S++(bM n).map F.at))= .undef::(avs S++F.av n):=by rw[WQ,lQ,Uh];rfl
 rw[hT]at hw;refine Vn (fid:=f) (A:=avs xs) (S:=avs S) (f:=fo) ho hc hclo hargs hok hf hb (by rw[IL hL];rfl) (gp body ?_ hw);rintro e FA LA N' ⟨F',L',rfl,rfl,hF',hpre,⟨pre,hpl⟩,hh⟩;have fin:(match cq (λq:Nat×Option SOb=>match ae q.1 0 with|true=>false|false=>true) (L'.take (L'.length-(L.length+1)))with
    |true=>(match kN X.P fn.ntmps F' L'.at fn.results.toList with
     |some [] =>K .undef (L'.take (L'.length-(L.length+1))++L) N'
     |some [r] =>(match r.ape with|false=>K r (L'.take (L'.length-(L.length+1))++L) N'|true=> .stuck 991001)
     |_=> .stuck 991002)
    |false=> .stuck 991003).holds->
   fp X.P fn.results.toList (F'.av fn.ntmps) L'.fn λl=>∃S2 F2,L'.fn dh=some ⟨0,0,.undef::(S2++F2)⟩/\S2.length=(avs S).length/\F2.length=(F.av n).length/\
    (λFA LA N'=>∃r L2,r.ok/\FA=cE (F.av n) o.dst r.av/\LA=aJ.fn L2/\dw L L2/\(K r L2 N').holds) (cE F2 o.dst (xD l)) (aX L'.fn [(dh,some ⟨0,0,.undef::S2⟩)]) N':=by
  intro hh;split at hh
  case h_2=>exact hh.elim
  rename_i h0;have hat:L'.at 0=some (.box 0 (.undef::(S++(bM n).map F.at))):=by rw[hpl];have h1:=dG h0;rw[hpl,show(pre++(0,some (SOb.box 0 (.undef::(S++(bM n).map F.at))))::L).length-(L.length+1)=pre.length by simp,uX]at h1;rw[GH λq hq e=>by have:=h1 q hq;simp_all];rfl
  have hst:L'.fn dh=some ⟨0,0,.undef::(avs S++F.av n)⟩:=by rw[IL hat,hT]
  have hL2:aJ.fn ((0,some (.box 0 (.undef::S)))::L')=aX L'.fn [(dh,some ⟨0,0,.undef::avs S⟩)] :=GP hat;have hpl2:dw L (L'.take (L'.length-(L.length+1))++L):=⟨_,rfl⟩;have hL3:aJ.fn (L'.take (L'.length-(L.length+1))++L)=aX L'.fn [(dh,some ⟨0,0,.undef::avs S⟩)] :=by
   rw[<-hL2];refine congrArg Sg.a ?_
   funext y
   by_cases hy:y=0
   .subst hy;rw[GH (λq hq e=>by have:=dG h0 q hq;rw[e]at this;cases this)];exact hL
   .have e1:aJ.at ((0,some (.box 0 (.undef::S)))::L') y=aJ.at L' y:=by show(match ae y 0 with|true=>_|false=>_)=_;rw[show ae y 0=false from by cases hb:ae y 0 with|false=>rfl|true=>exact absurd (bk hb) hy]
    rw[e1];have e2:L'=L'.take (L'.length-(L.length+1))++((0,some (.box 0 (.undef::(S++(bM n).map F.at))))::L):=by
     conv=>lhs;rw[hpl]
     rw[hpl,show(pre++(0,some (SOb.box 0 (.undef::(S++(bM n).map F.at))))::L).length-(L.length+1)=pre.length by simp,uX]
    conv=>rhs;rw[e2]
    refine DT ?_ _;show aJ.at L y=(match ae y 0 with|true=>_|false=>aJ.at L y);rw[show ae y 0=false from by cases hb:ae y 0 with|false=>rfl|true=>exact absurd (bk hb) hy]
  split at hh
  .rename_i hr;exact lV hr ⟨avs S,F.av n,hst,rfl,rfl,.undef,_,trivial,rfl,hL3.symm,hpl2,hh⟩
  .rename_i r hr;split at hh
   .rename_i hrp;exact lV hr ⟨avs S,F.av n,hst,rfl,rfl,r,_,SV.ji hrp,rfl,hL3.symm,hpl2,hh⟩
   .exact hh.elim
  .exact hh.elim
 cases e<;>first|exact fin hh|exact hh.elim
def CB(X:Cx)(D:Nat->InD):Inl:=xI X D (xI X D wW)
def XJ{X:Cx}(hX:X.Ok){D:Nat->InD}(hD:nU X D):qq X (CB X D):=HD hX hD (HD hX hD (FT X))
def qS(X:Cx)(D:Nat->InD)(H:ju)(st:Bool)(raw:Nat->Nat->Bool)(f:Nat)(ann:List (Nat×Ann))(args:List SV)(post:Nat->List ResultVar->jl):Fm:=match gF X.P f,X.P.funcs[f]? with
 |true,some fn=>(match fn.body with
  |some c=>(match iP args.length fn.ntmps,cq (λv=>match v.ape with|true=>false|false=>true) args with
   |true,true=>(match st with
    |false=>vc X ⟨wW,H⟩ fn.ntmps raw c (λ_=>true) ann (post fn.ntmps fn.results.toList) (js args 0) [] 0
    |true=>vc X ⟨CB X D,H⟩ fn.ntmps raw c (λ_=>true) ann (post fn.ntmps fn.results.toList) (js args 0) [(0,some (.box 0 [.undef]))] 1)
   |_,_=> .stuck 950000)
  |none=> .stuck 960000)
 |_,_=> .stuck 970000
def JP(X:Cx)(st:Bool)(raw:Nat->Nat->Bool)(f:Nat)(ann:List (Nat×Ann))(args:List SV)(post:Nat->List ResultVar->jl):Fm:=qS X noD lc st raw f ann args post
def JO(X:Cx)(raw:Nat->Nat->Bool)(f:Nat)(ann:List (Nat×Ann))(args:List SV)(post:Nat->List ResultVar->jl):Fm:=JP X false raw f ann args post
def MU(X:Cx)(raw:Nat->Nat->Bool)(f:Nat)(ann:List (Nat×Ann))(args:List SV)(r:SV):Fm:=JO X raw f ann args λn rs=>w8 X.P n rs r
def YU:aJ.fn [(0,some (.box 0 [.undef]))] =tk:=by
 have e:aD 0=dh:=ur (by unfold NM;omega)
 funext s
 unfold tk;rcases gZ s with⟨x,rfl⟩|⟨x,a,rfl⟩|hno
 .show Sg.a _ (aD x)=_;rw[Sg.bW];by_cases hx:x=0
  .subst hx;rw[if_pos e];rfl
  .rw[if_neg (λh=>hx (eH (h.trans e.symm)))];show Option.map _ (match ae x 0 with|true=>_|false=>none)=none;cases hb:ae x 0 with
   |true=>simp_all
   |false=>rfl
 .show Sg.a _ (inn x (a+1))=_;rw[Sg.cw,if_neg (λh=>by have h:inn x (a+1)=aD 0:=h.trans e.symm;have:=(cH h).2;omega)];show Option.bind (match ae x 0 with|true=>_|false=>none) _=none;cases ae x 0<;>rfl
 .show Sg.a _ s=_;rw[Sg.fu _ hno,if_neg (λh=>hno 0 0 (h.trans e.symm))]
def vL{X:Cx}(hX:X.Ok){D:Nat->InD}(hD:nU X D){H:ju}{st:Bool}{raw:Nat->Nat->Bool}{f:Nat}{ann:List (Nat×Ann)}{args:List SV}{post:Nat->List ResultVar->jl}{A:List PV}{Q:List ResultVar->kL}(hA:avs args=A.map .p)(hH:∀(fn:Func) (c:Code),X.P.funcs[f]? =some fn->fn.body=some c->nJ X fn.ntmps H c)
  (hQ:∀n rs e (F:Frm) (L:aJ) N,(post n rs e F L N).holds->Q rs e (F.av n) L.fn N) (h:(qS X D H st raw f ann args post).holds):
  gF X.P f=true/\∃fn c L0 N0,X.P.funcs[f]? =some fn/\fn.body=some c/\nI L0 N0/\awp X.P c (Q fn.results.toList) (A.map .p++bS (fn.ntmps-A.length) .undef) L0 N0:=by
 unfold qS at h;split at h
 case h_2=>exact h.elim
 rename_i fn hok hf;split at h
 case h_2=>exact h.elim
 rename_i c hb;split at h
 case h_2=>exact h.elim
 rename_i hn hpe;have hn:=jF hn;have hpe:∀v∈args,v.ape=false:=λv hv=>by have:=dG hpe v hv;grind
 have hal:(A.map AV.p).length=A.length:=by grind
 have hAF:A.map .p++bS (fn.ntmps-A.length) .undef=(js args 0).av fn.ntmps:=by rw[zk hn,hA,hal]
 split at h
 .refine⟨hok,fn,c,aJ.fn [],0,hf,hb,.inl ⟨Iq,rfl⟩,?_⟩;rw[hAF];refine gp c ?_ (y6 hX (I:=⟨wW,H⟩) (FT X) c (hH fn c hf hb) (λ_=>true) ann _ _ [] 0 (λ_ _=>rfl) (vz hpe) h);rintro e FA LA N' ⟨F',L',rfl,rfl,_,_,_,hh⟩;grind
 .refine⟨hok,fn,c,aJ.fn [(0,some (.box 0 [.undef]))],1,hf,hb,.inr ⟨YU,rfl⟩,?_⟩;rw[hAF];refine gp c ?_ (y6 hX (I:=⟨CB X D,H⟩) (XJ hX hD) c (hH fn c hf hb) (λ_=>true) ann _ _ _ 1 (λ_ _=>rfl) (vz hpe) h);rintro e FA LA N' ⟨F',L',rfl,rfl,_,_,_,hh⟩;grind
def Ev{X:Cx}(hX:X.Ok){st:Bool}{raw:Nat->Nat->Bool}{f:Nat}{ann:List (Nat×Ann)}{args:List SV}{post:Nat->List ResultVar->jl}{A:List PV}{Q:List ResultVar->kL}(hA:avs args=A.map .p)
  (hQ:∀n rs e (F:Frm) (L:aJ) N,(post n rs e F L N).holds->Q rs e (F.av n) L.fn N) (h:(JP X st raw f ann args post).holds):
  gF X.P f=true/\∃fn c L0 N0,X.P.funcs[f]? =some fn/\fn.body=some c/\nI L0 N0/\awp X.P c (Q fn.results.toList) (A.map .p++bS (fn.ntmps-A.length) .undef) L0 N0:=
 vL hX (Ie X) hA (λ_ _ _ _=>mR _ _ _) hQ h
def Ul{X:Cx}(hX:X.Ok){raw:Nat->Nat->Bool}{f:Nat}{ann:List (Nat×Ann)}{args:List SV}{r:SV}{A:List PV}{q:PV}(hA:avs args=A.map .p)(hq:r.av= .p q)(h:(MU X raw f ann args r).holds):Sat X.P false f A q:=by obtain⟨hok,fn,c,L0,N0,hf,hb,h0,hw⟩:=Ev hX (st:=false) (Q:=λrs=>qt X.P rs q) hA (λn rs e F L N hh=>zu hq hh) h;exact uq hok hf hb h0 hw
def xQ(P:Program)(n:Nat)(rs:List ResultVar)(ty:Nat)(t:LT)(l:List t.ty)(ys:List SV)(F:Frm)(L:aJ):Fm:=match kN P n F L.at rs with
 |some (v::r)=>(match lD (eqv 3) ys r with
  |some (qs,[])=>(match v with
   | .nil=>needs ((l=[])::qs) .tt
   | .own s _ k=>(match L.at s with
     |some (.row ty' t' l')=>(match ae ty' ty,decEq t' t with
      |true,.isTrue h=>needs ([(h▸l':List t.ty)=l,k=l'.length] ++qs) .tt
      |_,_=> .stuck 980001)
     |_=> .stuck 980002)
   |_=> .stuck 980003)
  |_=> .stuck 980004)
 |_=> .stuck 980005
def LJ(P:Program)(ty:Nat)(t:LT)(l:List t.ty)(ys:List SV)(n:Nat)(rs:List ResultVar):jl:=λe F L _=>match e with
 | .normal=>xQ P n rs ty t l ys F L
 | .ret=>xQ P n rs ty t l ys F L
 |_=> .stuck 910000
def FK{m:Rf}:∀{q:List PV} {r:List AV},dI m (q.map .p) r->r=q.map .p
 |[],r,h=>by exact h
 |x::q,r,h=>by
  obtain⟨y,r',rfl,h1,h2⟩:=h;rw[h1,FK h2];rfl
def VE{P:Program}{n:Nat}{rs:List ResultVar}{ty:Nat}{t:LT}{l:List t.ty}{ys:List SV}{Y:List PV}(hY:avs ys=Y.map .p){e:Exit}{F:Frm}{L:aJ}{N:Nat}(h:(LJ P ty t l ys n rs e F L N).holds):B6 P rs ty t.w (t.enc l) l.length Y e (F.av n) L.fn N:=by
 have key:(xQ P n rs ty t l ys F L).holds->fp P rs (F.av n) L.fn λlA=>(∃s,lA= .own s 0 l.length::Y.map .p/\L.fn s=some ⟨ty,t.w,(t.enc l).map .p⟩)\/(lA= .nil::Y.map .p/\l.length=0/\t.enc l=[]):=by
  intro h;unfold xQ at h;split at h
  case h_2=>exact h.elim
  rename_i v r hl;split at h
  case h_2=>exact h.elim
  rename_i qs he;have e2:Sg.a L.at=L.fn:=rfl;have hr:(∀p∈qs,p)->avs r=Y.map .p:=λhp=>by have:=mb (m:=λ_=>none) (sh 3) he hp (λq hq=>by cases hq);rw[hY]at this;exact FK this
  rw[<-e2];refine lV hl ?_;split at h
  .have hp:=(j8 h).1;have hl0:l=[] :=hp _ (by grind);subst hl0;refine .inr ⟨?_,rfl,rfl⟩;show AV.nil::avs r=_;grind
  .rename_i s t2 k;split at h
   case h_2=>exact h.elim
   rename_i ty' t' l' hs;split at h
   case h_2=>exact h.elim
   rename_i h2 hty _;subst h2;have hp:=(j8 h).1;have h3:l'=l:=hp _ (by grind);have h4:k=l'.length:=hp _ (by grind);subst h3;refine .inl ⟨aD s,?_,?_⟩
   .show AV.own (aD s) 0 k::avs r=_;grind
   .rw[Sg.bW,hs,<-bk hty];rfl
  .exact h.elim
 cases e<;>first|exact h.elim|exact key h
def Ov{α:Type}(A:Arl α)(pre:α->List Prop)(ty:Nat)(t:LT)(l:α->List t.ty)(ys:α->List SV):Con:=⟨α,A.dec,pre,.own ty t l ys⟩
def XZ{X:Cx}(hX:X.Ok){raw:Nat->Nat->Bool}{f:Nat}{α:Type}{A:Arl α}{pre:α->List Prop}{ty:Nat}{t:LT}{l:α->List t.ty}{ys:α->List SV}(ann:α->List (Nat×Ann))(hr:∀x,∃q:List PV,avs (ys x)=q.map .p)
  (h:∀x,kR (pre x)->(JO X raw f (ann x) (A.enc x) (LJ X.P ty t (l x) (ys x))).holds):(Ov A pre ty t l ys).Ok X.P f:=by
 intro s x hd hp;obtain⟨B,hB⟩:=A.pl x;obtain⟨q,hq⟩:=hr x;obtain⟨hok,fn,c,L0,N0,hf,hb,h0,hw⟩:=Ev hX (st:=false) (Q:=λrs=>B6 X.P rs ty t.w (t.enc (l x)) (l x).length q) hB (λn rs e F L N hh=>VE hq hh) (h x (fQ.2 hp));exact⟨B,q,by rw[A.ok s x hd,hB],hq,R3 hok (j4 t.gv) hf hb h0 hw⟩
def a8{X:Cx}(hX:X.Ok){raw:Nat->Nat->Bool}{f:Nat}{α:Type}{A:Arl α}{pre:α->List Prop}{res:α->SV}(ann:α->List (Nat×Ann))(hr:∀x,∃q,(res x).av= .p q)(h:∀x,kR (pre x)->(MU X raw f (ann x) (A.enc x) (res x)).holds):(con A pre res).Ok X.P f:=by intro s x hd hp;obtain⟨B,hB⟩:=A.pl x;obtain⟨q,hq⟩:=hr x;exact⟨B,q,by rw[A.ok s x hd,hB],hq,Ul hX hB hq (h x (fQ.2 hp))⟩
open Classical in
def au{p q:Prop}(h:p=q)(hq:q):p:=h▸hq
def ao:List (Nat×Con)->Tab->Tab
 |[],T,f=>T f
 |(k,c)::l,T,f=>match ae f k with|true=>some c|false=>ao l T f
def MT(P:Program):List (Nat×Con)->Prop
 |[] =>True
 |q::l=>q.2.Ok P q.1/\MT P l
def ap{P:Program}{T:Tab}(hT:T.Ok P):∀{l:List (Nat×Con)},MT P l->(ao l T).Ok P
 |[],_=>hT
 |(k,c)::l,h=>by
  intro f d hd;unfold ao at hd;split at hd
  .rename_i e;cases hd;rw[bk e];exact h.1
  .exact ap hT h.2 f d hd
def wy:Tab:=λ_=>none
def WX{P:Program}:wy.Ok P:=λ_ _ h=>by cases h
end
noncomputable section
def Zg(N:Nat)(a b c d:Int)(w:World):eM aG (jX (N+1+1) 53 (.agg #[.int .i64 a,.int .i64 b]) (.agg #[.int .i64 c,.int .i64 d])) w= .ok (a==c&&b==d) w:=by
 have hS:aG.underlying 53=some (.struct (aG.fieldsOf 53)):=by kernel_rfl
 have hp:aG.stoodInHeld 53=false:=by kernel_rfl
 rw[run_equalIn_agg w (N+1) 53 _ _ hS hp];simp only[xt,Cm]
 go_simp
 grind
def Zj(a b c d a' b' c' d':Int)(w:World)(N:Nat):eM aG (jX (N+1+1+1) 57 (.agg #[.int .i64 a,.int .i64 b,.int .i64 c,.int .i64 d]) (.agg #[.int .i64 a',.int .i64 b',.int .i64 c',.int .i64 d'])) w= .ok ((a==a'&&b==b')&&(c==c'&&d==d')) w:=by
 have hS6:aG.underlying 57=some (.struct (aG.fieldsOf 57)):=by kernel_rfl
 have hp6:aG.stoodInHeld 57=false:=by kernel_rfl
 rw[run_equalIn_agg w (N+1+1) 57 _ _ hS6 hp6];unfold xt;rw[Tryz.underlying57];have a44:=Tryz.isAgg53;have z44:=Tryz.sizeOf53;have p1:∀a b c d:Int,(part 53 #[c6 .i64 a,c6 .i64 b,c6 .i64 c,c6 .i64 d] 0).run aG w= .ok (.agg #[.int .i64 a,.int .i64 b]) w:=by intro a b c d;simp[part,a44,z44]
 have p2:∀a b c d:Int,(part 53 #[c6 .i64 a,c6 .i64 b,c6 .i64 c,c6 .i64 d] 2).run aG w= .ok (.agg #[.int .i64 c,.int .i64 d]) w:=by intro a b c d;simp[part,a44,z44]
 have hE:=Zg N;unfold Op.eqFields;unfold Op.eqFields;unfold Op.eqFields;rw[if_pos (by decide)];simp only[bi,p1,bq,hE];cases h1:(a==a')<;>cases h2:(b==b')<;>simp[hE,p2,bi,bq];grind
def F6:ou aG 57 4:=by
 intro xs ys x y w hx hy;match xs,ys,hx,hy with
 |[a,b,c,d],[a',b',c',d'],_,_=>
  have h1:=Zj a b c d a' b' c' d' w 9997;have e:(([a,b,c,d] :List Int)==[a',b',c',d'])=((a==a'&&b==b')&&(c==c'&&d==d')):=by rw[mE];simp[and_assoc]
  refine⟨?_,?_⟩
  .simp only[eqGuard,bi];simp[pR];rw[run_eql_struct,h1];simp_all
  .unfold bne;rw[e];simp[eqGuard];rw[run_neq_struct,h1];simp_all
def Zi(N:Nat)(a b c a' b' c':Int)(w:World):eM aG (jX (N+1+1) 60 (.agg #[.int .i64 a,.int .i64 b,.int .i64 c]) (.agg #[.int .i64 a',.int .i64 b',.int .i64 c'])) w= .ok (a==a'&&(b==b'&&c==c')) w:=by
 have hS:aG.underlying 60=some (.struct (aG.fieldsOf 60)):=by kernel_rfl
 have hp:aG.stoodInHeld 60=false:=by kernel_rfl
 rw[run_equalIn_agg w (N+1) 60 _ _ hS hp];simp only[xt,Tryz.underlying60]
 go_simp
 grind
def Fz:ou aG 60 3:=by
 intro xs ys x y w hx hy;match xs,ys,hx,hy with
 |[a,b,c],[a',b',c'],_,_=>
  have h1:=Zi 9998 a b c a' b' c' w;have e:(([a,b,c] :List Int)==[a',b',c'])=(a==a'&&(b==b'&&c==c')):=by rw[mE];simp
  refine⟨?_,?_⟩
  .simp only[eqGuard,bi];simp[pR];rw[run_eql_struct,h1];simp_all
  .unfold bne;rw[e];simp[eqGuard];rw[run_neq_struct,h1];simp_all
noncomputable def ltL:List (Nat×LT)->Nat->Option LT
 |[],_=>none
 |(k,x)::l,t=>match ae t k with|true=>some x|false=>ltL l t
def u67:aG.underlying 104=some (.array 2 3):=by kernel_rfl
def qd(w:World)(xs:Array Value)(i:Nat)(a:Value)(h:xs[i]? =some a):(part 3 xs i).run aG w= .ok a w:=by have a3:=uV;simp[part,a3,h]
def YE:MKey aG 104 2:=by
 have hu3:aG.underlying 3=some (.int .i64):=by kernel_rfl
 obtain⟨i3,hi3⟩:=info_of_underlying hu3;have c3:aG.cellsOf 3=1:=by kernel_rfl
 have two:∀{xs:List Int},xs.length=2->∃a b,xs=[a,b] :=λ{xs} h=>by
  match xs,h with
  |[a,b],_=>grind
 refine⟨?_,?_,⟨_,u67,λa b=>rfl⟩⟩
 .intro w em xs hx;obtain⟨a,b,rfl⟩:=two hx;show(uU em (9999+1) 104 (.agg #[.int .i64 a,.int .i64 b])).run _ w=_;have p0:=qd w #[c6 .i64 a,.int .i64 b] 0 (.int .i64 a) rfl;have p1:=qd w #[c6 .i64 a,.int .i64 b] 1 (.int .i64 b) rfl;have ck:∀a:Int,(uU em 9999 3 (.int .i64 a)).run aG w= .ok () w:=by intro a;show(uU em (9998+1) 3 (.int .i64 a)).run _ w=_;generalize 9998=N;simp only[uU,bi,run_underlying hu3,bq,cF]
  rw[uU];simp only[bi,run_underlying u67,bq];simp only[Std.Legacy.Range.forIn_eq_forIn_range',Std.Legacy.Range.size,Nat.sub_zero,Nat.add_one_sub_one,Nat.div_one];simp only[show List.range' 0 2=[0,1]from rfl,List.forIn_cons,List.forIn_nil,bi,run_sizeOf w hi3,bq,c3,p0,p1,ck,cF,xj,nv]
 .intro w xs ys hx hy;obtain⟨a,b,rfl⟩:=two hx;obtain⟨c,d,rfl⟩:=two hy;have p0:=qd w #[c6 .i64 a,.int .i64 b] 0 (.int .i64 a) rfl;have p1:=qd w #[c6 .i64 a,.int .i64 b] 1 (.int .i64 b) rfl;have q0:=qd w #[c6 .i64 c,.int .i64 d] 0 (.int .i64 c) rfl;have q1:=qd w #[c6 .i64 c,.int .i64 d] 1 (.int .i64 d) rfl;have e1:∀a b:Int,(jX 9999 3 (.int .i64 a) (.int .i64 b)).run aG w= .ok (a==b) w:=λa b=>run_equalIn_int w 9998 3 _ _ a b hu3;show(jX (9999+1) 104 (.agg #[.int .i64 a,.int .i64 b]) (.agg #[.int .i64 c,.int .i64 d])).run _ w=_;rw[run_equalIn_array w 9999 _ _ u67 hi3,c3,show bM 2=[0,1]from rfl];simp only[Op.eqItems,bi,xj,nv,p0,q0,e1,bq];by_cases h1:a=c
  .subst h1;simp only[beq_self_eq_true,xZ,ng,if_false,bi];by_cases h2:b=d
   .simp_all
   simp_all
  simp_all
noncomputable def cx(T:Tab):Cx:=⟨aG,T,ltL [(53,.V),(57,.S),(64,.R),(3,.I),(2,.I),(1,.I),(4,.B),(60,.T),(25,.U),(45,.E),(49,.F),(43,.Q)],[(53,2),(57,4),(60,3)],λ_=>false,λ_=>false⟩
def aw{T:Tab}(h:T.Ok aG):(cx T).Ok:=⟨h,λt m hm=>by
 rcases bc.1 hm with h|hm
 .cases h;exact F7
 rcases bc.1 hm with h|h
 .cases h;exact F6
 .rw[bN]at h;cases h;exact Fz,λt ht=>by cases ht⟩
noncomputable def nL(F:Frm)(d:Nat):Option Nat:=match F.at d with
 | .int _ v=>some v.toNat
 |_=>none
noncomputable def Lb(F:Frm)(d:Nat):Option Int:=match F.at d with
 | .int _ v=>some v
 |_=>none
noncomputable def Ol(F:Frm)(d e:Nat):Option (Int×Int):=match Lb F d,Lb F e with
 |some x,some y=>some (x,y)
 |_,_=>none
noncomputable def lp(key d n:Nat)(I:Nat->List Prop)(rk:List Nat)(upd:Nat->Frm)(obs:Nat->List (Nat×SOb))(inner:Nat->List (Nat×Ann):=λ_=>[]):Nat×Ann:=
 (key,.mk Nat (λF _=>nL F d) rk (λk=>(k<=n)::I k) (λk=>(d,.int .i64 (k:Int))::upd k) obs (λk=>n-k) inner)
noncomputable def cnt(key d n:Nat)(I:Nat->Prop)(inner:Nat->List (Nat×Ann):=λ_=>[]):Nat×Ann:=lp key d n (λk=>[I k]) [] (λ_=>[]) (λ_=>[]) inner
noncomputable def jb(key d:Nat)(b:Bool):Nat×Ann:=(key+10000,.mk Unit (λ_ _=>some ()) [] (λ_=>[]) (λ_=>[(d,.bool b)]) (λ_=>[]) (λ_=>0) (λ_=>[]))
noncomputable def jP(key:Nat)(I:List Prop):Nat×Ann:=(key+10000,.mk Unit (λ_ _=>some ()) [] (λ_=>I) (λ_=>[]) (λ_=>[]) (λ_=>0) (λ_=>[]))
noncomputable def jU(key:Nat)(u:Frm):Nat×Ann:=(key+10000,.mk Unit (λ_ _=>some ()) [] (λ_=>[]) (λ_=>u) (λ_=>[]) (λ_=>0) (λ_=>[]))
noncomputable def jN(key d:Nat)(I:Nat->List Prop)(inner:Nat->List (Nat×Ann):=λ_=>[]):Nat×Ann:=(key+10000,.mk Nat (λF _=>nL F d) [] I (λk=>[(d,.int .i64 (k:Int))]) (λ_=>[]) (λ_=>0) inner)
noncomputable def lU(key k:Nat):Nat×Ann:=(key+30000+k,.mk Unit (λ_ _=>none) [] (λ_=>[]) (λ_=>[]) (λ_=>[]) (λ_=>0) (λ_=>[]))
noncomputable def aj(q:Nat->Prop)(k:Nat):Prop:=∀j,j<k->q j
def nb{b:Bool}(h:(!b)=false):b=true:=by grind
def nb'{b:Bool}(h:(!b)=true):b=false:=by grind
theorem eQ(q:Nat->Prop):aj q 0:=λj h=>by grind
theorem cB{q:Nat->Prop}{k:Nat}(h:aj q k)(hk:q k):aj q (k+1):=λj hj=>by
 rcases jC j k with h1|h1
 .exact h j h1
 grind
def JR:wy.Ok aG:=WX
end
attribute [grind =] aH ix
attribute [grind ←] eQ cB
def iI{x y A B:Int}(hx: -A<=x/\x<=A)(hy: -B<=y/\y<=B): -(A*B)<=x*y/\x*y<=A*B:=by have h1:0<=(A-x)*(B-y):=jA (by omega) (by omega);have h2:0<=(A+x)*(B+y):=jA (by omega) (by omega);have h3:0<=(A-x)*(B+y):=jA (by omega) (by omega);have h4:0<=(A+x)*(B-y):=jA (by omega) (by omega);grind
def bd(M:Int)(v:V):Prop:=(-M<=v.x/\v.x<=M)/\ -M<=v.y/\v.y<=M
def ti{m M:Int}{v:V}(h:bP v m=true)(hm:m<=M:=by decide):bd M v:=by unfold bP at h;unfold bd;grind
def bd.mono{m M:Int}{v:V}(h:bd m v)(hm:m<=M:=by decide):bd M v:=by unfold bd at*;omega
def pu{M:Int}{a b:V}(ha:bd M a)(hb:bd M b):(-(M*M)<=a.x*b.y/\a.x*b.y<=M*M)/\ -(M*M)<=a.y*b.x/\a.y*b.x<=M*M:=⟨iI ha.1 hb.2,iI ha.2 hb.1⟩
def jf{m:Int}{a b:V}(ha:bd m a)(hb:bd m b):bd (m+m) (aB0 a b):=by unfold bd aB0 at*;grind
def X0(n:Int): -1<=sgn n/\sgn n<=1:=by unfold sgn;grind
def ce{x:Int}(h: -9000000000000000000<=x/\x<=9000000000000000000):aH x:=by unfold aH;omega
noncomputable def P0:Con:=con (ac aV (a1 aV)) (λ(_,_)=>[]) (λ(a,b)=> .bool (bR a b)
 )
def aBm:P0.Ok aG 171:=a8 (aw JR) (raw:=aq) (λ(_,_)=>[]) (λ(_,_)=>⟨_,rfl⟩) λ(a,b) _=>au (q:=(a.y<b.y->true=bR a b)/\
 (¬a.y<b.y->(a.y=b.y->decide (a.x<b.x)=bR a b)/\
  (¬a.y=b.y->false=bR a b))) (by kernel_rfl) (by
  unfold bR;grind)
noncomputable def Nx:Tab:=ao [(171,P0)] wy
def Kb:Nx.Ok aG:=ap JR ⟨aBm,trivial⟩
noncomputable def c80:Con:=con (a1 aI) (λ_=>[]) (λn=> .int .i64 (sgn n)
 )
def k80:c80.Ok aG 129:=a8 (aw Kb) (raw:=aq) (λ_=>[]) (λ_=>⟨_,rfl⟩) λn _=>au (q:=(0<n->1=sgn n)/\
 (¬0<n->(n<0-> -1=sgn n)/\
  (¬n<0->0=sgn n))) (by kernel_rfl) (by
  unfold sgn;grind)
noncomputable def t80:Tab:=ao [(129,c80)] Nx
def Z5:t80.Ok aG:=ap Kb ⟨k80,trivial⟩
noncomputable def t79:Tab:=t80
def Mj:t79.Ok aG:=Z5
noncomputable def c35:Con:=con (ac aV (a1 aI)) (λ(_,m)=>[0<=m,m<=1000000000000]) (λ(a,m)=> .bool (bP a m)
 )
def k35:c35.Ok aG 20:=a8 (aw Mj) (raw:=aq) (λ(_,_)=>[]) (λ(_,_)=>⟨_,rfl⟩) λ(a,m) hp=>au (q:=aH (0-m)/\(0-m<=a.x->(a.x<=m->aH (0-m)/\(0-m<=a.y->decide (a.y<=m)=bP a m)/\
   (¬0-m<=a.y->false=bP a m))/\
  (¬a.x<=m->false=bP a m))/\
 (¬0-m<=a.x->false=bP a m)) (by kernel_rfl) (by change 0<=m/\m<=1000000000000 at hp;unfold bP;have:= @aH;grind[aH])
noncomputable def t35:Tab:=ao [(20,c35)] t79
def NB:t35.Ok aG:=ap Mj ⟨k35,trivial⟩
noncomputable def c98:Con:=con (a1 aS) (λ_=>[]) (λs=> .bool (bQ s)
 )
def k98:c98.Ok aG 68:=a8 (aw NB) (raw:=aq) (λ_=>[]) (λ_=>⟨_,rfl⟩) λs _=>au (q:=(0:Int)<=4000/\(4000:Int)<=1000000000000/\(bP s.a 4000=true->(0:Int)<=4000/\(4000:Int)<=1000000000000/\bP s.b 4000=bQ s)/\
 (bP s.a 4000=false->false=bQ s)) (by kernel_rfl) (by unfold bQ;grind)
noncomputable def t98:Tab:=ao [(68,c98)] t35
def MX:t98.Ok aG:=ap NB ⟨k98,trivial⟩
noncomputable def QN:Con:=con (a1 aV) (λ_=>[]) (λv=>(aT).enc (bG v)
 )
def aBH:QN.Ok aG 23:=a8 (aw MX) (raw:=aq) (λ_=>[]) (λ_=>⟨_,rfl⟩) λv _=>au (q:=v.x=(bG v).x/\v.y=(bG v).y/\1=(bG v).den) (by kernel_rfl) (by exact⟨rfl,rfl,rfl⟩)
noncomputable def OP:Tab:=ao [(23,QN)] t98
def K9:OP.Ok aG:=ap MX ⟨aBH,trivial⟩
noncomputable def P4:Con:=con (ac aV (a1 aV)) (λ(a,b)=>[bd 2000000000 a,bd 2000000000 b]) (λ(a,b)=> .int .i64 (cross a b)
 )
def aBq:P4.Ok aG 130:=a8 (aw K9) (raw:=aq) (λ(_,_)=>[]) (λ(_,_)=>⟨_,rfl⟩) λ(a,b) hp=>au (q:=aH (a.x*b.y)/\aH (a.y*b.x)/\aH (a.x*b.y-a.y*b.x)/\a.x*b.y-a.y*b.x=cross a b) (by kernel_rfl) (by change bd 2000000000 a/\bd 2000000000 b at hp;have:=pu hp.1 hp.2;exact⟨ce (by omega),ce (by omega),ce (by omega),rfl⟩)
noncomputable def N8:Tab:=ao [(130,P4)] OP
def Ke:N8.Ok aG:=ap K9 ⟨aBq,trivial⟩
noncomputable def P3:Con:=con (ac aV (a1 aV)) (λ(a,b)=>[bd 1000000000 a,bd 1000000000 b]) (λ(a,b)=>aV.enc (aB0 a b)
 )
def aBp:P3.Ok aG 131:=a8 (aw Ke) (raw:=aq) (λ(_,_)=>[]) (λ(_,_)=>⟨_,rfl⟩) λ(a,b) hp=>au (q:=aH (a.x-b.x)/\aH (a.y-b.y)/\a.x-b.x=(aB0 a b).x/\a.y-b.y=(aB0 a b).y) (by kernel_rfl) (by change bd 1000000000 a/\bd 1000000000 b at hp;unfold bd at hp;exact⟨ce (by omega),ce (by omega),rfl,rfl⟩)
noncomputable def N7:Tab:=ao [(131,P3)] N8
def Kd:N7.Ok aG:=ap Ke ⟨aBp,trivial⟩
def kF{s:S}(h:(!bQ s)=false){M:Int}(hM:4000<=M:=by decide):bd M s.a/\bd M s.b:=by unfold bQ at h;simp only[Bool.not_eq_false',bv]at h;exact⟨ti h.1 hM,ti h.2 hM⟩
def In{s:S}{p:V}{M:Int}(h1:bd M s.a/\bd M s.b)(h:eo s p=true):bd M p:=by unfold eo at h;unfold bd at*;grind
def vO(s:S)(p:V): -1<=fD s p/\fD s p<=1:=by
 unfold fD bT;split
 .omega
 .exact X0 _
noncomputable def c70:Con:=con (ac aV (ac aV (a1 aV))) (λ(a,b,c)=>[bd 1000000000 a,bd 1000000000 b,bd 1000000000 c]) (λ(a,b,c)=> .int .i64 (bT a b c)
 )
def k70:c70.Ok aG 69:=a8 (aw Kd) (raw:=aq) (λ(_,_,_)=>[]) (λ(_,_,_)=>⟨_,rfl⟩) λ(a,b,c) hp=>au (q:=bd 1000000000 b/\bd 1000000000 a/\bd 1000000000 c/\bd 1000000000 a/\bd 2000000000 (aB0 b a)/\bd 2000000000 (aB0 c a)/\sgn (cross (aB0 b a) (aB0 c a))=bT a b c) (by kernel_rfl) (by change bd 1000000000 a/\bd 1000000000 b/\bd 1000000000 c at hp;exact⟨hp.2.1,hp.1,hp.2.2,hp.1,jf hp.2.1 hp.1,jf hp.2.2 hp.1,rfl⟩)
noncomputable def t70:Tab:=ao [(69,c70)] N7
def Mt:t70.Ok aG:=ap Kd ⟨k70,trivial⟩
noncomputable def QR:Con:=con (ac aS (a1 aV)) (λ(_,_)=>[]) (λ(s,p)=> .int .i64 (fD s p)
 )
def aBL:QR.Ok aG 140:=a8 (aw Mt) (raw:=aq) (λ(_,_)=>[]) (λ(_,_)=>⟨_,rfl⟩) λ(s,p) _=>au (q:=((!bQ s)=true->0=fD s p)/\
 ((!bQ s)=false->(0:Int)<=4000/\(4000:Int)<=1000000000000/\((!bP p 4000)=true->0=fD s p)/\
  ((!bP p 4000)=false->bd 1000000000 s.a/\bd 1000000000 s.b/\bd 1000000000 p/\bT s.a s.b p=fD s p))) (by kernel_rfl) (by
  unfold fD;refine⟨λh=>by rw[h];rfl,λh=>⟨by decide,by decide,λh2=>by grind,λh2=>⟨(kF h).1,(kF h).2,ti (by simpa using h2),by grind⟩⟩⟩)
noncomputable def OT:Tab:=ao [(140,QR)] t70
def LE:OT.Ok aG:=ap Mt ⟨aBL,trivial⟩
noncomputable def Pp:Con:=con (ac aS (a1 aV)) (λ(_,_)=>[]) (λ(s,p)=> .bool (onS s p))
def aBc:Pp.Ok aG 21:=a8 (aw LE) (raw:=aq) (λ(s,p)=>[jb 4 5 (eo s p)]
  ) (λ(_,_)=>⟨_,rfl⟩) λ(s,p) _=>au (q:=((!bQ s)=true->false=onS s p)/\
 ((!bQ s)=false->((Min.min s.a.x s.b.x<=p.x->(p.x<=Max.max s.a.x s.b.x->(Min.min s.a.y s.b.y<=p.y->decide (p.y<=Max.max s.a.y s.b.y)=eo s p)/\
     (¬Min.min s.a.y s.b.y<=p.y->false=eo s p))/\
    (¬p.x<=Max.max s.a.x s.b.x->false=eo s p))/\
   (¬Min.min s.a.x s.b.x<=p.x->false=eo s p))/\
  (∀y:Unit,(eo s p=true->bd 1000000000 s.a/\bd 1000000000 s.b/\bd 1000000000 p/\decide (bT s.a s.b p=0)=onS s p)/\
   (eo s p=false->false=onS s p)))) (by kernel_rfl) (by
  refine⟨λh=>by unfold onS;grind,λh=>⟨by unfold eo;grind,λ_=>⟨λh2=>⟨(kF h).1,(kF h).2,In (kF h) h2,by unfold onS;grind⟩,λh2=>by unfold onS;rw[h2];simp⟩⟩⟩)
noncomputable def No:Tab:=ao [(21,Pp)] OT
def KP:No.Ok aG:=ap LE ⟨aBc,trivial⟩
def so(l:List V)(k:Nat):List V:=je (l.take k)
def qso(l:List V)(k j:Nat):Prop:=bR (aBX (so l k) j) (aBX l k)=true
def cm(s t:S)(k:Nat):List V:=([s.a,s.b,t.a,t.b].take k).filter λp=>onS s p&&onS t p
def zr{l:List V}{k:Nat}(h:k<l.length):so l (k+1)=hZ (so l k) (aBX l k):=by unfold so je;rw[pU,c7 h,Cs,nth_eq h];rfl
def yk{p:V}:∀{l:List V} {k:Nat},k<=l.length->(∀j,j<k->bR (aBX l j) p=true)->(k<l.length->¬bR (aBX l k) p=true)->
  hZ l p=if k<l.length/\aBX l k=p then l else l.take k++p::l.drop k
 |[],k,h1,_,_=>by simp at h1;subst h1;rfl
 |q::r,0,_,_,h3=>by
  have h3:¬bR q p=true:=h3 (by simp);unfold hZ;rw[if_neg h3];show(if q=p then q::r else p::q::r)=if 0<(q::r).length/\q=p then q::r else p::q::r;simp
 |q::r,k+1,h1,h2,h3=>by
  have h0:bR q p=true:=h2 0 (by omega);unfold hZ;rw[if_pos h0,yk (l:=r) (k:=k) (by grind) (λj hj=>h2 (j+1) (by omega)) (λhk=>h3 (by grind))];show(q::if _ then _ else _)=if k+1<(q::r).length/\aBX r k=p then q::r else q::(r.take k++p::r.drop k);grind
def Vl(l:List V)(p:V):(hZ l p).length<=l.length+1:=by
 induction l with
 |nil=>simp[hZ]
 |cons q r ih=>unfold hZ;grind
def IN{l:List V}{k y:Nat}(hk:k<l.length)(h1:y<=(so l k).length)(h2:aj (qso l k) y)(h3:y<(so l k).length->¬qso l k y)(h4:¬(y<(so l k).length/\aBX (so l k) y=aBX l k)):
  ([] :List V)++bL y (cP 0 (so l k))++[aBX l k] ++bL ((so l k).length-y) (cP y (so l k))=so l (k+1):=by
 have e:bL ((so l k).length-y) (cP y (so l k))=cP y (so l k):=ij (by simp);rw[zr hk,yk h1 h2 h3,if_neg h4,e];simp
def GT{l:List V}{k y:Nat}(hk:k<l.length)(h1:y<=(so l k).length)(h2:aj (qso l k) y)(h3:y<(so l k).length->¬qso l k y)(h4:y<(so l k).length)(h5:aBX (so l k) y=aBX l k):so l k=so l (k+1):=by rw[zr hk,yk h1 h2 h3,if_pos ⟨h4,h5⟩]
def Xd(s t:S){k:Nat}(h:k<4):cm s t (k+1)=if(onS s (aBX [s.a,s.b,t.a,t.b] k)&&onS t (aBX [s.a,s.b,t.a,t.b] k))=true then cm s t k++[aBX [s.a,s.b,t.a,t.b] k]else cm s t k:=by unfold cm;rw[pU,c7 (show k<[s.a,s.b,t.a,t.b].length from h),List.filter_append,nth_eq (show k<[s.a,s.b,t.a,t.b].length from h)];grind
def Yf(s t:S)(k:Nat):(cm s t k).length<=4:=cZ (List.length_filter_le _ _) (by simp;omega)
noncomputable def Po:Con:=con (a1 (aL .V)) (λl=>[l.length<=1000]) (λl=> .lst .V (je l))
def aBb:Po.Ok aG 209:=a8 (aw KP) (raw:=aq) (λl=>[lp 3 4 l.length (λk=>[(so l k).length<=k]) [900] (λk=>[(3,.own 900 .V (so l k).length)]) (λk=>[(900,.row 53 .V (so l k))]) λk=>[cnt 6 5 (so l k).length (aj (qso l k)),jN 8 5 (λj=>[j<=(so l k).length,aj (qso l k) j,j<(so l k).length->¬qso l k j]) λj=>[jP 9 [¬(j<(so l k).length/\aBX (so l k) j=aBX l k)]]]]
  ) (λ_=>⟨_,rfl⟩) λl hp=>au (q:=(0=(0:Int)/\(so l 0).length=0/\so l 0=([] :List V)/\(0:Nat)<=l.length/\(so l 0).length<=0)/\
 (∀x:Nat,x<=l.length/\(so l x).length<=x->((x:Int)<l.length->((0=(0:Int)/\(0:Nat)<=(so l x).length/\aj (qso l x) 0)/\
    (∀x_1:Nat,x_1<=(so l x).length/\aj (qso l x) x_1->((x_1:Int)<(so l x).length->ix (x_1:Int) (so l x).length/\x_1<(so l x).length/\ix (x:Int) l.length/\(bR (aBX (so l x) x_1) (aBX l x)=true->aH ((x_1:Int)+1)/\(x_1:Int)+1=((x_1+1:Nat):Int)/\x_1+1<=(so l x).length/\aj (qso l x) (x_1+1)/\(so l x).length-(x_1+1)<(so l x).length-x_1)/\
      (bR (aBX (so l x) x_1) (aBX l x)=false->(x_1:Int)=x_1/\x_1<=(so l x).length/\aj (qso l x) x_1/\(x_1<(so l x).length->¬qso l x x_1)))/\
     (¬(x_1:Int)<(so l x).length->(x_1:Int)=x_1/\x_1<=(so l x).length/\aj (qso l x) x_1/\(x_1<(so l x).length->¬qso l x x_1))))/\
   (∀y:Nat,y<=(so l x).length/\aj (qso l x) y/\(y<(so l x).length->¬qso l x y)->(((y:Int)<(so l x).length->ix (y:Int) (so l x).length/\y<(so l x).length/\ix (x:Int) l.length/\((aBX (so l x) y)=(aBX l x)->aH ((x:Int)+1)/\(x:Int)+1=((x+1:Nat):Int)/\(so l x).length=(so l (x+1)).length/\so l x=so l (x+1)/\x+1<=l.length/\(so l (x+1)).length<=x+1/\l.length-(x+1)<l.length-x)/\
      (¬(aBX (so l x) y)=(aBX l x)->¬(y<(so l x).length/\aBX (so l x) y=aBX l x)))/\
     (¬(y:Int)<(so l x).length->¬(y<(so l x).length/\aBX (so l x) y=aBX l x)))/\
    (∀y_1:Unit,¬(y<(so l x).length/\aBX (so l x) y=aBX l x)->(0<=(y:Int)/\(y:Int)<=(so l x).length)/\0+y<=(so l x).length/\([] :List V).length+(bL y (cP 0 (so l x))).length<=1000000/\ix (x:Int) l.length/\(([] :List V)++bL y (cP 0 (so l x))).length=(([] :List V)++bL y (cP 0 (so l x))).length/\(([] :List V)++bL y (cP 0 (so l x))).length+[(aBX l x)].length<=1000000/\(0<=(y:Int)/\(y:Int)<=(so l x).length)/\(([] :List V)++bL y (cP 0 (so l x))++[(aBX l x)]).length=(([] :List V)++bL y (cP 0 (so l x))++[(aBX l x)]).length/\y+((so l x).length-y)<=(so l x).length/\(([] :List V)++bL y (cP 0 (so l x))++[(aBX l x)]).length+(bL ((so l x).length-y) (cP y (so l x))).length<=1000000/\aH ((x:Int)+1)/\(x:Int)+1=((x+1:Nat):Int)/\(([] :List V)++bL y (cP 0 (so l x))++[(aBX l x)] ++bL ((so l x).length-y) (cP y (so l x))).length=(so l (x+1)).length/\([] :List V)++bL y (cP 0 (so l x))++[(aBX l x)] ++bL ((so l x).length-y) (cP y (so l x))=so l (x+1)/\x+1<=l.length/\(so l (x+1)).length<=x+1/\l.length-(x+1)<l.length-x)))/\
  (¬(x:Int)<l.length->(so l x).length=(so l x).length/\so l x=je l))) (by kernel_rfl) (by
  change l.length<=1000 at hp;have e0:so l 0=[] :=rfl;have e1:so l l.length=je l:=by unfold so;rw[kY]
  have el:∀x,x<l.length->(so l x).length<=x->(so l (x+1)).length<=x+1:=by intro x h h2;rw[zr h];exact cZ (Vl _ _) (by omega)
  have e2:(so l 0).length=0:=rfl
  with_reducible ((repeat' first|apply cl|intro);all_goals repeat cases‹_/\_›)
  all_goals first|assumption|rfl|exact trivial|exact nb ‹_› |exact nb' ‹_› |omega|exact fC (by omega)|(unfold ix;omega)|(unfold aH;omega)|exact eQ _|exact cB ‹_› ‹_› |(refine cB ‹_› ?_;simp_all;done)|exact IN (by omega) ‹_› ‹_› ‹_› ‹_› |exact congrArg fh (IN (by omega) ‹_› ‹_› ‹_› ‹_›)|exact GT (by omega) ‹_› ‹_› ‹_› (by omega) ‹_› |exact congrArg fh (GT (by omega) ‹_› ‹_› ‹_› (by omega) ‹_›)|exact el _ (by omega) ‹_› |(unfold qso at*;simp_all;done)|grind)
noncomputable def Nn:Tab:=ao [(209,Po)] No
def KO:Nn.Ok aG:=ap KP ⟨aBb,trivial⟩
noncomputable def c99:Con:=con (ac aS (a1 aS)) (λ(_,_)=>[]) (λ(s,t)=> .lst .V (fB s t))
def k99:c99.Ok aG 139:=a8 (aw KO) (raw:=aq) (λ(s,t)=>[lp 4 7 4 (λ_=>[]) [900,11] (λk=>[(6,.own 900 .V (cm s t k).length),(5,.own 11 .V 4)]) (λk=>[(900,.row 53 .V (cm s t k)),(11,.row 53 .V [s.a,s.b,t.a,t.b])]) λk=>[jb 7 34 (onS s (aBX [s.a,s.b,t.a,t.b] k)&&onS t (aBX [s.a,s.b,t.a,t.b] k))]]
  ) (λ(_,_)=>⟨_,rfl⟩) λ(s,t) _=>au (q:=(0=(0:Int)/\(cm s t 0).length=0/\(4:Nat)=4/\cm s t 0=([] :List V)/\[s.a,s.b,t.a,t.b] =[s.a,s.b,t.a,t.b]/\(0:Nat)<=4)/\
 (∀x:Nat,x<=4->((x:Int)<4->(ix (x:Int) 4/\x<[s.a,s.b,t.a,t.b].length/\(onS s (aBX [s.a,s.b,t.a,t.b] x)=true->ix (x:Int) 4/\x<[s.a,s.b,t.a,t.b].length/\onS t (aBX [s.a,s.b,t.a,t.b] x)=(onS s (aBX [s.a,s.b,t.a,t.b] x)&&onS t (aBX [s.a,s.b,t.a,t.b] x)))/\
    (onS s (aBX [s.a,s.b,t.a,t.b] x)=false->false=(onS s (aBX [s.a,s.b,t.a,t.b] x)&&onS t (aBX [s.a,s.b,t.a,t.b] x))))/\
   (∀y:Unit,((onS s (aBX [s.a,s.b,t.a,t.b] x)&&onS t (aBX [s.a,s.b,t.a,t.b] x))=true->ix (x:Int) 4/\x<[s.a,s.b,t.a,t.b].length/\(cm s t x).length=(cm s t x).length/\(cm s t x).length+[(aBX [s.a,s.b,t.a,t.b] x)].length<=1000000/\aH ((x:Int)+1)/\(x:Int)+1=((x+1:Nat):Int)/\(cm s t x++[(aBX [s.a,s.b,t.a,t.b] x)]).length=(cm s t (x+1)).length/\(4:Nat)=4/\cm s t x++[(aBX [s.a,s.b,t.a,t.b] x)] =cm s t (x+1)/\[s.a,s.b,t.a,t.b] =[s.a,s.b,t.a,t.b]/\x+1<=4/\4-(x+1)<4-x)/\
    ((onS s (aBX [s.a,s.b,t.a,t.b] x)&&onS t (aBX [s.a,s.b,t.a,t.b] x))=false->aH ((x:Int)+1)/\(x:Int)+1=((x+1:Nat):Int)/\(cm s t x).length=(cm s t (x+1)).length/\(4:Nat)=4/\cm s t x=cm s t (x+1)/\[s.a,s.b,t.a,t.b] =[s.a,s.b,t.a,t.b]/\x+1<=4/\4-(x+1)<4-x)))/\
  (¬(x:Int)<4->(cm s t x).length=(cm s t x).length/\(cm s t x).length<=1000/\je (cm s t x)=fB s t))) (by kernel_rfl) (by
  have e0:cm s t 0=[] :=rfl;have e4:je (cm s t 4)=fB s t:=rfl;have es:=λk=> @Xd s t k;have el:=Yf s t
  with_reducible ((repeat' first|apply cl|intro);all_goals repeat cases‹_/\_›)
  all_goals grind)
noncomputable def t99:Tab:=ao [(139,c99)] Nn
def MW:t99.Ok aG:=ap KO ⟨k99,trivial⟩
noncomputable def c32:Con:=con (ac aS (a1 aS)) (λ(_,_)=>[]) (λ(s,t)=> .int .i64 (c9 s t)
 )
def k32:c32.Ok aG 78:=a8 (aw MW) (raw:=aq) (λ(_,_)=>[]) (λ(_,_)=>⟨_,rfl⟩) λ(s,t) _=>au (q:=((!bQ s)=true->0=c9 s t)/\
 ((!bQ s)=false->((!bQ t)=true->0=c9 s t)/\
  ((!bQ t)=false->(1<((fB s t).length:Int)->3=c9 s t)/\
   (¬1<((fB s t).length:Int)->(((fB s t).length:Int)=1->1=c9 s t)/\
    (¬((fB s t).length:Int)=1->aH (fD s t.a*fD s t.b)/\(fD s t.a*fD s t.b<0->aH (fD t s.a*fD t s.b)/\(fD t s.a*fD t s.b<0->2=c9 s t)/\
      (¬fD t s.a*fD t s.b<0->0=c9 s t))/\
     (¬fD s t.a*fD s t.b<0->0=c9 s t)))))) (by kernel_rfl) (by
  have d1:=vO s t.a;have d2:=vO s t.b;have d3:=vO t s.a;have d4:=vO t s.b;have m1:=iI d1 d2;have m2:=iI d3 d4;unfold c9
  with_reducible ((repeat' first|apply cl|intro);all_goals repeat cases‹_/\_›)
  all_goals grind)
noncomputable def t32:Tab:=ao [(78,c32)] t99
def ND:t32.Ok aG:=ap MW ⟨k32,trivial⟩
def eg(r:bC)(k:Nat):List S:=(bM k).map (cy r)
def XW(r:bC)(k:Nat):eg r k++[(⟨aBX r k,aBX r ((k+1) % r.length)⟩:S)] =eg r (k+1):=by unfold eg;rw[pP,dZ];rfl
def YY(r:bC)(k:Nat):(eg r k).length=k:=by unfold eg;simp
def ar(r:bC)(k:Nat):Int:=((bM k).map λi=>cross (aBX r i) (nxt r i)).sum
def Aa(r:bC)(k:Nat):ar r (k+1)=ar r k+cross (aBX r k) (aBX r ((k+1) % r.length)):=by unfold ar;rw[pP,dZ,List.sum_append];simp[nxt]
def mw{r:bC}(h:near r=true){i:Nat}(hi:i<r.length){M:Int}(hM:2000<=M:=by decide):bd M (aBX r i):=ti (vT h i hi) hM
def Wy{r:bC}{i:Nat}(hi:i<r.length)(h:(!bP (aBX r i) 2000)=true):near r=false:=by
 cases hn:near r with
 |false=>rfl
 |true=>have:=vT hn i hi;grind
def Va{r:bC}(h:aj (λi=>bP (aBX r i) 2000=true) r.length):near r=true:=by unfold near;rw[dW];intro v hv;obtain⟨j,hj,rfl⟩:=iF hv;rw[<-nth_eq hj];exact h j hj
def Bq{r:bC}(h:near r=true):∀k:Nat,k<=r.length-> -8000000*(k:Int)<=ar r k/\ar r k<=8000000*k
 |0,_=>by simp[ar]
 |k+1,hk=>by
  have ih:=Bq h k (by omega);have:=pu (mw h (i:=k) (by omega) (M:=2000)) (mw h (i:=(k+1) % r.length) (fg _ (by omega)) (M:=2000));rw[Aa];unfold cross;omega
noncomputable def QP:Con:=con (a1 (aL .V)) (λr=>[r.length<=100000]) (λr=> .lst .S (aQ r))
def aBJ:QP.Ok aG 25:=a8 (aw ND) (raw:=aq) (λr=>[lp 5 4 r.length (λ_=>[]) [900] (λk=>[(3,.own 900 .S (eg r k).length)]) (λk=>[(900,.row 57 .S (eg r k))])]
  ) (λ_=>⟨_,rfl⟩) λr hp=>au (q:=((r.length:Int)<2->aQ r=([] :List S))/\
 (¬(r.length:Int)<2->(0=(0:Int)/\(eg r 0).length=0/\eg r 0=([] :List S)/\(0:Nat)<=r.length)/\
  (∀x:Nat,x<=r.length->((x:Int)<r.length->ix (x:Int) r.length/\aH ((x:Int)+1)/\(r.length:Int)≠0/\ix (((x+1) % r.length:Nat):Int) r.length/\(eg r x).length=(eg r x).length/\(eg r x).length+[(⟨(aBX r x),(aBX r ((x+1) % r.length))⟩:S)].length<=1000000/\aH ((x:Int)+1)/\(x:Int)+1=((x+1:Nat):Int)/\(eg r x++[(⟨(aBX r x),(aBX r ((x+1) % r.length))⟩:S)]).length=(eg r (x+1)).length/\eg r x++[(⟨(aBX r x),(aBX r ((x+1) % r.length))⟩:S)] =eg r (x+1)/\x+1<=r.length/\r.length-(x+1)<r.length-x)/\
   (¬(x:Int)<r.length->(eg r x).length=(eg r x).length/\eg r x=aQ r)))) (by kernel_rfl) (by
  change r.length<=100000 at hp;have e0:eg r 0=[] :=rfl;have es:=XW r;have el:=YY r;have ee:aQ r=if r.length<2 then []else eg r r.length:=rfl
  repeat' first|with_reducible apply cl|with_reducible intro
  all_goals repeat with_reducible cases‹_/\_›
  all_goals first|assumption|rfl|exact trivial|exact nb ‹_› |exact nb' ‹_› |omega|exact fC (by omega)|(unfold ix;omega)|(unfold aH;omega)|exact eQ _|exact cB ‹_› ‹_› |(refine cB ‹_› ?_;simp_all;done)|grind)
noncomputable def OR:Tab:=ao [(25,QP)] t32
def LC:OR.Ok aG:=ap ND ⟨aBJ,trivial⟩
noncomputable def Pr:Con:=con (a1 (aL .V)) (λr=>[r.length<=100000]) (λr=> .bool (near r))
def aBe:Pr.Ok aG 77:=a8 (aw LC) (raw:=aq) (λr=>[cnt 2 3 r.length (aj λi=>bP (aBX r i) 2000=true)]
  ) (λ_=>⟨_,rfl⟩) λr hp=>au (q:=(0=(0:Int)/\(0:Nat)<=r.length/\aj (λi=>bP (aBX r i) 2000=true) 0)/\
 (∀x:Nat,x<=r.length/\aj (λi=>bP (aBX r i) 2000=true) x->((x:Int)<r.length->ix (x:Int) r.length/\(0:Int)<=2000/\(2000:Int)<=1000000000000/\((!bP (aBX r x) 2000)=true->false=near r)/\
   ((!bP (aBX r x) 2000)=false->aH ((x:Int)+1)/\(x:Int)+1=((x+1:Nat):Int)/\x+1<=r.length/\aj (λi=>bP (aBX r i) 2000=true) (x+1)/\r.length-(x+1)<r.length-x))/\
  (¬(x:Int)<r.length->true=near r))) (by kernel_rfl) (by
  change r.length<=100000 at hp;have e1:= @Wy r;have e2:= @Va r
  repeat' first|with_reducible apply cl|with_reducible intro
  all_goals repeat with_reducible cases‹_/\_›
  all_goals first|assumption|rfl|exact trivial|exact nb ‹_› |exact nb' ‹_› |omega|exact fC (by omega)|(unfold ix;omega)|(unfold aH;omega)|exact eQ _|exact cB ‹_› ‹_› |(refine cB ‹_› ?_;simp_all;done)|exact(e2 (by rw[show r.length=_ from(by omega)];assumption)).symm|grind)
noncomputable def Nq:Tab:=ao [(77,Pr)] OR
def KR:Nq.Ok aG:=ap LC ⟨aBe,trivial⟩
noncomputable def QI:Con:=con (a1 (aL .V)) (λr=>[near r=true,r.length<=100000]) (λr=> .int .i64 (gL r))
def aBC:QI.Ok aG 79:=a8 (aw KR) (raw:=aq) (λr=>[lp 3 4 r.length (λ_=>[]) [] (λk=>[(3,.int .i64 (ar r k))]) (λ_=>[])]
  ) (λ_=>⟨_,rfl⟩) λr hp=>au (q:=(0=(0:Int)/\0=ar r 0/\(0:Nat)<=r.length)/\
 (∀x:Nat,x<=r.length->((x:Int)<r.length->ix (x:Int) r.length/\aH ((x:Int)+1)/\(r.length:Int)≠0/\ix (((x+1) % r.length:Nat):Int) r.length/\bd 2000000000 (aBX r x)/\bd 2000000000 (aBX r ((x+1) % r.length))/\aH (ar r x+cross (aBX r x) (aBX r ((x+1) % r.length)))/\aH ((x:Int)+1)/\(x:Int)+1=((x+1:Nat):Int)/\ar r x+cross (aBX r x) (aBX r ((x+1) % r.length))=ar r (x+1)/\x+1<=r.length/\r.length-(x+1)<r.length-x)/\
  (¬(x:Int)<r.length->ar r x=gL r))) (by kernel_rfl) (by
  change near r=true/\r.length<=100000 at hp;have e0:ar r r.length=gL r:=rfl;have es:=Aa r;have eb:∀x,x<r.length->aH (ar r x+cross (aBX r x) (aBX r ((x+1) % r.length))):=λx h=>by rw[<-es];exact ce (by have:=Bq hp.1 (x+1) (by omega);omega)
  have en:=λi hi=> @mw r hp.1 i hi 2000000000
  repeat' first|with_reducible apply cl|with_reducible intro
  all_goals repeat with_reducible cases‹_/\_›
  all_goals first|assumption|rfl|exact trivial|exact nb ‹_› |exact nb' ‹_› |omega|exact fC (by omega)|(unfold ix;omega)|(unfold aH;omega)|exact eQ _|exact cB ‹_› ‹_› |(refine cB ‹_› ?_;simp_all;done)|exact eb _ (by omega)|exact en _ (by omega) (by decide)|exact en _ (fg _ (by omega)) (by decide)|(rw[es])|grind)
noncomputable def OJ:Tab:=ao [(79,QI)] Nq
def Kz:OJ.Ok aG:=ap KR ⟨aBC,trivial⟩
noncomputable def PX:Con:=con (a1 aI) (λn=>[-9000000000000000000<=n,n<=9000000000000000000]) (λn=> .int .i64 (n.natAbs:Int)
 )
def aAV:PX.Ok aG 247:=a8 (aw Kz) (raw:=aq) (λ_=>[]) (λ_=>⟨_,rfl⟩) λn hp=>au (q:=(0<=n->n=bh n)/\
 (¬0<=n->aH (0-n)/\0-n=bh n)) (by kernel_rfl) (by
  change-9000000000000000000<=n/\n<=9000000000000000000 at hp
  repeat' first|with_reducible apply cl|with_reducible intro
  all_goals repeat with_reducible cases‹_/\_›
  all_goals first|assumption|rfl|exact trivial|exact nb ‹_› |exact nb' ‹_› |omega|exact fC (by omega)|(unfold ix;omega)|(unfold aH;omega)|exact eQ _|exact cB ‹_› ‹_› |(refine cB ‹_› ?_;simp_all;done)|grind)
noncomputable def NU:Tab:=ao [(247,PX)] OJ
def J3:NU.Ok aG:=ap Kz ⟨aAV,trivial⟩
noncomputable def PY:Con:=con (ac aI (a1 aI)) (λ(a,b)=>[0<=a,0<=b]) (λ(a,b)=> .int .i64 ((bz a.natAbs b.natAbs:Nat):Int))
def aAW:PY.Ok aG 246:=a8 (aw J3) (raw:=aq) (λ(a,b)=>[(1,.mk (Int×Int) (λF _=>Ol F 0 1) [] (λp=>[0<=p.1,0<=p.2,bz p.1.natAbs p.2.natAbs=bz a.natAbs b.natAbs]) (λp=>[(0,.int .i64 p.1),(1,.int .i64 p.2)]) (λ_=>[]) (λp=>p.2.natAbs) (λ_=>[]))]
  ) (λ(_,_)=>⟨_,rfl⟩) λ(a,b) hp=>au (q:=(a=a/\b=b/\0<=a/\0<=b/\bz (bh a) (bh b)=bz (bh a) (bh b))/\
 (∀x:Prod Int Int,0<=x.1/\0<=x.2/\bz (bh x.1) (bh x.2)=bz (bh a) (bh b)->(¬x.2=0->x.2≠0/\x.2=x.2/\dc x.1 x.2=dc x.1 x.2/\0<=x.2/\0<=dc x.1 x.2/\bz (bh x.snd) (bh (dc x.1 x.2))=bz (bh a) (bh b)/\bh (dc x.1 x.2)<bh x.2)/\
  (¬(¬x.2=0)->x.1=bz (bh a) (bh b)))) (by kernel_rfl) (by
  change 0<=a/\0<=b at hp;have e1:∀x y:Int,0<=x->0<=y->bz y.natAbs (dc x y).natAbs=bz x.natAbs y.natAbs:=λx y _ _=>by rw[Ct,Cu,<-Nat.gcd_rec,Cu]
  have e2:∀x y:Int,0<=x->¬y=0->(dc x y).natAbs<y.natAbs:=λx y _ h=>by rw[Ct];exact fg _ (by omega)
  have e3:∀x y:Int,0<=x->0<=dc x y:=λx y h=>Int.tmod_nonneg _ h
  repeat' first|with_reducible apply cl|with_reducible intro
  all_goals repeat with_reducible cases‹_/\_›
  all_goals first|assumption|rfl|exact trivial|exact nb ‹_› |exact nb' ‹_› |omega|exact fC (by omega)|(unfold ix;omega)|(unfold aH;omega)|exact eQ _|exact cB ‹_› ‹_› |(refine cB ‹_› ?_;simp_all;done)|exact e3 _ _ ‹_› |exact e2 _ _ (by assumption) ‹_› |(rw[e1 _ _ (by assumption) (by assumption)];assumption)|(have h0:=xv ‹¬¬_›;simp_all;omega)|grind)
noncomputable def NV:Tab:=ao [(246,PY)] NU
def J4:NV.Ok aG:=ap J3 ⟨aAW,trivial⟩
def PtB(p:Pt):Prop:=(1<=p.den/\p.den<=134217728)/\(-600000000000<=p.x/\p.x<=600000000000)/\(-600000000000<=p.y/\p.y<=600000000000)
def PtB.of{p:Pt}(h:c8 p=true):PtB p:=by unfold c8 dX bP at h;simp only[bv,decide_eq_true_eq]at h;unfold PtB;omega
def PtB.off{p:Pt}(hp:PtB p){v:V}(hv:bd 10000 v):(-1400000000000<=v.x*p.den/\v.x*p.den<=1400000000000)/\(-1400000000000<=v.y*p.den/\v.y*p.den<=1400000000000):=by have h1:=iI (x:=v.x) (y:=p.den) (A:=10000) (B:=134217728) (by unfold bd at hv;omega) (by unfold PtB at hp;omega);have h2:=iI (x:=v.y) (y:=p.den) (A:=10000) (B:=134217728) (by unfold bd at hv;omega) (by unfold PtB at hp;omega);omega
noncomputable def Pq:Con:=con (a1 aT) (λ_=>[]) (λp=> .bool (c8 p))
def aBd:Pq.Ok aG 230:=a8 (aw J4) (raw:=aq) (λp=>[jb 2 42 (!dX p 4000)]
  ) (λ_=>⟨_,rfl⟩) λp _=>au (q:=((p.den<1->true=(!dX p 4000))/\
  (¬p.den<1->(134217728<p.den->true=(!dX p 4000))/\
   (¬134217728<p.den->aH (-4000*p.den)/\(p.x< -4000*p.den->true=(!dX p 4000))/\
    (¬p.x< -4000*p.den->aH (4000*p.den)/\(4000*p.den<p.x->true=(!dX p 4000))/\
     (¬4000*p.den<p.x->aH (-4000*p.den)/\(p.y< -4000*p.den->true=(!dX p 4000))/\
      (¬p.y< -4000*p.den->aH (4000*p.den)/\decide (4000*p.den<p.y)=(!dX p 4000)))))))/\
 (∀y:Unit,((!dX p 4000)=true->false=c8 p)/\
  ((!dX p 4000)=false-> -9000000000000000000<=p.x/\p.x<=9000000000000000000/\ -9000000000000000000<=p.y/\p.y<=9000000000000000000/\0<=(bh p.x:Int)/\0<=(bh p.y:Int)/\0<=(bz (bh (bh p.x:Int)) (bh (bh p.y:Int)):Int)/\0<=p.den/\decide ((bz (bh (bz (bh (bh p.x:Int)) (bh (bh p.y:Int)):Int)) (bh p.den):Int)=1)=c8 p))) (by kernel_rfl) (by
  unfold c8 dX bP;simp only[Int.natAbs_natCast]
  repeat' first|with_reducible apply cl|with_reducible intro
  all_goals repeat with_reducible cases‹_/\_›
  all_goals first|assumption|rfl|exact trivial|exact nb ‹_› |exact nb' ‹_› |omega|exact fC (by omega)|(unfold ix;omega)|(unfold aH;omega)|exact eQ _|exact cB ‹_› ‹_› |(refine cB ‹_› ?_;simp_all;done)|grind)
noncomputable def Np:Tab:=ao [(230,Pq)] NV
def KQ:Np.Ok aG:=ap J4 ⟨aBd,trivial⟩
noncomputable def Pm:Con:=con (ac aV (ac aV (a1 aT))) (λ(a,b,p)=>[bd 10000 a,bd 10000 b,PtB p]) (λ(a,b,p)=> .int .i64 (sgn (fU ⟨a,b⟩ p))
 )
def aA9:Pm.Ok aG 200:=a8 (aw KQ) (raw:=aq) (λ(_,_,_)=>[]) (λ(_,_,_)=>⟨_,rfl⟩) λ(a,b,p) hp=>au (q:=bd 1000000000 b/\bd 1000000000 a/\aH (a.y*p.den)/\aH (p.y-a.y*p.den)/\aH ((aB0 b a).x*(p.y-a.y*p.den))/\aH (a.x*p.den)/\aH (p.x-a.x*p.den)/\aH ((aB0 b a).y*(p.x-a.x*p.den))/\aH ((aB0 b a).x*(p.y-a.y*p.den)-(aB0 b a).y*(p.x-a.x*p.den))/\sgn ((aB0 b a).x*(p.y-a.y*p.den)-(aB0 b a).y*(p.x-a.x*p.den))=sgn (fU (⟨a,b⟩:S) p)) (by kernel_rfl) (by change bd 10000 a/\bd 10000 b/\PtB p at hp;have h1:=hp.2.2.off hp.1;have h2:=jf hp.2.1 hp.1;have h3:=hp.2.2;unfold PtB at h3;have m1:=iI (A:=20000) (B:=2000000000000) h2.1 (y:=p.y-a.y*p.den) (by omega);have m2:=iI (A:=20000) (B:=2000000000000) h2.2 (y:=p.x-a.x*p.den) (by omega);exact⟨hp.2.1.mono,hp.1.mono,ce (by omega),ce (by omega),ce (by omega),ce (by omega),ce (by omega),ce (by omega),ce (by omega),rfl⟩)
noncomputable def Nl:Tab:=ao [(200,Pm)] Np
def KM:Nl.Ok aG:=ap KQ ⟨aA9,trivial⟩
def inR(s:S)(p:Pt):Bool:=decide (min s.a.x s.b.x*p.den<=p.x)&&decide (p.x<=max s.a.x s.b.x*p.den)&&decide (min s.a.y s.b.y*p.den<=p.y)&&decide (p.y<=max s.a.y s.b.y*p.den)
noncomputable def Pn:Con:=con (ac aS (a1 aT)) (λ(s,p)=>[bd 10000 s.a,bd 10000 s.b,PtB p]) (λ(s,p)=> .bool (onR s p))
def aBa:Pn.Ok aG 231:=a8 (aw KM) (raw:=aq) (λ(s,p)=>[jb 2 5 (inR s p)]
  ) (λ(_,_)=>⟨_,rfl⟩) λ(s,p) hp=>au (q:=(aH (Min.min s.a.x s.b.x*p.den)/\(Min.min s.a.x s.b.x*p.den<=p.x->aH (Max.max s.a.x s.b.x*p.den)/\(p.x<=Max.max s.a.x s.b.x*p.den->aH (Min.min s.a.y s.b.y*p.den)/\(Min.min s.a.y s.b.y*p.den<=p.y->aH (Max.max s.a.y s.b.y*p.den)/\decide (p.y<=Max.max s.a.y s.b.y*p.den)=inR s p)/\
    (¬Min.min s.a.y s.b.y*p.den<=p.y->false=inR s p))/\
   (¬p.x<=Max.max s.a.x s.b.x*p.den->false=inR s p))/\
  (¬Min.min s.a.x s.b.x*p.den<=p.x->false=inR s p))/\
 (∀y:Unit,(inR s p=true->bd 10000 s.a/\bd 10000 s.b/\PtB p/\decide (sgn (fU s p)=0)=onR s p)/\
  (inR s p=false->false=onR s p))) (by kernel_rfl) (by
  change bd 10000 s.a/\bd 10000 s.b/\PtB p at hp;have h1:=hp.2.2.off (v:=⟨min s.a.x s.b.x,min s.a.y s.b.y⟩) (by unfold bd at*;grind);have h2:=hp.2.2.off (v:=⟨max s.a.x s.b.x,max s.a.y s.b.y⟩) (by unfold bd at*;grind);dsimp only at h1 h2;have e:onR s p=(inR s p&&sgn (fU s p)==0):=rfl;unfold inR at*
  repeat' first|with_reducible apply cl|with_reducible intro
  all_goals repeat with_reducible cases‹_/\_›
  all_goals first|assumption|rfl|exact trivial|exact nb ‹_› |exact nb' ‹_› |omega|exact fC (by omega)|(unfold ix;omega)|(unfold aH;omega)|exact eQ _|exact cB ‹_› ‹_› |(refine cB ‹_› ?_;simp_all;done)|grind)
noncomputable def Nm:Tab:=ao [(231,Pn)] Nl
def KN:Nm.Ok aG:=ap KM ⟨aBa,trivial⟩
def gD(r:bC)(i k:Nat):Bool:=if k=i+1\/(i=0/\k=r.length-1)then c9 (cy r i) (cy r k)==1 else c9 (cy r i) (cy r k)==0
def un(r:bC):dJ r=true↔3<=r.length/\r.length<=40/\near r=true/\(∀i,i<r.length->bT (aBX r i) (aBX r ((i+1) % r.length)) (aBX r ((i+2) % r.length))≠0)/\(∀i k,i<k->k<r.length->gD r i k=true)/\0<gL r:=by
 unfold dJ;simp only[bv,decide_eq_true_eq,dW,dR,bne_iff_ne,jW];constructor
 .rintro⟨⟨⟨⟨⟨h1,h2⟩,h3⟩,h4⟩,h5⟩,h6⟩;refine⟨h1,h2,h3,h4,λi k hik hk=> ?_,h6⟩;rcases h5 i (by omega) k hk with h|h
  .omega
  .exact h
 .rintro⟨h1,h2,h3,h4,h5,h6⟩;refine⟨⟨⟨⟨⟨h1,h2⟩,h3⟩,h4⟩,λi hi k hk=> ?_⟩,h6⟩;by_cases h:k<=i
  .exact .inl h
  .exact .inr (h5 i k (by omega) hk)
def rW(r:bC)(h:2<=r.length):(aQ r).length=r.length:=by unfold aQ;grind
def rb{r:bC}{i:Nat}(h:2<=r.length)(hi:i<r.length):aK (aQ r) i=cy r i:=by rw[mv (by rw[rW r h];exact hi)];simp only[aQ,if_neg (show¬r.length<2 by omega),ua,ub]
def tu(p:Pt)(l:List S):Bool:=l.foldl (λb s=>b !=iA s p) false
def Tm{p:Pt}{l:List S}{k:Nat}(h:k<l.length):tu p (l.take (k+1))=(tu p (l.take k) !=iA (aK l k) p):=by unfold tu;rw[pU,c7 h,Cs,mv h];rfl
def FD{p:Pt}:∀{l:List S} {k:Nat} (ins:Bool),k<l.length->(∀j,j<k->onR (aK l j) p=false)->onR (aK l k) p=true->jh p l ins=1
 |[],k,ins,h,_,_=>by simp at h
 |s::l,0,ins,h,_,h2=>by
  unfold jh;rw[show onR s p=true from h2];rfl
 |s::l,k+1,ins,h,h1,h2=>by
  unfold jh;rw[show onR s p=false from h1 0 (by omega)];exact FD (l:=l) (k:=k) _ (by simpa using h) (λj hj=>h1 (j+1) (by omega)) h2
def ER{p:Pt}:∀{l:List S} (ins:Bool),(∀j,j<l.length->onR (aK l j) p=false)->jh p l ins=if l.foldl (λb s=>b !=iA s p) ins=true then 2 else 0
 |[],ins,_=>rfl
 |s::l,ins,h1=>by
  unfold jh;rw[show onR s p=false from h1 0 (by simp)];exact ER (l:=l) _ (λj hj=>h1 (j+1) (by grind))
def pr(r:bC)(p:Pt)(k:Nat):Bool:=tu p ((aQ r).take k)
def HR{r:bC}(h:dJ r=true){j:Nat}(hj:j<(aQ r).length):bd 2000 (aK (aQ r) j).a/\bd 2000 (aK (aQ r) j).b:=by obtain⟨h1,h2,h3,_⟩:=(un r).1 h;rw[rW r (by omega)]at hj;rw[rb (by omega) hj];exact⟨mw h3 hj,mw h3 (fg _ (by omega))⟩
def nxR(r:bC)(i k:Nat):Bool:=decide (k=i+1\/(i=0/\k=r.length-1))
abbrev nE(r:bC)(i:Nat):S:=aK (aQ r) i
def upR(e:S)(p:Pt):Bool:=decide (e.a.y*p.den<=p.y)&&decide (p.y<e.b.y*p.den)
def dnR(e:S)(p:Pt):Bool:=decide (e.b.y*p.den<=p.y)&&decide (p.y<e.a.y*p.den)
def tp(r:bC)(i:Nat):Prop:=bT (aBX r i) (aBX r ((i+1) % r.length)) (aBX r ((i+2) % r.length))≠0
noncomputable def c91:Con:=con (a1 (aL .V)) (λr=>[r.length<=100000]) (λr=> .bool (dJ r))
def k91:c91.Ok aG 24:=a8 (aw KN) (raw:=aq) (λr=>[jP 4 [3<=r.length,r.length<=40,near r=true],cnt 5 4 r.length (aj (tp r)),cnt 11 6 r.length (aj λi=>∀k,i<k->k<r.length->gD r i k=true) λi=>[(14,.mk Nat (λF _=>nL F 7) [] (λk=>[i<k,k<=r.length,∀j,i<j->j<k->gD r i j=true]) (λk=>[(7,.int .i64 (k:Int))]) (λ_=>[]) (λk=>r.length-k) λk=>[jb 17 8 (nxR r i k),jb 19 97 (!gD r i k)])]]
  ) (λ_=>⟨_,rfl⟩) λr hp=>au (q:=(((r.length:Int)<3->false=dJ r)/\
  (¬(r.length:Int)<3->(40<(r.length:Int)->false=dJ r)/\
   (¬40<(r.length:Int)->r.length<=100000/\((!near r)=true->false=dJ r)/\
    ((!near r)=false->(3:Nat)<=r.length/\r.length<=40/\near r=true))))/\
 (∀y:Unit,(3:Nat)<=r.length/\r.length<=40/\near r=true->(0=(0:Int)/\(0:Nat)<=r.length/\aj (tp r) 0)/\
  (∀x:Nat,x<=r.length/\aj (tp r) x->((x:Int)<r.length->ix (x:Int) r.length/\aH ((x:Int)+1)/\(r.length:Int)≠0/\ix (((x+1) % r.length:Nat):Int) r.length/\aH ((x:Int)+2)/\(r.length:Int)≠0/\ix (((x+2) % r.length:Nat):Int) r.length/\bd 1000000000 (aBX r x)/\bd 1000000000 (aBX r ((x+1) % r.length))/\bd 1000000000 (aBX r ((x+2) % r.length))/\(bT (aBX r x) (aBX r ((x+1) % r.length)) (aBX r ((x+2) % r.length))=0->false=dJ r)/\
    (¬bT (aBX r x) (aBX r ((x+1) % r.length)) (aBX r ((x+2) % r.length))=0->aH ((x:Int)+1)/\(x:Int)+1=((x+1:Nat):Int)/\x+1<=r.length/\aj (tp r) (x+1)/\r.length-(x+1)<r.length-x))/\
   (¬(x:Int)<r.length->r.length<=100000/\(0=(0:Int)/\(0:Nat)<=r.length/\aj (λi=>∀k:Nat,i<k->k<r.length->gD r i k=true) 0)/\
    (∀x_1:Nat,x_1<=r.length/\aj (λi=>∀k:Nat,i<k->k<r.length->gD r i k=true) x_1->((x_1:Int)<r.length->aH ((x_1:Int)+1)/\((x_1:Int)+1=((x_1+1:Nat):Int)/\x_1<x_1+1/\x_1+1<=r.length/\(∀j:Nat,x_1<j->j<x_1+1->gD r x_1 j=true))/\
      (∀x_2:Nat,x_1<x_2/\x_2<=r.length/\(∀j:Nat,x_1<j->j<x_2->gD r x_1 j=true)->((x_2:Int)<r.length->(aH ((x_1:Int)+1)/\((x_2:Int)=x_1+1->true=nxR r x_1 x_2)/\
         (¬(x_2:Int)=x_1+1->((x_1:Int)=0->aH ((r.length:Int)-1)/\decide ((x_2:Int)=r.length-1)=nxR r x_1 x_2)/\
          (¬(x_1:Int)=0->false=nxR r x_1 x_2)))/\
        (∀y_1:Unit,ix (x_1:Int) (aQ r).length/\ix (x_2:Int) (aQ r).length/\((nxR r x_1 x_2=true->(¬c9 (aK (aQ r) x_1) (aK (aQ r) x_2)=1->true=(!gD r x_1 x_2))/\
           (¬(¬c9 (aK (aQ r) x_1) (aK (aQ r) x_2)=1)->((!nxR r x_1 x_2)=true->decide (¬c9 (aK (aQ r) x_1) (aK (aQ r) x_2)=0)=(!gD r x_1 x_2))/\
            ((!nxR r x_1 x_2)=false->false=(!gD r x_1 x_2))))/\
          (nxR r x_1 x_2=false->((!nxR r x_1 x_2)=true->decide (¬c9 (aK (aQ r) x_1) (aK (aQ r) x_2)=0)=(!gD r x_1 x_2))/\
           ((!nxR r x_1 x_2)=false->false=(!gD r x_1 x_2))))/\
         (∀y_2:Unit,((!gD r x_1 x_2)=true->false=dJ r)/\
          ((!gD r x_1 x_2)=false->aH ((x_2:Int)+1)/\(x_2:Int)+1=((x_2+1:Nat):Int)/\x_1<x_2+1/\x_2+1<=r.length/\(∀j:Nat,x_1<j->j<x_2+1->gD r x_1 j=true)/\r.length-(x_2+1)<r.length-x_2))))/\
       (¬(x_2:Int)<r.length->aH ((x_1:Int)+1)/\(x_1:Int)+1=((x_1+1:Nat):Int)/\x_1+1<=r.length/\aj (λi=>∀k:Nat,i<k->k<r.length->gD r i k=true) (x_1+1)/\r.length-(x_1+1)<r.length-x_1)))/\
     (¬(x_1:Int)<r.length->near r=true/\r.length<=100000/\decide (0<gL r)=dJ r)))))) (by kernel_rfl) (by
  change r.length<=100000 at hp;have iff:=un r;have hf:(dJ r=true->False)->false=dJ r:=λh=>by grind
  have el:3<=r.length->(aQ r).length=r.length:=λh=>rW r (by omega);have en:near r=true->∀i,i<r.length->bd 1000000000 (aBX r i):=λh i hi=>mw h hi;have hp':3<=r.length->∀i k,i<k->k<r.length->gD r i k=if nxR r i k=true then c9 (aK (aQ r) i) (aK (aQ r) k)==1 else c9 (aK (aQ r) i) (aK (aQ r) k)==0:=λh i k h1 h2=>by unfold gD nxR;rw[rb (by omega) (by omega),rb (by omega) (by omega)];grind
  have hE:3<=r.length->r.length<=40->near r=true->∀x y:Nat,¬(x:Int)<r.length->¬(y:Int)<r.length->aj (tp r) x->aj (λi=>∀k:Nat,i<k->k<r.length->gD r i k=true) y->decide (0<gL r)=dJ r:=λh1 h2 h3 x y hx hy h4 h5=>by rw[mE,iff,decide_eq_true_eq];exact⟨λh=>⟨h1,h2,h3,λi hi=>h4 i (by omega),λi k hi hk=>h5 i (by omega) k hi hk,h⟩,λh=>h.2.2.2.2.2⟩
  repeat' first|with_reducible apply cl|with_reducible intro
  all_goals repeat with_reducible cases‹_/\_›
  all_goals first|assumption|rfl|exact trivial|exact nb ‹_› |exact nb' ‹_› |omega|exact fC (by omega)|(unfold ix;omega)|(unfold aH;omega)|exact eQ _|exact cB ‹_› ‹_› |(refine cB ‹_› ?_;simp_all;done)|exact en ‹_› _ (by omega)|exact en ‹_› _ (fg _ (by omega))|(rw[el ‹_›];exact tJ (by omega))|exact hE ‹_› ‹_› ‹_› _ _ ‹_› ‹_› ‹_› ‹_› |(refine hf λh=> ?_;have h:=iff.1 h;first|omega|(exact h.2.2.2.1 _ (by omega) ‹_=0›)|(have h2:=h.2.2.2.2.1 _ _ ‹_› (by omega);simp_all;done)|(simp_all;done))|(refine cB ‹_› ?_;grind)|(unfold nxR;exact(decide_eq_true (by omega)).symm)|(unfold nxR;exact(decide_eq_false (by omega)).symm)|(unfold nxR;exact decide_eq_decide.2 (by omega))|(rw[hp' ‹_› _ _ ‹_› (by omega),‹nxR _ _ _=_›];grind)|(intro j h1 h2;omega)|grind)
noncomputable def t91:Tab:=ao [(24,c91)] Nm
def Me:t91.Ok aG:=ap KN ⟨k91,trivial⟩
noncomputable def QO:Con:=con (ac (aL .V) (a1 aT)) (λ(r,_)=>[r.length<=100000]) (λ(r,p)=> .int .i64 (dK r p))
def aBI:QO.Ok aG 168:=a8 (aw Me) (raw:=aq) (λ(r,p)=>[jP 3 [dJ r=true,c8 p=true],lp 6 7 (aQ r).length (λk=>[aj (λj=>onR (nE r j) p=false) k]) [] (λk=>[(6,.bool (pr r p k))]) (λ_=>[]) λk=>[(10012,.mk Unit (λ_ _=>some ()) [] (λ_=>[]) (λ_=>[(10,.bool (upR (nE r k) p)),(11,.bool (dnR (nE r k) p))]) (λ_=>[]) (λ_=>0) λ_=>[]),jb 13 97 (iA (nE r k) p)]]
  ) (λ(_,_)=>⟨_,rfl⟩) λ(r,p) hp=>au (q:=(r.length<=100000/\((!dJ r)=true->0=dK r p)/\
  ((!dJ r)=false->((!c8 p)=true->0=dK r p)/\
   ((!c8 p)=false->dJ r=true/\c8 p=true)))/\
 (∀y:Unit,dJ r=true/\c8 p=true->r.length<=100000/\(0=(0:Int)/\false=pr r p 0/\(0:Nat)<=(aQ r).length/\aj (λj=>onR (nE r j) p=false) 0)/\
  (∀x:Nat,x<=(aQ r).length/\aj (λj=>onR (nE r j) p=false) x->((x:Int)<(aQ r).length->ix (x:Int) (aQ r).length/\bd 10000 (nE r x).a/\bd 10000 (nE r x).b/\PtB p/\(onR (nE r x) p=true->1=dK r p)/\
    (onR (nE r x) p=false->ix (x:Int) (aQ r).length/\ix (x:Int) (aQ r).length/\(aH ((nE r x).a.y*p.den)/\((nE r x).a.y*p.den<=p.y->aH ((nE r x).b.y*p.den)/\aH ((nE r x).b.y*p.den)/\((nE r x).b.y*p.den<=p.y->aH ((nE r x).a.y*p.den)/\decide (p.y<(nE r x).b.y*p.den)=upR (nE r x) p/\decide (p.y<(nE r x).a.y*p.den)=dnR (nE r x) p)/\
       (¬(nE r x).b.y*p.den<=p.y->decide (p.y<(nE r x).b.y*p.den)=upR (nE r x) p/\false=dnR (nE r x) p))/\
      (¬(nE r x).a.y*p.den<=p.y->aH ((nE r x).b.y*p.den)/\((nE r x).b.y*p.den<=p.y->aH ((nE r x).a.y*p.den)/\false=upR (nE r x) p/\decide (p.y<(nE r x).a.y*p.den)=dnR (nE r x) p)/\
       (¬(nE r x).b.y*p.den<=p.y->false=upR (nE r x) p/\false=dnR (nE r x) p)))/\
     (∀y_1:Unit,((upR (nE r x) p=true->bd 10000 (nE r x).a/\bd 10000 (nE r x).b/\PtB p/\(0<sgn (fU (nE r x) p)->true=iA (nE r x) p)/\
        (¬0<sgn (fU (nE r x) p)->(dnR (nE r x) p=true->bd 10000 (nE r x).a/\bd 10000 (nE r x).b/\PtB p/\decide (sgn (fU (nE r x) p)<0)=iA (nE r x) p)/\
         (dnR (nE r x) p=false->false=iA (nE r x) p)))/\
       (upR (nE r x) p=false->(dnR (nE r x) p=true->bd 10000 (nE r x).a/\bd 10000 (nE r x).b/\PtB p/\decide (sgn (fU (nE r x) p)<0)=iA (nE r x) p)/\
        (dnR (nE r x) p=false->false=iA (nE r x) p)))/\
      (∀y_2:Unit,(iA (nE r x) p=true->aH ((x:Int)+1)/\(x:Int)+1=((x+1:Nat):Int)/\(!pr r p x)=pr r p (x+1)/\x+1<=(aQ r).length/\aj (λj=>onR (nE r j) p=false) (x+1)/\(aQ r).length-(x+1)<(aQ r).length-x)/\
       (iA (nE r x) p=false->aH ((x:Int)+1)/\(x:Int)+1=((x+1:Nat):Int)/\pr r p x=pr r p (x+1)/\x+1<=(aQ r).length/\aj (λj=>onR (nE r j) p=false) (x+1)/\(aQ r).length-(x+1)<(aQ r).length-x)))))/\
   (¬(x:Int)<(aQ r).length->(pr r p x=true->2=dK r p)/\
    (pr r p x=false->0=dK r p))))) (by kernel_rfl) (by
  change r.length<=100000 at hp;have e0:pr r p 0=false:=rfl;have es:∀k,k<(aQ r).length->pr r p (k+1)=(pr r p k !=iA (nE r k) p):=λk h=>Tm h;have eh:∀e,iA e p=(upR e p&&decide (0<sgn (fU e p))||dnR e p&&decide (sgn (fU e p)<0)):=λe=>rfl;have hw0:dJ r=false\/c8 p=false->0=dK r p:=λh=>by unfold dK;grind
  have hw:dJ r=true->c8 p=true->dK r p=jh p (aQ r) false:=λh1 h2=>by unfold dK;simp[h1,h2]
  have eb:dJ r=true->∀j,j<(aQ r).length->bd 2000 (nE r j).a/\bd 2000 (nE r j).b:=λh j hj=>HR h hj;have el:(aQ r).length<=100000:=by unfold aQ;split<;>simp<;>omega
  have ey:dJ r=true->c8 p=true->∀j,j<(aQ r).length->aH ((nE r j).a.y*p.den)/\aH ((nE r j).b.y*p.den):=λh1 h2 j hj=>⟨ce (by have:=(PtB.of h2).off (eb h1 j hj).1.mono;omega),ce (by have:=(PtB.of h2).off (eb h1 j hj).2.mono;omega)⟩;have s1:∀j,j<(aQ r).length->aj (λj=>onR (nE r j) p=false) j->onR (nE r j) p=true->jh p (aQ r) false=1:=λj h1 h2 h3=>FD false h1 h2 h3;have s2:∀k:Nat,¬(k:Int)<(aQ r).length->k<=(aQ r).length->aj (λj=>onR (nE r j) p=false) k->jh p (aQ r) false=if pr r p k=true then 2 else 0:=λk h1 h2 h=>by
   obtain rfl:k=(aQ r).length:=by omega
   rw[ER false h];unfold pr tu;grind
  repeat' first|with_reducible apply cl|with_reducible intro
  all_goals repeat with_reducible cases‹_/\_›
  all_goals first|assumption|rfl|exact trivial|exact nb ‹_› |exact nb' ‹_› |omega|exact fC (by omega)|(unfold ix;omega)|(unfold aH;omega)|exact eQ _|exact cB ‹_› ‹_› |(refine cB ‹_› ?_;simp_all;done)|exact(eb ‹_› _ (by omega)).1.mono|exact(eb ‹_› _ (by omega)).2.mono|exact(ey ‹_› ‹_› _ (by omega)).1|exact(ey ‹_› ‹_› _ (by omega)).2|exact PtB.of ‹_› |exact hw0 (.inl (nb' ‹_›))|exact hw0 (.inr (nb' ‹_›))|(rw[hw ‹_› ‹_›,s1 _ (by omega) ‹_› ‹_›])|(rw[hw ‹_› ‹_›,s2 _ ‹_› ‹_› ‹_›,‹pr _ _ _=_›];rfl)|(rw[es _ (by omega),‹iA _ _=_›];simp;done)|(rw[eh,‹upR _ _=_›,‹dnR _ _=_›];grind)|(rw[eh,‹upR _ _=_›];simp_all;done)|(unfold upR;simp_all;done)|(unfold dnR;simp_all;done)|grind)
noncomputable def OQ:Tab:=ao [(168,QO)] t91
def LB:OQ.Ok aG:=ap Me ⟨aBI,trivial⟩
noncomputable def c36:Con:=con (ac (aL .V) (a1 aV)) (λ(r,_)=>[r.length<=100000]) (λ(r,v)=> .int .i64 (iR r v)
 )
def k36:c36.Ok aG 167:=a8 (aw LB) (raw:=aq) (λ(_,_)=>[]) (λ(_,_)=>⟨_,rfl⟩) λ(r,v) hp=>au (q:=(0:Int)<=8000/\(8000:Int)<=1000000000000/\((!bP v 8000)=true->0=iR r v)/\
 ((!bP v 8000)=false->r.length<=100000/\dK r (bG v)=iR r v)) (by kernel_rfl) (by change r.length<=100000 at hp;unfold iR;grind)
noncomputable def t36:Tab:=ao [(167,c36)] OQ
def aAd:t36.Ok aG:=ap LB ⟨k36,trivial⟩
noncomputable def t97:Tab:=t36
def MY:t97.Ok aG:=aAd
noncomputable def c96:Con:=con (ac aS (a1 aS)) (λ(s,t)=>[c9 s t=1]) (λ(s,t)=> .tup [aT.enc (bG (aBX (fB s t) 0)),.bool true]
 )
def k96:c96.Ok aG 121:=a8 (aw MY) (raw:=aq) (λ(_,_)=>[]) (λ(_,_)=>⟨_,rfl⟩) λ(s,t) hp=>au (q:=(c9 s t=1->ix 0 (fB s t).length/\(bG (aBX (fB s t) 0)).x=(bG (aBX (fB s t) 0)).x/\(bG (aBX (fB s t) 0)).y=(bG (aBX (fB s t) 0)).y/\(bG (aBX (fB s t) 0)).den=(bG (aBX (fB s t) 0)).den/\true=true)/\
 (¬c9 s t=1->(c9 s t=2->bd 1000000000 s.b/\bd 1000000000 s.a/\bd 1000000000 t.b/\bd 1000000000 t.a/\bd 2000000000 (aB0 s.b s.a)/\bd 2000000000 (aB0 t.b t.a)/\bd 1000000000 t.a/\bd 1000000000 s.a/\bd 2000000000 (aB0 t.a s.a)/\bd 2000000000 (aB0 t.b t.a)/\aH (s.a.x*cross (aB0 s.b s.a) (aB0 t.b t.a))/\aH ((aB0 s.b s.a).x*cross (aB0 t.a s.a) (aB0 t.b t.a))/\aH (s.a.x*cross (aB0 s.b s.a) (aB0 t.b t.a)+(aB0 s.b s.a).x*cross (aB0 t.a s.a) (aB0 t.b t.a))/\aH (s.a.y*cross (aB0 s.b s.a) (aB0 t.b t.a))/\aH ((aB0 s.b s.a).y*cross (aB0 t.a s.a) (aB0 t.b t.a))/\aH (s.a.y*cross (aB0 s.b s.a) (aB0 t.b t.a)+(aB0 s.b s.a).y*cross (aB0 t.a s.a) (aB0 t.b t.a))/\False)/\
  (¬c9 s t=2->0=(bG (aBX (fB s t) 0)).x/\0=(bG (aBX (fB s t) 0)).y/\0=(bG (aBX (fB s t) 0)).den/\false=true))) (by kernel_rfl) (by
  change c9 s t=1 at hp;have hl:(fB s t).length=1:=by unfold c9 at hp;grind
  with_reducible ((repeat' first|apply cl|intro);all_goals repeat cases‹_/\_›)
  all_goals grind)
noncomputable def t96:Tab:=ao [(121,c96)] t97
def MZ:t96.Ok aG:=ap MY ⟨k96,trivial⟩
def ut(r:bC):∀k,bl r k<=k
 |0=>bA _
 |k+1=>by unfold bl;have:=ut r k;grind
def yU{r:bC}{k:Nat}(h:0<k):bl r k<k:=Geo.yU r k h
def XF(r:bC)(k:Nat):bl r (k+1)=if bR (aBX r k) (aBX r (bl r k))=true then k else bl r k:=rfl
noncomputable def P2:Con:=con (a1 (aL .V)) (λr=>[r.length<=100000]) (λr=> .lst .V (dO r))
def aBo:P2.Ok aG 170:=a8 (aw MZ) (raw:=aq) (λr=>[lp 3 4 r.length (λ_=>[]) [] (λk=>[(3,.int .i64 (bl r k))]) (λ_=>[])]
  ) (λ_=>⟨_,rfl⟩) λr hp=>au (q:=(0=(0:Int)/\0=(bl r 0:Int)/\(0:Nat)<=r.length)/\
 (∀x:Nat,x<=r.length->((x:Int)<r.length->ix (x:Int) r.length/\ix (bl r x:Int) r.length/\(bR (aBX r x) (aBX r (bl r x))=true->aH ((x:Int)+1)/\(x:Int)+1=((x+1:Nat):Int)/\(x:Int)=bl r (x+1)/\x+1<=r.length/\r.length-(x+1)<r.length-x)/\
   (bR (aBX r x) (aBX r (bl r x))=false->aH ((x:Int)+1)/\(x:Int)+1=((x+1:Nat):Int)/\(bl r x:Int)=bl r (x+1)/\x+1<=r.length/\r.length-(x+1)<r.length-x))/\
  (¬(x:Int)<r.length->(0<=(bl r x:Int)/\(bl r x:Int)<=r.length)/\([] :List V).length+(cP (bl r x) r).length<=1000000/\(0<=(bl r x:Int)/\(bl r x:Int)<=r.length)/\(([] :List V)++cP (bl r x) r).length=(([] :List V)++cP (bl r x) r).length/\(([] :List V)++cP (bl r x) r).length+(bL (bl r x) r).length<=1000000/\(([] :List V)++cP (bl r x) r++bL (bl r x) r).length=(([] :List V)++cP (bl r x) r++bL (bl r x) r).length/\([] :List V)++cP (bl r x) r++bL (bl r x) r=dO r))) (by kernel_rfl) (by
  change r.length<=100000 at hp;have e0:bl r 0=0:=rfl;have es:=XF r;have el:=ut r;have eb:([] :List V)++cP (bl r r.length) r++bL (bl r r.length) r=dO r:=rfl
  with_reducible ((repeat' first|apply cl|intro);all_goals repeat cases‹_/\_›)
  all_goals grind)
noncomputable def N6:Tab:=ao [(170,P2)] t96
def Y4:N6.Ok aG:=ap MZ ⟨aBo,trivial⟩
noncomputable def t71:Tab:=N6
def Mr:t71.Ok aG:=Y4
def Wj{a b:bC}{k:Nat}(h:¬aBX a k=aBX b k):false=(a==b):=by grind
def VC{a b:bC}(hl:(a.length:Int)=b.length){k:Nat}(hk:¬(k:Int)<a.length)(h:aj (λj=>aBX a j=aBX b j) k):true=(a==b):=by symm;rw[beq_iff_eq];refine List.ext_getElem (by omega) λj h1 h2=> ?_;rw[<-nth_eq h1,<-nth_eq h2];exact h j (by omega)
noncomputable def c23:Con:=con (ac (aL .V) (a1 (aL .V))) (λ(a,_)=>[a.length<=1000000]) (λ(a,b)=> .bool (a==b))
def k23:c23.Ok aG 169:=a8 (aw Mr) (raw:=aq) (λ(a,b)=>[cnt 4 5 a.length (aj λj=>aBX a j=aBX b j)]
  ) (λ(_,_)=>⟨_,rfl⟩) λ(a,b) hp=>au (q:=(¬(a.length:Int)=b.length->false=(a==b))/\
 (¬(¬(a.length:Int)=b.length)->(0=(0:Int)/\(0:Nat)<=a.length/\aj (λj=>aBX a j=aBX b j) 0)/\
  (∀x:Nat,x<=a.length/\aj (λj=>aBX a j=aBX b j) x->((x:Int)<a.length->ix (x:Int) a.length/\ix (x:Int) b.length/\(¬(aBX a x)=(aBX b x)->false=(a==b))/\
    (¬(¬(aBX a x)=(aBX b x))->aH ((x:Int)+1)/\(x:Int)+1=((x+1:Nat):Int)/\x+1<=a.length/\aj (λj=>aBX a j=aBX b j) (x+1)/\a.length-(x+1)<a.length-x))/\
   (¬(x:Int)<a.length->true=(a==b))))) (by kernel_rfl) (by
  change a.length<=1000000 at hp
  with_reducible ((repeat' first|apply cl|intro);all_goals repeat cases‹_/\_›)
  all_goals first|rfl|exact Wj ‹¬aBX a _=_› |exact VC (by omega) ‹_› ‹_› |grind)
noncomputable def t23:Tab:=ao [(169,c23)] t71
def NG:t23.Ok aG:=ap Mr ⟨k23,trivial⟩
noncomputable def c76:Con:=con (ac (aL .V) (a1 (aL .V))) (λ(a,_)=>[a.length<=1000000]) (λ(a,b)=> .bool (a==b)
 )
def k76:c76.Ok aG 103:=a8 (aw NG) (raw:=aq) (λ(_,_)=>[]) (λ(_,_)=>⟨_,rfl⟩) λ(a,b) hp=>au (q:=a.length<=1000000/\(a==b)=(a==b)) (by kernel_rfl) (by change a.length<=1000000 at hp;grind)
noncomputable def t76:Tab:=ao [(103,c76)] t23
def Mm:t76.Ok aG:=ap NG ⟨k76,trivial⟩
def Fit(s:Shape):Prop:=s.outer.length<=1000/\s.holes.length<=900/\∀r∈s.holes,r.length<=1000
def Fit.rings{s:Shape}(hf:Fit s):∀r∈dH s,r.length<=1000:=by
 intro r hr;unfold dH at hr;rcases bc.1 hr with rfl|hr
 .exact hf.1
 .exact hf.2.2 r hr
def Fit.ring{s:Shape}(hf:Fit s){k:Nat}(hk:k<(dH s).length):(aZ (dH s) k).length<=1000:=hf.rings _ (sG hk)
def Fit.hole{s:Shape}(hf:Fit s){k:Nat}(hk:k<s.holes.length):(aZ s.holes k).length<=1000:=hf.2.2 _ (sG hk)
def Fit.rlen{s:Shape}(hf:Fit s):(dH s).length<=901:=by have:=hf.2.1;simp[dH];omega
def eS(s:Shape)(k:Nat):List S:=((dH s).take k).flatMap aQ
def HW{s:Shape}{k:Nat}(h:k<(dH s).length):eS s k++aQ (aZ (dH s) k)=eS s (k+1):=by unfold eS;rw[pU,c7 h,List.flatMap_append,sX h];simp
def zd(r:bC):(aQ r).length<=r.length:=by unfold aQ;grind
def Iu{s:Shape}(hf:Fit s):∀k,k<=(dH s).length->(eS s k).length<=1000*k
 |0,_=>by simp[eS]
 |k+1,h=>by
  rw[<-HW (by omega),dn];have:=Iu hf k (by omega);have:=zd (aZ (dH s) k);have:=hf.ring (k:=k) (by omega);omega
def YZ(s:Shape):eS s (dH s).length=A5 s:=by unfold eS;rw[kY];rfl
noncomputable def QQ:Con:=con (a1 aSh) (λs=>[Fit s]) (λs=> .lst .R (dH s)
 )
def aBK:QQ.Ok aG 102:=a8 (aw Mm) (raw:=aq) (λ_=>[]) (λ_=>⟨_,rfl⟩) λs hp=>au (q:=[s.outer].length+s.holes.length<=1000000/\([s.outer] ++s.holes).length=([s.outer] ++s.holes).length/\[s.outer] ++s.holes=dH s) (by kernel_rfl) (by change Fit s at hp;have h:=hp.2.1;exact⟨by simp;omega,rfl,rfl⟩)
noncomputable def OS:Tab:=ao [(102,QQ)] t76
def LD:OS.Ok aG:=ap Mm ⟨aBK,trivial⟩
noncomputable def c33:Con:=con (a1 aSh) (λs=>[Fit s]) (λs=> .lst .S (A5 s))
def k33:c33.Ok aG 34:=a8 (aw LD) (raw:=aq) (λs=>[lp 4 5 (dH s).length (λ_=>[]) [900] (λk=>[(3,.own 900 .S (eS s k).length)]) (λk=>[(900,.row 57 .S (eS s k))])]
  ) (λ_=>⟨_,rfl⟩) λs hp=>au (q:=Fit s/\(0=(0:Int)/\(eS s 0).length=0/\eS s 0=([] :List S)/\(0:Nat)<=(dH s).length)/\
 (∀x:Nat,x<=(dH s).length->((x:Int)<(dH s).length->ix (x:Int) (dH s).length/\(aZ (dH s) x).length<=100000/\(eS s x).length=(eS s x).length/\(eS s x).length+(aQ (aZ (dH s) x)).length<=1000000/\aH ((x:Int)+1)/\(x:Int)+1=((x+1:Nat):Int)/\(eS s x++aQ (aZ (dH s) x)).length=(eS s (x+1)).length/\eS s x++aQ (aZ (dH s) x)=eS s (x+1)/\x+1<=(dH s).length/\(dH s).length-(x+1)<(dH s).length-x)/\
  (¬(x:Int)<(dH s).length->(eS s x).length=(eS s x).length/\eS s x=A5 s))) (by kernel_rfl) (by
  change Fit s at hp;have e0:eS s 0=[] :=rfl;have ea:=YZ s;have er:=hp.rlen;have es:= @HW s;have eb:∀k,k<(dH s).length->(eS s k).length+(aQ (aZ (dH s) k)).length<=1000000:=λk h=>by have:=Iu hp (k+1) (by omega);grind
  have ek:= @Fit.ring s hp
  with_reducible ((repeat' first|apply cl|intro);all_goals repeat cases‹_/\_›)
  all_goals grind)
noncomputable def t33:Tab:=ao [(34,c33)] OS
def NC:t33.Ok aG:=ap LD ⟨k33,trivial⟩
def fk(a b:bC)(al:Bool):Bool:=if al=true then oA a b else jG a b
def Sq{a b:bC}{al:Bool}{j:Nat}(hj:j<a.length)(h:(iR b (aBX a j)==2)≠al):fk a b al= !al:=by
 unfold fk oA jG;cases al with
 |true=>rw[if_pos rfl];exact Cv.2 ⟨_,Gq hj,by simpa using h⟩
 |false=>rw[if_neg (by simp)];exact nr.2 ⟨_,Gq hj,by simpa using h⟩
def SD{a b:bC}{al:Bool}(h:∀j,j<a.length->(iR b (aBX a j)==2)=al):fk a b al=al:=by
 unfold fk oA jG;cases al with
 |true=>
  rw[if_pos rfl];refine dW.2 λx hx=> ?_;obtain⟨j,hj,rfl⟩:=iF hx;rw[<-nth_eq hj];exact h j hj
 |false=>
  rw[if_neg (by simp)];refine xw.2 λx hx=> ?_;obtain⟨j,hj,rfl⟩:=iF hx;rw[<-nth_eq hj,h j hj];simp
def gu(s:Shape)(i:Nat):Bool:=dJ (aZ s.holes i)&& !gS (aZ s.holes i) s.outer&&oA (aZ s.holes i) s.outer
def gR(s:Shape)(i k:Nat):Bool:= !gS (aZ s.holes i) (aZ s.holes k)&& !jG (aZ s.holes i) (aZ s.holes k)&& !jG (aZ s.holes k) (aZ s.holes i)
def gg(s:Shape)(k:Nat):Nat:=s.outer.length+((s.holes.take k).map fh).sum
def Do(s:Shape):gg s 0=s.outer.length:=by simp[gg]
def Dp{s:Shape}{k:Nat}(h:k<s.holes.length):gg s (k+1)=gg s k+(aZ s.holes k).length:=by unfold gg;rw[pU,c7 h,dZ,List.sum_append,sX h,<-Nat.add_assoc];rfl
def S6(s:Shape):gg s s.holes.length=ip s:=by unfold gg ip dH;grind
def UQ{s:Shape}(hf:Fit s)(k:Nat)(hk:k<=s.holes.length):gg s k<=1000*(k+1):=by
 induction k with
 |zero=>have:=hf.1;rw[Do];omega
 |succ k ih=>
  rw[Dp (by omega)];have h1:=ih (by omega);have h2:=hf.2.2 _ (sG (show k<s.holes.length by omega));omega
def rX(s:Shape):dU s=true↔s.holes.length<=6/\dJ s.outer=true/\(∀i,i<s.holes.length->gu s i=true/\∀k,k<i->gR s i k=true)/\ip s<=80:=by unfold dU;simp only[bv,decide_eq_true_eq,dW,dR];unfold gu gR;grind
def Vf{a b:bC}{i j:Nat}(h:¬c9 (aK (aQ a) i) (aK (aQ b) j)=0)(hi:i<(aQ a).length)(hj:j<(aQ b).length):true=gS a b:=by unfold gS;symm;exact nr.2 ⟨_,vS hi,nr.2 ⟨_,vS hj,by simpa using h⟩⟩
def qw(a b:bC)(i:Nat):Prop:=∀j,j<(aQ b).length->c9 (aK (aQ a) i) (aK (aQ b) j)=0
def Ve{a b:bC}{k:Nat}(hk:¬(k:Int)<(aQ a).length)(h:aj (qw a b) k):false=gS a b:=by unfold gS;symm;refine xw.2 λx hx=> ?_;obtain⟨i,hi,rfl⟩:=iF hx;rw[<-mv hi,Bool.not_eq_true];refine xw.2 λy hy=> ?_;obtain⟨j,hj,rfl⟩:=iF hy;rw[<-mv hj,h i (by omega) j hj];decide
def Wx{a b:bC}{i k:Nat}(hk:¬(k:Int)<(aQ b).length)(h:aj (λj=>c9 (aK (aQ a) i) (aK (aQ b) j)=0) k):qw a b i:=λj hj=>h j (by omega)
noncomputable def QE:Con:=con (ac (aL .V) (a1 (aL .V))) (λ(a,b)=>[a.length<=100000,b.length<=100000]) (λ(a,b)=> .bool (gS a b))
def aBz:QE.Ok aG 99:=a8 (aw NC) (raw:=aq) (λ(a,b)=>[cnt 3 7 (aQ a).length (aj (qw a b)) λi=>[cnt 6 8 (aQ b).length (aj λj=>c9 (aK (aQ a) i) (aK (aQ b) j)=0)]]
  ) (λ(_,_)=>⟨_,rfl⟩) λ(a,b) hp=>au (q:=a.length<=100000/\b.length<=100000/\(0=(0:Int)/\(0:Nat)<=(aQ a).length/\aj (qw a b) 0)/\
 (∀x:Nat,x<=(aQ a).length/\aj (qw a b) x->((x:Int)<(aQ a).length->(0=(0:Int)/\(0:Nat)<=(aQ b).length/\aj (λj=>c9 (aK (aQ a) x) (aK (aQ b) j)=0) 0)/\
   (∀x_1:Nat,x_1<=(aQ b).length/\aj (λj=>c9 (aK (aQ a) x) (aK (aQ b) j)=0) x_1->((x_1:Int)<(aQ b).length->ix (x:Int) (aQ a).length/\ix (x_1:Int) (aQ b).length/\(¬c9 (aK (aQ a) x) (aK (aQ b) x_1)=0->true=gS a b)/\
     (¬(¬c9 (aK (aQ a) x) (aK (aQ b) x_1)=0)->aH ((x_1:Int)+1)/\(x_1:Int)+1=((x_1+1:Nat):Int)/\x_1+1<=(aQ b).length/\aj (λj=>c9 (aK (aQ a) x) (aK (aQ b) j)=0) (x_1+1)/\(aQ b).length-(x_1+1)<(aQ b).length-x_1))/\
    (¬(x_1:Int)<(aQ b).length->aH ((x:Int)+1)/\(x:Int)+1=((x+1:Nat):Int)/\x+1<=(aQ a).length/\aj (qw a b) (x+1)/\(aQ a).length-(x+1)<(aQ a).length-x)))/\
  (¬(x:Int)<(aQ a).length->false=gS a b))) (by kernel_rfl) (by
  change a.length<=100000/\b.length<=100000 at hp;have ha:=zd a;have hb:=zd b
  repeat' first|with_reducible apply cl|with_reducible intro
  all_goals repeat with_reducible cases‹_/\_›
  all_goals first|assumption|rfl|exact trivial|exact nb ‹_› |exact nb' ‹_› |omega|exact fC (by omega)|(unfold ix;omega)|(unfold aH;omega)|exact eQ _|exact cB ‹_› ‹_› |(refine cB ‹_› ?_;simp_all;done)|exact Vf ‹¬c9 _ _=0› (by omega) (by omega)|exact Ve ‹_› ‹_› |exact cB ‹_› (Wx ‹_› ‹_›)|(refine cB ‹_› ?_;exact xv ‹¬¬_›)|grind)
noncomputable def OH:Tab:=ao [(99,QE)] t33
def Kt:OH.Ok aG:=ap NC ⟨aBz,trivial⟩
def inQ(a b:bC)(al:Bool)(j:Nat):Prop:=(iR b (aBX a j)==2)=al
noncomputable def QD:Con:=con (ac (aL .V) (ac (aL .V) (a1 aB))) (λ(a,b,_)=>[a.length<=100000,b.length<=100000]) (λ(a,b,al)=> .bool (fk a b al))
def aBy:QD.Ok aG 100:=a8 (aw Kt) (raw:=aq) (λ(a,b,al)=>[cnt 2 7 a.length (aj (inQ a b al))]
  ) (λ(_,_,_)=>⟨_,rfl⟩) λ(a,b,al) hp=>au (q:=(0=(0:Int)/\(0:Nat)<=a.length/\aj (inQ a b al) 0)/\
 (∀x:Nat,x<=a.length/\aj (inQ a b al) x->((x:Int)<a.length->ix (x:Int) a.length/\b.length<=100000/\((decide (iR b (aBX a x)=2) !=al)=true->(!al)=fk a b al)/\
   ((decide (iR b (aBX a x)=2) !=al)=false->aH ((x:Int)+1)/\(x:Int)+1=((x+1:Nat):Int)/\x+1<=a.length/\aj (inQ a b al) (x+1)/\a.length-(x+1)<a.length-x))/\
  (¬(x:Int)<a.length->al=fk a b al))) (by kernel_rfl) (by
  change a.length<=100000/\b.length<=100000 at hp;have c1:∀j:Nat,(decide (iR b (aBX a j)=2) !=al)=true->j<a.length->(!al)=fk a b al:=λj h hj=>(Sq hj (bne_iff_ne.1 h)).symm;have c2:∀j:Nat,(decide (iR b (aBX a j)=2) !=al)=false->inQ a b al j:=λj h=>bne_eq_false_iff_eq.1 h;have e2:∀k:Nat,¬(k:Int)<a.length->aj (inQ a b al) k->fk a b al=al:=λk h1 h2=>SD λj hj=>h2 j (by omega)
  repeat' first|with_reducible apply cl|with_reducible intro
  all_goals repeat with_reducible cases‹_/\_›
  all_goals first|assumption|rfl|exact trivial|exact nb ‹_› |exact nb' ‹_› |omega|exact fC (by omega)|(unfold ix;omega)|(unfold aH;omega)|exact eQ _|exact cB ‹_› ‹_› |(refine cB ‹_› ?_;simp_all;done)|exact(e2 _ ‹_› ‹_›).symm|grind|exact cB ‹_› (c2 _ ‹_›)|grind)
noncomputable def OG:Tab:=ao [(100,QD)] OH
def Ks:OG.Ok aG:=ap Kt ⟨aBy,trivial⟩
noncomputable def c58:Con:=con (a1 aSh) (λs=>[Fit s]) (λs=> .bool (dU s))
def k58:c58.Ok aG 31:=a8 (aw Ks) (raw:=aq) (λs=>[jP 3 [s.holes.length<=6,dJ s.outer=true],lp 5 4 s.holes.length (λk=>[aj (λi=>gu s i=true/\∀k,k<i->gR s i k=true) k]) [] (λk=>[(3,.int .i64 (gg s k:Int))]) (λ_=>[]) λi=>[jP 11 [gu s i=true],cnt 12 6 i (aj λk=>gR s i k=true)]]
  ) (λ_=>⟨_,rfl⟩) λs hp=>au (q:=((6<(s.holes.length:Int)->false=dU s)/\
  (¬6<(s.holes.length:Int)->s.outer.length<=100000/\((!dJ s.outer)=true->false=dU s)/\
   ((!dJ s.outer)=false->s.holes.length<=6/\dJ s.outer=true)))/\
 (∀y:Unit,s.holes.length<=6/\dJ s.outer=true->(0=(0:Int)/\(s.outer.length:Int)=gg s 0/\(0:Nat)<=s.holes.length/\aj (λi=>gu s i=true/\(∀k:Nat,k<i->gR s i k=true)) 0)/\
  (∀x:Nat,x<=s.holes.length/\aj (λi=>gu s i=true/\(∀k:Nat,k<i->gR s i k=true)) x->((x:Int)<s.holes.length->ix (x:Int) s.holes.length/\aH ((gg s x:Int)+(aZ s.holes x).length)/\((aZ s.holes x).length<=100000/\((!dJ (aZ s.holes x))=true->false=dU s)/\
     ((!dJ (aZ s.holes x))=false->(aZ s.holes x).length<=100000/\s.outer.length<=100000/\(gS (aZ s.holes x) s.outer=true->false=dU s)/\
      (gS (aZ s.holes x) s.outer=false->(aZ s.holes x).length<=100000/\s.outer.length<=100000/\((!fk (aZ s.holes x) s.outer true)=true->false=dU s)/\
       ((!fk (aZ s.holes x) s.outer true)=false->gu s x=true))))/\
    (∀y_1:Unit,gu s x=true->(0=(0:Int)/\(0:Nat)<=x/\aj (λk=>gR s x k=true) 0)/\
     (∀x_1:Nat,x_1<=x/\aj (λk=>gR s x k=true) x_1->((x_1:Int)<x->ix (x_1:Int) s.holes.length/\(aZ s.holes x).length<=100000/\(aZ s.holes x_1).length<=100000/\(gS (aZ s.holes x) (aZ s.holes x_1)=true->false=dU s)/\
       (gS (aZ s.holes x) (aZ s.holes x_1)=false->ix (x_1:Int) s.holes.length/\(aZ s.holes x).length<=100000/\(aZ s.holes x_1).length<=100000/\(fk (aZ s.holes x) (aZ s.holes x_1) false=true->false=dU s)/\
        (fk (aZ s.holes x) (aZ s.holes x_1) false=false->ix (x_1:Int) s.holes.length/\(aZ s.holes x_1).length<=100000/\(aZ s.holes x).length<=100000/\(fk (aZ s.holes x_1) (aZ s.holes x) false=true->false=dU s)/\
         (fk (aZ s.holes x_1) (aZ s.holes x) false=false->aH ((x_1:Int)+1)/\(x_1:Int)+1=((x_1+1:Nat):Int)/\x_1+1<=x/\aj (λk=>gR s x k=true) (x_1+1)/\x-(x_1+1)<x-x_1))))/\
      (¬(x_1:Int)<x->aH ((x:Int)+1)/\(x:Int)+1=((x+1:Nat):Int)/\(gg s x:Int)+(aZ s.holes x).length=gg s (x+1)/\x+1<=s.holes.length/\aj (λi=>gu s i=true/\(∀k:Nat,k<i->gR s i k=true)) (x+1)/\s.holes.length-(x+1)<s.holes.length-x))))/\
   (¬(x:Int)<s.holes.length->decide ((gg s x:Int)<=80)=dU s)))) (by kernel_rfl) (by
  change Fit s at hp;have hf:(dU s=true->False)->false=dU s:=λh=>by grind
  have n1:∀i,gu s i=false->i<s.holes.length->false=dU s:=λi h hi=>hf λhv=>by rw[(((rX s).1 hv).2.2.1 i hi).1]at h;cases h
  have n2:∀i k,gR s i k=false->k<i->i<s.holes.length->false=dU s:=λi k h hk hi=>hf λhv=>by rw[(((rX s).1 hv).2.2.1 i hi).2 k hk]at h;cases h
  have a1:∀i,(!dJ (aZ s.holes i))=true->i<s.holes.length->false=dU s:=λi h=>n1 i (by unfold gu;grind);have a2:∀i,gS (aZ s.holes i) s.outer=true->i<s.holes.length->false=dU s:=λi h=>n1 i (by unfold gu;rw[h];simp);have a3:∀i,(!fk (aZ s.holes i) s.outer true)=true->i<s.holes.length->false=dU s:=λi h=>n1 i (by unfold gu;rw[show oA (aZ s.holes i) s.outer=false from nb' h];simp);have a4:∀i,(!dJ (aZ s.holes i))=false->gS (aZ s.holes i) s.outer=false->(!fk (aZ s.holes i) s.outer true)=false->gu s i=true:=λi h1 h2 h3=>by unfold gu;rw[nb h1,h2,show oA (aZ s.holes i) s.outer=true from nb h3];rfl
  have b1:∀i k,gS (aZ s.holes i) (aZ s.holes k)=true->k<i->i<s.holes.length->false=dU s:=λi k h=>n2 i k (by unfold gR;rw[h];rfl);have b2:∀i k,fk (aZ s.holes i) (aZ s.holes k) false=true->k<i->i<s.holes.length->false=dU s:=λi k h=>n2 i k (by unfold gR;rw[show jG (aZ s.holes i) (aZ s.holes k)=true from h];simp);have b3:∀i k,fk (aZ s.holes k) (aZ s.holes i) false=true->k<i->i<s.holes.length->false=dU s:=λi k h=>n2 i k (by unfold gR;rw[show jG (aZ s.holes k) (aZ s.holes i)=true from h];simp);have b4:∀i k,gS (aZ s.holes i) (aZ s.holes k)=false->fk (aZ s.holes i) (aZ s.holes k) false=false->fk (aZ s.holes k) (aZ s.holes i) false=false->gR s i k=true:=λi k h1 h2 h3=>by unfold gR;rw[h1,show jG (aZ s.holes i) (aZ s.holes k)=false from h2,show jG (aZ s.holes k) (aZ s.holes i)=false from h3];rfl
  have b5:∀i k:Nat,¬(k:Int)<i->aj (λk=>gR s i k=true) k->∀k,k<i->gR s i k=true:=λi k h1 h2 j hj=>h2 j (by omega);have e0:=Do s;have es:∀k,k<s.holes.length->(gg s k:Int)+(aZ s.holes k).length=gg s (k+1):=λk h=>by rw[Dp h];rfl
  have el:∀k,k<s.holes.length->aH ((gg s k:Int)+(aZ s.holes k).length):=λk h=>by rw[es k h];exact ce (by have:=UQ hp (k+1) (by omega);have:=hp.2.1;omega)
  have ef:s.holes.length<=6->dJ s.outer=true->∀k:Nat,¬(k:Int)<s.holes.length->k<=s.holes.length->aj (λi=>gu s i=true/\∀k,k<i->gR s i k=true) k->decide ((gg s k:Int)<=80)=dU s:=λh1 h2 k h3 h4 h5=>by
   obtain rfl:k=s.holes.length:=by omega
   rw[S6,mE,rX,decide_eq_true_eq];exact⟨λh=>⟨h1,h2,h5,by omega⟩,λh=>by omega⟩
  have ho:=hp.1;have hh:= @Fit.hole s hp
  repeat' first|with_reducible apply cl|with_reducible intro
  all_goals repeat with_reducible cases‹_/\_›
  all_goals first|assumption|rfl|exact trivial|exact nb ‹_› |exact nb' ‹_› |omega|exact fC (by omega)|(unfold ix;omega)|(unfold aH;omega)|exact eQ _|exact cB ‹_› ‹_› |(refine cB ‹_› ?_;simp_all;done)|exact cZ (hh (by omega)) (by decide)|exact el _ (by omega)|exact es _ (by omega)|exact ef ‹_› ‹_› _ ‹_› ‹_› ‹_› |exact a1 _ ‹_› (by omega)|exact a2 _ ‹_› (by omega)|exact a3 _ ‹_› (by omega)|exact a4 _ ‹_› ‹_› ‹_› |exact b1 _ _ ‹_› (by omega) (by omega)|exact b2 _ _ ‹_› (by omega) (by omega)|exact b3 _ _ ‹_› (by omega) (by omega)|exact cB ‹_› (b4 _ _ ‹_› ‹_› ‹_›)|exact cB ‹_› ⟨‹_›,b5 _ _ ‹_› ‹_›⟩|exact hf λh=>by have h:=(rX s).1 h;first|omega|grind|grind)
noncomputable def t58:Tab:=ao [(31,c58)] OG
def Mw:t58.Ok aG:=ap Ks ⟨k58,trivial⟩
def Eg{p:Pt}{l:List bC}{w:Int}{k:Nat}(hk:k<l.length)(h:∀j,j<k->dK (aZ l j) p≠2/\dK (aZ l j) p≠1):lj p l w=if dK (aZ l k) p=2 then 0 else if dK (aZ l k) p=1 then 1 else lj p (l.drop (k+1)) w:=by
 induction l generalizing k with
 |nil=>simp at hk
 |cons r l ih=>
  cases k with
  |zero=>rfl
  |succ k=>
   have h0:=h 0 (by omega);have e:aZ (r::l) 0=r:=rfl;rw[e]at h0;have e1:lj p (r::l) w=(if dK r p=2 then 0 else if dK r p=1 then 1 else lj p l w):=rfl;rw[e1,if_neg h0.1,if_neg h0.2];exact ih (k:=k) (by grind) (λj hj=>h (j+1) (by omega))
def Sr{p:Pt}{l:List bC}{w:Int}(h:∀j,j<l.length->dK (aZ l j) p≠2/\dK (aZ l j) p≠1):lj p l w=w:=by
 induction l with
 |nil=>rfl
 |cons r l ih=>
  have h0:=h 0 (by simp);have e:aZ (r::l) 0=r:=rfl;rw[e]at h0;unfold lj;rw[if_neg h0.1,if_neg h0.2];exact ih (λj hj=>h (j+1) (by grind))
def HB{X:List bC}{h:bC}:∀{k:Nat},k<=X.length->(∀j,j<k->bR (aBX (aZ X j) 0) (aBX h 0)=true)->(k<X.length->bR (aBX (aZ X k) 0) (aBX h 0)=false)->k9 X h=X.take k++[h] ++X.drop k:=by
 induction X with
 |nil=>intro k hk _ _;simp[k9]
 |cons q r ih=>
  intro k hk h1 h2;cases k with
  |zero=>
   unfold k9;rw[if_neg (by rw[show bR (aBX q 0) (aBX h 0)=false from h2 (by simp)];simp)];rfl
  |succ k=>
   unfold k9;rw[if_pos (show bR (aBX q 0) (aBX h 0)=true from h1 0 (by omega)),ih (k:=k) (by grind) (λj hj=>h1 (j+1) (by omega)) (λhh=>h2 (by grind))];rfl
def bV(s:Shape)(i:Nat):List bC:=tT ((s.holes.take i).map dO)
def DW{s:Shape}{i:Nat}(h:i<s.holes.length):bV s (i+1)=k9 (bV s i) (dO (aZ s.holes i)):=by unfold bV tT;rw[pU,c7 h,dZ,Cs,sX h];rfl
def DX(s:Shape)(i:Nat):(bV s i).Perm ((s.holes.take i).map dO):=SY _
def RW(s:Shape)(i:Nat):(bV s i).length<=s.holes.length:=by rw[(DX s i).length_eq,d6,fV];omega
def SX{s:Shape}{i:Nat}{r:bC}(h:r∈bV s i):∃q∈s.holes,r=dO q:=by have:=(DX s i).mem_iff.1 h;grind
def SW{s:Shape}(hp:∀r∈s.holes,0<r.length){i j:Nat}(h:j<(bV s i).length):0<(aZ (bV s i) j).length:=by obtain⟨q,hq,e⟩:=SX (sG h);rw[e,DS];exact hp q hq
def hQ(s:Shape)(p:Pt)(j:Nat):Prop:=dK (aZ s.holes j) p≠2/\dK (aZ s.holes j) p≠1
noncomputable def c73:Con:=con (ac aSh (a1 aT)) (λ(s,_)=>[Fit s]) (λ(s,p)=> .int .i64 (jd s p))
def k73:c73.Ok aG 101:=a8 (aw Mw) (raw:=aq) (λ(s,p)=>[cnt 5 6 s.holes.length (aj (hQ s p))]
  ) (λ(_,_)=>⟨_,rfl⟩) λ(s,p) hp=>au (q:=Fit s/\((!dU s)=true->0=jd s p)/\
 ((!dU s)=false->s.outer.length<=100000/\(0=(0:Int)/\(0:Nat)<=s.holes.length/\aj (hQ s p) 0)/\
  (∀x:Nat,x<=s.holes.length/\aj (hQ s p) x->((x:Int)<s.holes.length->ix (x:Int) s.holes.length/\(aZ s.holes x).length<=100000/\(dK (aZ s.holes x) p=2->0=jd s p)/\
    (¬dK (aZ s.holes x) p=2->(dK (aZ s.holes x) p=1->1=jd s p)/\
     (¬dK (aZ s.holes x) p=1->aH ((x:Int)+1)/\(x:Int)+1=((x+1:Nat):Int)/\x+1<=s.holes.length/\aj (hQ s p) (x+1)/\s.holes.length-(x+1)<s.holes.length-x)))/\
   (¬(x:Int)<s.holes.length->dK s.outer p=jd s p)))) (by kernel_rfl) (by
  change Fit s at hp;have h0:(!dU s)=true->0=jd s p:=λh=>by unfold jd;rw[if_pos h]
  have h1:(!dU s)=false->jd s p=lj p s.holes (dK s.outer p):=λh=>by unfold jd;grind
  have c1:∀k,aj (hQ s p) k->dK (aZ s.holes k) p=2->(!dU s)=false->k<s.holes.length->0=jd s p:=λk h h2 h3 hk=>by rw[h1 h3,Eg hk h,if_pos h2]
  have c2:∀k,aj (hQ s p) k->¬dK (aZ s.holes k) p=2->dK (aZ s.holes k) p=1->(!dU s)=false->k<s.holes.length->1=jd s p:=λk h h2 h3 h4 hk=>by rw[h1 h4,Eg hk h,if_neg h2,if_pos h3]
  have c3:∀k:Nat,¬(k:Int)<s.holes.length->aj (hQ s p) k->(!dU s)=false->dK s.outer p=jd s p:=λk hk h h2=>by rw[h1 h2,Sr λj hj=>h j (by omega)]
  have ho:=hp.1;have hl:=hp.2.1;have hh:= @Fit.hole s hp
  repeat' first|with_reducible apply cl|with_reducible intro
  all_goals repeat with_reducible cases‹_/\_›
  all_goals first|assumption|rfl|exact trivial|exact nb ‹_› |exact nb' ‹_› |omega|exact fC (by omega)|(unfold ix;omega)|(unfold aH;omega)|exact eQ _|exact cB ‹_› ‹_› |(refine cB ‹_› ?_;simp_all;done)|exact cZ (hh (by omega)) (by decide)|exact h0 ‹_› |exact c1 _ ‹_› ‹_› ‹_› (by omega)|exact c2 _ ‹_› ‹_› ‹_› ‹_› (by omega)|exact c3 _ ‹_› ‹_› ‹_› |exact cB ‹_› ⟨‹_›,‹_›⟩|grind)
noncomputable def t73:Tab:=ao [(101,c73)] t58
def Z8:t73.Ok aG:=ap Mw ⟨k73,trivial⟩
noncomputable def Nz:Tab:=t73
def Y3:Nz.Ok aG:=Z8
noncomputable def t74:Tab:=Nz
def Z7:t74.Ok aG:=Y3
noncomputable def t27:Tab:=t74
def NE:t27.Ok aG:=Z7
def Ry{s:Shape}(hv:dU s=true):0<s.outer.length/\∀r∈s.holes,0<r.length:=by have h:=(rX s).1 hv;refine⟨by have:=((un s.outer).1 h.2.1).1;omega,λr hr=> ?_⟩;obtain⟨i,hi,rfl⟩:=Vd hr;have h2:=(h.2.2.1 i hi).1;unfold gu at h2;simp only[BI]at h2;have:=((un _).1 h2.1.1).1;omega
def UX(s:Shape):oi s=⟨dO s.outer,bV s s.holes.length⟩:=by unfold oi bV;grind
def qSU(s:Shape)(i j:Nat):Prop:=bR (aBX (aZ (bV s i) j) 0) (aBX (dO (aZ s.holes i)) 0)=true
def jSU(s:Shape)(i j:Nat):List bC:=(bV s i).take j++[dO (aZ s.holes i)] ++(bV s i).drop j
def Il{s:Shape}{i j:Nat}(h:bV s (i+1)=jSU s i j):([] :List (List V))++bL j (cP 0 (bV s i))++[dO (aZ s.holes i)] ++bL ((bV s i).length-j) (cP j (bV s i))=bV s (i+1):=by have e:bL ((bV s i).length-j) (cP j (bV s i))=cP j (bV s i):=ij (by simp);rw[h,e];unfold jSU;simp
noncomputable def QB:Con:=con (a1 aSh) (λs=>[Fit s,0<s.outer.length,(∀r∈s.holes,0<r.length)]) (λs=> .agg [.lst .V (dO s.outer),.lst .R (bV s s.holes.length)])
def aBw:QB.Ok aG 104:=a8 (aw NE) (raw:=aq) (λs=>[lp 3 4 s.holes.length (λ_=>[]) [900] (λ_=>[]) (λk=>[(6,.box 81 [.lst .V (dO s.outer),.own 900 .R (bV s k).length]),(900,.row 64 .R (bV s k))]) λi=>[cnt 7 6 (bV s i).length (aj (qSU s i)),jN 9 6 λj=>[j<=(bV s i).length,bV s (i+1)=jSU s i j]]]
  ) (λ_=>⟨_,rfl⟩) λs hp=>au (q:=s.outer.length<=100000/\(0=(0:Int)/\dO s.outer=dO s.outer/\(bV s 0).length=0/\bV s 0=([] :List (List V))/\(0:Nat)<=s.holes.length)/\
 (∀x:Nat,x<=s.holes.length->((x:Int)<s.holes.length->ix (x:Int) s.holes.length/\(aZ s.holes x).length<=100000/\((0=(0:Int)/\(0:Nat)<=(bV s x).length/\aj (qSU s x) 0)/\
    (∀x_1:Nat,x_1<=(bV s x).length/\aj (qSU s x) x_1->((x_1:Int)<(bV s x).length->ix (x_1:Int) (bV s x).length/\x_1<(bV s x).length/\ix 0 (aZ (bV s x) x_1).length/\ix 0 (dO (aZ s.holes x)).length/\(bR (aBX (aZ (bV s x) x_1) 0) (aBX (dO (aZ s.holes x)) 0)=true->aH ((x_1:Int)+1)/\(x_1:Int)+1=((x_1+1:Nat):Int)/\x_1+1<=(bV s x).length/\aj (qSU s x) (x_1+1)/\(bV s x).length-(x_1+1)<(bV s x).length-x_1)/\
      (bR (aBX (aZ (bV s x) x_1) 0) (aBX (dO (aZ s.holes x)) 0)=false->(x_1:Int)=x_1/\x_1<=(bV s x).length/\bV s (x+1)=jSU s x x_1))/\
     (¬(x_1:Int)<(bV s x).length->(x_1:Int)=x_1/\x_1<=(bV s x).length/\bV s (x+1)=jSU s x x_1)))/\
   (∀y:Nat,y<=(bV s x).length/\bV s (x+1)=jSU s x y->(0<=(y:Int)/\(y:Int)<=(bV s x).length)/\0+y<=(bV s x).length/\([] :List (List V)).length+(bL y (cP 0 (bV s x))).length<=1000000/\(([] :List (List V))++bL y (cP 0 (bV s x))).length=(([] :List (List V))++bL y (cP 0 (bV s x))).length/\(([] :List (List V))++bL y (cP 0 (bV s x))).length+[dO (aZ s.holes x)].length<=1000000/\(0<=(y:Int)/\(y:Int)<=(bV s x).length)/\(([] :List (List V))++bL y (cP 0 (bV s x))++[dO (aZ s.holes x)]).length=(([] :List (List V))++bL y (cP 0 (bV s x))++[dO (aZ s.holes x)]).length/\y+((bV s x).length-y)<=(bV s x).length/\(([] :List (List V))++bL y (cP 0 (bV s x))++[dO (aZ s.holes x)]).length+(bL ((bV s x).length-y) (cP y (bV s x))).length<=1000000/\aH ((x:Int)+1)/\(x:Int)+1=((x+1:Nat):Int)/\dO s.outer=dO s.outer/\(([] :List (List V))++bL y (cP 0 (bV s x))++[dO (aZ s.holes x)] ++bL ((bV s x).length-y) (cP y (bV s x))).length=(bV s (x+1)).length/\([] :List (List V))++bL y (cP 0 (bV s x))++[dO (aZ s.holes x)] ++bL ((bV s x).length-y) (cP y (bV s x))=bV s (x+1)/\x+1<=s.holes.length/\s.holes.length-(x+1)<s.holes.length-x))/\
  (¬(x:Int)<s.holes.length->(bV s x).length=(bV s x).length/\dO s.outer=dO s.outer/\bV s x=bV s s.holes.length))) (by kernel_rfl) (by
  change Fit s/\0<s.outer.length/\((∀r∈s.holes,0<r.length))at hp;obtain⟨hf,hpo,hph⟩:=hp;have h1:=hf.1;have h2:=hf.2.1;have hh:= @Fit.hole s hf;have i0:bV s 0=[] :=rfl;have hl:=RW s;have kf:∀k:Nat,¬(k:Int)<s.holes.length->k<=s.holes.length->bV s k=bV s s.holes.length:=λk h1 h2=>by grind
  have kl:∀i j:Nat,(j:Int)<(bV s i).length->aH ((j:Int)+1):=λi j h=>ce (by grind);have hb:∀i,i<s.holes.length->ix 0 (dO (aZ s.holes i)).length:=λi h=>tJ (by rw[DS];exact hph _ (sG h));have hq:∀i j,j<(bV s i).length->ix 0 (aZ (bV s i) j).length:=λi j h=>tJ (SW hph h);have hj1:∀i j:Nat,¬(j:Int)<(bV s i).length->j<=(bV s i).length->aj (qSU s i) j->i<s.holes.length->bV s (i+1)=jSU s i j:=λi j h1 h2 h3 h=>by rw[DW h];exact HB h2 h3 (λh=>by omega)
  have hj2:∀i j:Nat,bR (aBX (aZ (bV s i) j) 0) (aBX (dO (aZ s.holes i)) 0)=false->j<=(bV s i).length->aj (qSU s i) j->i<s.holes.length->bV s (i+1)=jSU s i j:=λi j h1 h2 h3 h=>by rw[DW h];exact HB h2 h3 (λ_=>h1)
  repeat' first|with_reducible apply cl|with_reducible intro
  all_goals repeat with_reducible cases‹_/\_›
  all_goals first|assumption|rfl|exact trivial|exact nb ‹_› |exact nb' ‹_› |omega|exact fC (by omega)|(unfold ix;omega)|(unfold aH;omega)|exact eQ _|exact cB ‹_› ‹_› |(refine cB ‹_› ?_;simp_all;done)|exact kf _ ‹_› ‹_› |exact kl _ _ ‹_› |exact cZ (hh (by omega)) (by decide)|exact hb _ (by omega)|exact hq _ _ (by omega)|exact hj1 _ _ ‹_› ‹_› ‹_› (by omega)|exact hj2 _ _ ‹_› ‹_› ‹_› (by omega)|exact Il ‹_› |exact congrArg fh (Il ‹_›)|(simp;omega)|grind)
noncomputable def OE:Tab:=ao [(104,QB)] t27
def Kq:OE.Ok aG:=ap NE ⟨aBw,trivial⟩
noncomputable def c59:Con:=con (a1 aSh) (λs=>[Fit s,dU s=true]) (λs=>aSh.enc (oi s)
 )
def k59:c59.Ok aG 36:=a8 (aw Kq) (raw:=aq) (λ_=>[]) (λ_=>⟨_,rfl⟩) λs hp=>au (q:=Fit s/\((!dU s)=true->(oi s).outer=([] :List V)/\(oi s).holes=([] :List (List V)))/\
 ((!dU s)=false->Fit s/\(0:Nat)<s.outer.length/\(∀r:bC,r∈s.holes->(0:Nat)<r.length)/\dO s.outer=(oi s).outer/\bV s s.holes.length=(oi s).holes)) (by kernel_rfl) (by change Fit s/\dU s=true at hp;have h:=Ry hp.2;have e:=UX s;grind)
noncomputable def t59:Tab:=ao [(36,c59)] OE
def aAc:t59.Ok aG:=ap Kq ⟨k59,trivial⟩
noncomputable def t18:Tab:=t59
def aAi:t18.Ok aG:=aAc
noncomputable def t31:Tab:=t18
def aAe:t31.Ok aG:=aAi
noncomputable def t69:Tab:=t31
def aAa:t69.Ok aG:=aAe
noncomputable def t75:Tab:=t69
def Z6:t75.Ok aG:=aAa
noncomputable def t72:Tab:=t75
def Z9:t72.Ok aG:=Z6
noncomputable def t20:Tab:=t72
def aAh:t20.Ok aG:=Z9
section
variable (s:Shape) (v:List V) (T:Geo.Tab)
end
section
variable {s:Shape} {v:List V} {T:Geo.Tab} {i j k:Nat}
end
def tri(a b c:V):bC:=if bT a b c<0 then [a,c,b]else [a,b,c]
noncomputable def t22:Tab:=t20
def aAg:t22.Ok aG:=aAh
def jq(s:Shape):Nat->Int
 |0=>s.outer.length
 |k+1=>dr.wrap (jq s k+((aZ s.holes k).length:Int))
def pI(s:Shape):Bool:=decide (jq s s.holes.length<=20)&&decide ((s.holes.length:Int)<=3)
def MS(s:Shape):Prop:=s.outer.length<=1000000000000000000/\s.holes.length<=1000000000000000000/\∀r∈s.holes,r.length<=1000000000000000000
noncomputable def t24:Tab:=t22
def aAf:t24.Ok aG:=aAg
noncomputable def t25:Tab:=t24
def NF:t25.Ok aG:=aAf
noncomputable def c16:Con:=con (a1 aSh) (λs=>[MS s]) (λs=> .bool (pI s))
def k16:c16.Ok aG 33:=a8 (aw NF) (raw:=λr i=>ae r 5&&ae i 7) (λs=>[lp 3 4 s.holes.length (λ_=>[]) [] (λk=>[(3,.int .i64 (jq s k))]) (λ_=>[])]
  ) (λ_=>⟨_,rfl⟩) λs hp=>au (q:=(0=(0:Int)/\(s.outer.length:Int)=jq s 0/\(0:Nat)<=s.holes.length)/\
 (∀x:Nat,x<=s.holes.length->((x:Int)<s.holes.length->ix (x:Int) s.holes.length/\aH ((x:Int)+1)/\(x:Int)+1=((x+1:Nat):Int)/\IntKind.wrap dr (jq s x+(aZ s.holes x).length)=jq s (x+1)/\x+1<=s.holes.length/\s.holes.length-(x+1)<s.holes.length-x)/\
  (¬(x:Int)<s.holes.length->(jq s x<=20->decide ((s.holes.length:Int)<=3)=pI s)/\
   (¬jq s x<=20->false=pI s)))) (by kernel_rfl) (by
  change MS s at hp;have hh:=hp.2.1;have e1:∀k:Nat,¬(k:Int)<s.holes.length->k<=s.holes.length->jq s k=jq s s.holes.length:=λk h1 h2=>by grind
  have e2:∀k:Nat,jq s k<=20->¬(k:Int)<s.holes.length->k<=s.holes.length->decide ((s.holes.length:Int)<=3)=pI s:=λk h h1 h2=>by unfold pI;grind
  have e3:∀k:Nat,¬jq s k<=20->¬(k:Int)<s.holes.length->k<=s.holes.length->false=pI s:=λk h h1 h2=>by unfold pI;grind
  with_reducible ((repeat' first|apply cl|intro);all_goals repeat cases‹_/\_›)
  all_goals first|rfl|exact e2 _ ‹_› ‹_› ‹_› |grind)
noncomputable def t16:Tab:=ao [(33,c16)] t25
def Nk:t16.Ok aG:=ap NF ⟨k16,trivial⟩
noncomputable def Pf:Con:=con (a1 aI) (λ_=>[]) (λ_=> .bool false
 )
def aA3:Pf.Ok aG 114:=a8 (aw Nk) (raw:=aq) (λ_=>[]) (λ_=>⟨_,rfl⟩) λx _=>au (q:=decide (¬x=x)=false) (by kernel_rfl) (by grind)
noncomputable def Nd:Tab:=ao [(114,Pf)] t16
def KH:Nd.Ok aG:=ap Nk ⟨aA3,trivial⟩
noncomputable def QA:Con:=con (ac aI (a1 aI)) (λ(_,_)=>[]) (λ(x,y)=> .int .i64 (aB3 x y)
 )
def aBv:QA.Ok aG 53:=a8 (aw KH) (raw:=aq) (λ(_,_)=>[]) (λ(_,_)=>⟨_,rfl⟩) λ(x,y) _=>au (q:=(false=true->(false=true->0=aB3 x y)/\
  (false=false-> -1=aB3 x y))/\
 (false=false->(false=true->1=aB3 x y)/\
  (false=false->(x<y-> -1=aB3 x y)/\
   (¬x<y->(y<x->1=aB3 x y)/\
    (¬y<x->0=aB3 x y))))) (by kernel_rfl) (by
  unfold aB3;grind)
noncomputable def OD:Tab:=ao [(53,QA)] Nd
def Kl:OD.Ok aG:=ap KH ⟨aBv,trivial⟩
def orU(l:List Int)(k:Nat):Prop:=∀j,j<k->aM l j=0
def orL:List Int->Int
 |[] =>0
 |x::l=>if x=0 then orL l else x
def IY:∀{l:List Int} {k:Nat},¬aM l k=0->orU l k->k<l.length->aM l k=orL l
 |[],k,_,_,h=>by simp at h
 |x::l,0,h,_,_=>by
  have h:¬x=0:=h;show x=orL (x::l);unfold orL;rw[if_neg h]
 |x::l,k+1,h,h2,h3=>by
  have h0:x=0:=h2 0 (by omega);show aM l k=orL (x::l);unfold orL;rw[if_pos h0];exact IY h (λj hj=>h2 (j+1) (by omega)) (by grind)
def Gh:∀{l:List Int},orU l l.length->0=orL l
 |[],_=>rfl
 |x::l,h=>by
  have h0:x=0:=h 0 (by simp);unfold orL;rw[if_pos h0];exact Gh λj hj=>h (j+1) (by grind)
noncomputable def P1:Con:=con (a1 (aL .I)) (λl=>[l.length<=1000]) (λl=> .int .i64 (orL l))
def aBn:P1.Ok aG 52:=a8 (aw Kl) (raw:=aq) (λl=>[cnt 3 8 l.length (orU l)]
  ) (λ_=>⟨_,rfl⟩) λl hp=>au (q:=(0=(0:Int)/\(0:Nat)<=l.length/\orU l 0)/\
 (∀x:Nat,x<=l.length/\orU l x->((x:Int)<l.length->ix (x:Int) l.length/\(¬aM l x=0->aM l x=orL l)/\
   (¬(¬aM l x=0)->aH ((x:Int)+1)/\(x:Int)+1=((x+1:Nat):Int)/\x+1<=l.length/\orU l (x+1)/\l.length-(x+1)<l.length-x))/\
  (¬(x:Int)<l.length->0=orL l))) (by kernel_rfl) (by
  change l.length<=1000 at hp
  with_reducible ((repeat' first|apply cl|intro);all_goals repeat cases‹_/\_›)
  all_goals first|assumption|rfl|exact trivial|exact nb ‹_› |exact nb' ‹_› |omega|exact fC (by omega)|(unfold ix;omega)|(unfold aH;omega)|exact eQ _|exact cB ‹_› ‹_› |(refine cB ‹_› ?_;simp_all;done)|exact IY ‹_› ‹_› (by omega)|(obtain rfl:_=l.length:=nw ‹_› (by omega);exact Gh ‹_›)|(refine cB ‹_› ?_;exact xv ‹¬¬_›)|grind)
noncomputable def Ny:Tab:=ao [(52,P1)] OD
def Kc:Ny.Ok aG:=ap Kl ⟨aBn,trivial⟩
noncomputable def c78:Con:=con (ac aV (a1 aV)) (λ(_,_)=>[]) (λ(a,b)=> .int .i64 (dL a b)
 )
def k78:c78.Ok aG 166:=a8 (aw Kc) (raw:=aq) (λ(_,_)=>[]) (λ(_,_)=>⟨_,rfl⟩) λ(a,b) _=>au (q:=[aB3 a.y b.y,aB3 a.x b.x].length<=1000/\orL [aB3 a.y b.y,aB3 a.x b.x] =dL a b) (by kernel_rfl) (by refine⟨by simp,?_⟩;unfold dL;simp only[orL];grind)
noncomputable def t78:Tab:=ao [(166,c78)] Ny
def Mk:t78.Ok aG:=ap Kc ⟨k78,trivial⟩
noncomputable def PN:Con:=con (ac aV (a1 aV)) (λ(_,_)=>[]) (λ(a,b)=> .bool (bR a b)
 )
def aAM:PN.Ok aG 141:=a8 (aw Mk) (raw:=aq) (λ(_,_)=>[]) (λ(_,_)=>⟨_,rfl⟩) λ(a,b) _=>au (q:=decide (dL a b<0)=bR a b) (by kernel_rfl) (by unfold bR dL aB3;grind)
noncomputable def NK:Tab:=ao [(141,PN)] t78
def Jq:NK.Ok aG:=ap Mk ⟨aAM,trivial⟩
noncomputable def QK:Con:=con (ac aV (a1 aV)) (λ(a,b)=>[bd 2000000000 a,bd 2000000000 b]) (λ(a,b)=> .int .i64 (cross a b)
 )
def aBE:QK.Ok aG 143:=a8 (aw Jq) (raw:=aq) (λ(_,_)=>[]) (λ(_,_)=>⟨_,rfl⟩) λ(a,b) hp=>au (q:=aH (a.x*b.y)/\aH (a.y*b.x)/\aH (a.x*b.y-a.y*b.x)/\a.x*b.y-a.y*b.x=cross a b) (by kernel_rfl) (by change bd 2000000000 a/\bd 2000000000 b at hp;have:=pu hp.1 hp.2;exact⟨ce (by omega),ce (by omega),ce (by omega),rfl⟩)
noncomputable def OM:Tab:=ao [(143,QK)] NK
def K3:OM.Ok aG:=ap Jq ⟨aBE,trivial⟩
noncomputable def P9:Con:=con (ac aV (a1 aV)) (λ(a,b)=>[bd 1000000000 a,bd 1000000000 b]) (λ(a,b)=>aV.enc (aB0 a b)
 )
def aBu:P9.Ok aG 138:=a8 (aw K3) (raw:=aq) (λ(_,_)=>[]) (λ(_,_)=>⟨_,rfl⟩) λ(a,b) hp=>au (q:=aH (a.x-b.x)/\aH (a.y-b.y)/\a.x-b.x=(aB0 a b).x/\a.y-b.y=(aB0 a b).y) (by kernel_rfl) (by change bd 1000000000 a/\bd 1000000000 b at hp;unfold bd at hp;exact⟨ce (by omega),ce (by omega),rfl,rfl⟩)
noncomputable def OC:Tab:=ao [(138,P9)] OM
def Kj:OC.Ok aG:=ap K3 ⟨aBu,trivial⟩
noncomputable def c63:Con:=con (ac aV (ac aV (a1 aV))) (λ(a,b,c)=>[bd 1000000000 a,bd 1000000000 b,bd 1000000000 c]) (λ(a,b,c)=> .int .i64 (bT a b c)
 )
def k63:c63.Ok aG 208:=a8 (aw Kj) (raw:=aq) (λ(_,_,_)=>[]) (λ(_,_,_)=>⟨_,rfl⟩) λ(a,b,c) hp=>au (q:=bd 1000000000 b/\bd 1000000000 a/\bd 1000000000 c/\bd 1000000000 a/\bd 2000000000 (aB0 b a)/\bd 2000000000 (aB0 c a)/\aB3 (cross (aB0 b a) (aB0 c a)) 0=bT a b c) (by kernel_rfl) (by
 change bd 1000000000 a/\bd 1000000000 b/\bd 1000000000 c at hp;have e:∀n,aB3 n 0=sgn n:=λn=>by unfold aB3 sgn;grind
 exact⟨hp.2.1,hp.1,hp.2.2,hp.1,jf hp.2.1 hp.1,jf hp.2.2 hp.1,e _⟩)
noncomputable def t63:Tab:=ao [(208,c63)] OC
def Mv:t63.Ok aG:=ap Kj ⟨k63,trivial⟩
noncomputable def P8:Con:=con (ac aV (a1 aI)) (λ(_,m)=>[0<=m,m<=9000000000000000000]) (λ(a,m)=> .bool (bP a m)
 )
def aBt:P8.Ok aG 40:=a8 (aw Mv) (raw:=aq) (λ(_,_)=>[]) (λ(_,_)=>⟨_,rfl⟩) λ(a,m) hp=>au (q:=aH (0-m)/\(0-m<=a.x->(a.x<=m->aH (0-m)/\(0-m<=a.y->decide (a.y<=m)=bP a m)/\
   (¬0-m<=a.y->false=bP a m))/\
  (¬a.x<=m->false=bP a m))/\
 (¬0-m<=a.x->false=bP a m)) (by kernel_rfl) (by change 0<=m/\m<=9000000000000000000 at hp;unfold bP;have:= @aH;grind[aH])
noncomputable def OB:Tab:=ao [(40,P8)] t63
def Ki:OB.Ok aG:=ap Mv ⟨aBt,trivial⟩
noncomputable def P5:Con:=con (a1 aV) (λ_=>[]) (λa=>aT.enc (bG a)
 )
def aBr:P5.Ok aG 72:=a8 (aw Ki) (raw:=aq) (λ_=>[]) (λ_=>⟨_,rfl⟩) λa _=>au (q:=a.x=(bG a).x/\a.y=(bG a).y/\1=(bG a).den) (by kernel_rfl) (by exact⟨rfl,rfl,rfl⟩)
noncomputable def N9:Tab:=ao [(72,P5)] OB
def Kg:N9.Ok aG:=ap Ki ⟨aBr,trivial⟩
def mA(b:S)(p:V):Bool:=decide (b.a.x<=p.x)&&decide (p.x<=b.b.x)&&decide (b.a.y<=p.y)&&decide (p.y<=b.b.y)
def bU(l:List V):Nat->S
 |0=>⟨aBX l 0,aBX l 0⟩
 |k+1=>⟨⟨min (bU l k).a.x (aBX l k).x,min (bU l k).a.y (aBX l k).y⟩,⟨max (bU l k).b.x (aBX l k).x,max (bU l k).b.y (aBX l k).y⟩⟩
noncomputable def PL:Con:=con (ac aS (a1 aV)) (λ(_,_)=>[]) (λ(b,p)=> .bool (mA b p)
 )
def aAK:PL.Ok aG 207:=a8 (aw Kg) (raw:=aq) (λ(_,_)=>[]) (λ(_,_)=>⟨_,rfl⟩) λ(b,p) _=>au (q:=(b.a.x<=p.x->(p.x<=b.b.x->(b.a.y<=p.y->decide (p.y<=b.b.y)=mA b p)/\
   (¬b.a.y<=p.y->false=mA b p))/\
  (¬p.x<=b.b.x->false=mA b p))/\
 (¬b.a.x<=p.x->false=mA b p)) (by kernel_rfl) (by unfold mA;grind)
noncomputable def NI:Tab:=ao [(207,PL)] N9
def Jo:NI.Ok aG:=ap Kg ⟨aAK,trivial⟩
noncomputable def PM:Con:=con (a1 (aL .V)) (λl=>[l.length<=1000]) (λl=> .tup [aS.enc (bU l l.length),.bool (decide (0<l.length))])
def aAL:PM.Ok aG 205:=a8 (aw Jo) (raw:=aq) (λl=>[lp 5 19 l.length (λ_=>[]) [] (λ_=>[]) (λk=>[(12,.box 239 [.int .i64 (bU l k).a.x,.int .i64 (bU l k).a.y,.int .i64 (bU l k).b.x,.int .i64 (bU l k).b.y])])]
  ) (λ_=>⟨_,rfl⟩) λl hp=>au (q:=((l.length:Int)=0->0=(bU l l.length).a.x/\0=(bU l l.length).a.y/\0=(bU l l.length).b.x/\0=(bU l l.length).b.y/\false=decide ((0:Nat)<l.length))/\
 (¬(l.length:Int)=0->ix 0 l.length/\ix 0 l.length/\(0=(0:Int)/\(aBX l 0).x=(bU l 0).a.x/\(aBX l 0).y=(bU l 0).a.y/\(aBX l 0).x=(bU l 0).b.x/\(aBX l 0).y=(bU l 0).b.y/\(0:Nat)<=l.length)/\
  (∀x:Nat,x<=l.length->((x:Int)<l.length->ix (x:Int) l.length/\ix (x:Int) l.length/\ix (x:Int) l.length/\ix (x:Int) l.length/\aH ((x:Int)+1)/\(x:Int)+1=((x+1:Nat):Int)/\Min.min (bU l x).a.x (aBX l x).x=(bU l (x+1)).a.x/\Min.min (bU l x).a.y (aBX l x).y=(bU l (x+1)).a.y/\Max.max (bU l x).b.x (aBX l x).x=(bU l (x+1)).b.x/\Max.max (bU l x).b.y (aBX l x).y=(bU l (x+1)).b.y/\x+1<=l.length/\l.length-(x+1)<l.length-x)/\
   (¬(x:Int)<l.length->(bU l x).a.x=(bU l l.length).a.x/\(bU l x).a.y=(bU l l.length).a.y/\(bU l x).b.x=(bU l l.length).b.x/\(bU l x).b.y=(bU l l.length).b.y/\true=decide ((0:Nat)<l.length))))) (by kernel_rfl) (by
  change l.length<=1000 at hp;have eU:∀x:Nat,¬(x:Int)<l.length->x<=l.length->bU l x=bU l l.length:=λx h1 h2=>by grind
  with_reducible ((repeat' first|apply cl|intro);all_goals repeat cases‹_/\_›)
  all_goals first|rfl|(have h0:l=[] :=ig.1 (by omega);subst h0;rfl)|(rw[eU _ ‹_› ‹_›])|(symm;rw[decide_eq_false_iff_not];omega)|grind)
noncomputable def NJ:Tab:=ao [(205,PM)] NI
def Jp:NJ.Ok aG:=ap Jo ⟨aAL,trivial⟩
noncomputable def PT:Con:=con (ac aI (a1 aI)) (λ(a,b)=>[-9000000000000000000<=a,a<=9000000000000000000,-9000000000000000000<=b,b<=9000000000000000000]) (λ(a,b)=> .int .i64 ((bz a.natAbs b.natAbs:Nat):Int))
def aAS:PT.Ok aG 183:=a8 (aw Jp) (raw:=aq) (λ(a,b)=>[(1,.mk (Int×Int) (λF _=>Ol F 0 1) [] (λp=>[p.1.natAbs<=9000000000000000000,p.2.natAbs<=9000000000000000000,bz p.1.natAbs p.2.natAbs=bz a.natAbs b.natAbs]) (λp=>[(0,.int .i64 p.1),(1,.int .i64 p.2)]) (λ_=>[]) (λp=>p.2.natAbs) (λ_=>[]))]
  ) (λ(_,_)=>⟨_,rfl⟩) λ(a,b) hp=>au (q:=(a=a/\b=b/\bh a<=9000000000000000000/\bh b<=9000000000000000000/\bz (bh a) (bh b)=bz (bh a) (bh b))/\
 (∀x:Prod Int Int,bh x.1<=9000000000000000000/\bh x.2<=9000000000000000000/\bz (bh x.1) (bh x.2)=bz (bh a) (bh b)->(¬x.2=0->x.2≠0/\x.2=x.2/\dc x.1 x.2=dc x.1 x.2/\bh x.snd<=9000000000000000000/\bh (dc x.1 x.2)<=9000000000000000000/\bz (bh x.snd) (bh (dc x.1 x.2))=bz (bh a) (bh b)/\bh (dc x.1 x.2)<bh x.2)/\
  (¬(¬x.2=0)->aH (0-x.1)/\Max.max x.1 (0-x.1)=bz (bh a) (bh b)))) (by kernel_rfl) (by
  change-9000000000000000000<=a/\a<=9000000000000000000/\ -9000000000000000000<=b/\b<=9000000000000000000 at hp;have e1:∀x y:Int,bz y.natAbs (dc x y).natAbs=bz x.natAbs y.natAbs:=λx y=>by rw[Ct,Cu,<-Nat.gcd_rec,Cu]
  have e2:∀x y:Int,¬y=0->(dc x y).natAbs<y.natAbs:=λx y h=>by rw[Ct];exact fg _ (by omega)
  have e3:∀(x y:Int) (g:Nat),bz x.natAbs y.natAbs=g->¬¬y=0->max x (0-x)=(g:Int):=λx y g h h2=>by rw[xv h2]at h;grind
  repeat' first|with_reducible apply cl|with_reducible intro
  all_goals repeat with_reducible cases‹_/\_›
  all_goals first|rfl|with_reducible solve_by_elim|(rw[e1];assumption)|exact trivial|exact nb ‹_› |exact nb' ‹_› |omega|exact fC (by omega)|(unfold ix;omega)|(unfold aH;omega)|exact eQ _|exact cB ‹_› ‹_› |(refine cB ‹_› ?_;simp_all;done)|grind|grind)
noncomputable def NR:Tab:=ao [(183,PT)] NJ
def Jz:NR.Ok aG:=ap Jp ⟨aAS,trivial⟩
noncomputable def PU:Con:=con (ac aT (a1 aI)) (λ(_,m)=>[0<=m,m<=1000000]) (λ(p,m)=> .bool (dX p m)
 )
def aAT:PU.Ok aG 111:=a8 (aw Jz) (raw:=aq) (λ(_,_)=>[]) (λ(_,_)=>⟨_,rfl⟩) λ(p,m) hp=>au (q:=(p.den<1->false=dX p m)/\
 (¬p.den<1->(134217728<p.den->false=dX p m)/\
  (¬134217728<p.den->aH (m*p.den)/\0<=m*p.den/\m*p.den<=9000000000000000000/\bP ⟨p.x,p.y⟩ (m*p.den)=dX p m))) (by kernel_rfl) (by
  change 0<=m/\m<=1000000 at hp;unfold dX;have hm:¬p.den<1->¬134217728<p.den->aH (m*p.den)/\0<=m*p.den/\m*p.den<=9000000000000000000:=λh1 h2=>by have:=iI (x:=m) (y:=p.den) (A:=1000000) (B:=134217728) (by omega) (by omega);exact⟨ce (by omega),jA hp.1 (by omega),by omega⟩
  grind)
noncomputable def NS:Tab:=ao [(111,PU)] NR
def J0:NS.Ok aG:=ap Jz ⟨aAT,trivial⟩
noncomputable def Pe:Con:=con (a1 aT) (λ_=>[]) (λp=> .bool (c8 p)
 )
def aA2:Pe.Ok aG 110:=a8 (aw J0) (raw:=aq) (λ_=>[]) (λ_=>⟨_,rfl⟩) λp _=>au (q:=(0:Int)<=4000/\(4000:Int)<=1000000/\(dX p 4000=true-> -9000000000000000000<=p.x/\p.x<=9000000000000000000/\ -9000000000000000000<=p.y/\p.y<=9000000000000000000/\ -9000000000000000000<=(bz (bh p.x) (bh p.y):Int)/\(bz (bh p.x) (bh p.y):Int)<=9000000000000000000/\ -9000000000000000000<=p.den/\p.den<=9000000000000000000/\decide ((bz (bh (bz (bh p.x) (bh p.y):Int)) (bh p.den):Int)=1)=c8 p)/\
 (dX p 4000=false->false=c8 p)) (by kernel_rfl) (by
  have hB:dX p 4000=true->PtB p:=λh=>by unfold dX bP at h;simp only[bv,decide_eq_true_eq]at h;unfold PtB;omega
  have hn:∀n m B:Nat,n<=B->m<=B->bz n m<=B:=λn m B h1 h2=>by
   rcases nj n with e|e
   .grind
   .exact cZ (Nat.gcd_le_left m e) h1
  have hg:PtB p->bz p.x.natAbs p.y.natAbs<=600000000000:=λh=>hn _ _ _ (by unfold PtB at h;omega) (by unfold PtB at h;omega);have ht:dX p 4000=true->decide ((bz (bh (bz (bh p.x) (bh p.y):Int)) (bh p.den):Int)=1)=c8 p:=λh=>by unfold c8;grind
  with_reducible ((repeat' first|apply cl|intro);all_goals repeat cases‹_/\_›)
  all_goals first|rfl|exact ht ‹_› |(have h1:=hB ‹_›;have h2:=hg h1;unfold PtB at h1;omega)|(unfold c8;grind)|grind)
noncomputable def Nb:Tab:=ao [(110,Pe)] NS
def KG:Nb.Ok aG:=ap J0 ⟨aA2,trivial⟩
noncomputable def PR:Con:=con (a1 aS) (λ_=>[]) (λs=> .bool (bQ s)
 )
def aAQ:PR.Ok aG 206:=a8 (aw KG) (raw:=aq) (λ_=>[]) (λ_=>⟨_,rfl⟩) λs _=>au (q:=(0:Int)<=4000/\(4000:Int)<=9000000000000000000/\(bP s.a 4000=true->(0:Int)<=4000/\(4000:Int)<=9000000000000000000/\bP s.b 4000=bQ s)/\
 (bP s.a 4000=false->false=bQ s)) (by kernel_rfl) (by unfold bQ;grind)
noncomputable def NP:Tab:=ao [(206,PR)] Nb
def Ju:NP.Ok aG:=ap KG ⟨aAQ,trivial⟩
noncomputable def PP:Con:=con (ac aS (a1 aV)) (λ(_,_)=>[]) (λ(s,p)=> .bool (onS s p)
 )
def aAO:PP.Ok aG 136:=a8 (aw Ju) (raw:=aq) (λ(_,_)=>[]) (λ(_,_)=>⟨_,rfl⟩) λ(s,p) _=>au (q:=[s.a,s.b].length<=1000/\(bQ s=true->(mA (bU [s.a,s.b] [s.a,s.b].length) p=true->bd 1000000000 s.a/\bd 1000000000 s.b/\bd 1000000000 p/\decide (bT s.a s.b p=0)=onS s p)/\
  (mA (bU [s.a,s.b] [s.a,s.b].length) p=false->false=onS s p))/\
 (bQ s=false->false=onS s p)) (by kernel_rfl) (by
  have e0:mA (bU [s.a,s.b] [s.a,s.b].length) p=eo s p:=by show(decide (min (min s.a.x s.a.x) s.b.x<=p.x)&&decide (p.x<=max (max s.a.x s.a.x) s.b.x)&&decide (min (min s.a.y s.a.y) s.b.y<=p.y)&&decide (p.y<=max (max s.a.y s.a.y) s.b.y))=_;rw[Int.min_self,Int.min_self,Int.max_self,Int.max_self];rfl
  rw[e0];have hv:∀{M:Int},bQ s=true->4000<=M->bd M s.a/\bd M s.b:=λh hM=>kF (by rw[h];rfl) hM;refine⟨by simp,λh=>⟨λh2=>⟨(hv h (by decide)).1,(hv h (by decide)).2,In (hv h (by decide)) h2,?_⟩,λh2=>by unfold onS;rw[h2];simp⟩,λh=>by unfold onS;rw[h];rfl⟩;unfold onS;grind)
noncomputable def NN:Tab:=ao [(136,PP)] NP
def Js:NN.Ok aG:=ap Ju ⟨aAO,trivial⟩
noncomputable def PO:Con:=con (a1 aV) (λ_=>[]) (λp=> .agg [.int .i64 1,.int .i64 p.x,.int .i64 p.y,.int .i64 1,.int .i64 0,.int .i64 0,.int .i64 0,.int .i64 0]
 )
def aAN:PO.Ok aG 233:=a8 (aw Js) (raw:=aq) (λ_=>[]) (λ_=>⟨_,rfl⟩) λp _=>au (q:=(1:Int)=1/\(bG p).x=p.x/\(bG p).y=p.y/\(bG p).den=1/\(0:Int)=0/\(0:Int)=0/\(0:Int)=0/\(0:Int)=0) (by kernel_rfl) (by
 with_reducible ((repeat' first|apply cl|intro);all_goals repeat cases‹_/\_›)
 all_goals first|rfl|grind)
noncomputable def NL:Tab:=ao [(233,PO)] NN
def Jr:NL.Ok aG:=ap Js ⟨aAN,trivial⟩
structure Com where
 k:Int
 p:Pt
 s:S
def QW(c:Com):SV:= .agg [.int .i64 c.k,.int .i64 c.p.x,.int .i64 c.p.y,.int .i64 c.p.den,.int .i64 c.s.a.x,.int .i64 c.s.a.y,.int .i64 c.s.b.x,.int .i64 c.s.b.y]
def cz:Com:=⟨0,⟨0,0,0⟩,⟨⟨0,0⟩,⟨0,0⟩⟩⟩
def lA(s t:S)(d:Int):Int:=if d<0 then-cross (aB0 t.a s.a) (aB0 t.b t.a)else cross (aB0 t.a s.a) (aB0 t.b t.a)
def lB(s t:S)(d:Int):Int:=if d<0 then-cross (aB0 t.a s.a) (aB0 s.b s.a)else cross (aB0 t.a s.a) (aB0 s.b s.a)
def lE(d:Int):Int:=if d<0 then-d else d
def lX(s t:S)(d:Int):Int:=s.a.x*lE d+lA s t d*(aB0 s.b s.a).x
def lY(s t:S)(d:Int):Int:=s.a.y*lE d+lA s t d*(aB0 s.b s.a).y
def lG(s t:S)(d:Int):Int:=((bz (bz (lX s t d).natAbs (lY s t d).natAbs:Int).natAbs (lE d).natAbs:Nat):Int)
def bH(s t:S)(d:Int):Com:=if gc s t d=0 then cz else⟨gc s t d,⟨(lX s t d).tdiv (lG s t d),(lY s t d).tdiv (lG s t d),(lE d).tdiv (lG s t d)⟩,cz.s⟩
def jO(key:Nat)(obs:List (Nat×SOb)):Nat×Ann:=(key+10000,.mk Unit (λ_ _=>some ()) [] (λ_=>[]) (λ_=>[]) (λ_=>obs) (λ_=>0) (λ_=>[]))
def aBM(c:Com):List SV:=[.int .i64 c.k,.int .i64 c.p.x,.int .i64 c.p.y,.int .i64 c.p.den,.int .i64 c.s.a.x,.int .i64 c.s.a.y,.int .i64 c.s.b.x,.int .i64 c.s.b.y]
def y9{x g B:Int}(h: -B<=x/\x<=B): -B<=x.tdiv g/\x.tdiv g<=B:=by have:=Int.natAbs_tdiv_le_natAbs x g;omega
def YS{n m B:Nat}(h1:n<=B)(h2:m<=B):bz n m<=B:=by
 rcases nj n with e|e
 .grind
 .exact cZ (Nat.gcd_le_left m e) h1
def vD{s t:S}{d:Int}(h:lA s t d<0\/lE d<lA s t d\/lB s t d<0\/lE d<lB s t d):bH s t d=cz:=if_pos (if_pos h)
def D5{s t:S}{d:Int}(h1:¬lA s t d<0)(h2:¬lE d<lA s t d)(h3:¬lB s t d<0)(h4:¬lE d<lB s t d):gc s t d=if lA s t d=0\/lA s t d=lE d\/lB s t d=0\/lB s t d=lE d then 1 else 2:=if_neg (by simp only[not_or];exact⟨h1,h2,h3,h4⟩)
def rc{s t:S}{d k:Int}(h:gc s t d=k)(hk:k≠0):bH s t d=⟨k,⟨(lX s t d).tdiv (lG s t d),(lY s t d).tdiv (lG s t d),(lE d).tdiv (lG s t d)⟩,cz.s⟩:=by unfold bH;grind
noncomputable def PQ:Con:=con (ac aS (ac aS (a1 aI))) (λ(s,t,d)=>[bQ s=true,bQ t=true,d≠0,-200000000<=d/\d<=200000000]) (λ(s,t,d)=>QW (bH s t d))
def aAP:PQ.Ok aG 232:=a8 (aw Jr) (raw:=aq) (λ(s,t,d)=>[jU 6 [(10,.int .i64 (lA s t d)),(11,.int .i64 (lB s t d)),(2,.int .i64 (lE d))],(9+10000,.mk Unit (λ_ _=>some ()) [] (λ_=>[¬lA s t d<0,¬lE d<lA s t d,¬lB s t d<0,¬lE d<lB s t d]) (λ_=>[(12,.int .i64 (lX s t d)),(13,.int .i64 (lY s t d))]) (λ_=>[]) (λ_=>0) (λ_=>[])),
  jU 10 [(14,.int .i64 (lG s t d))],jO 13 [(59,.box 211 (aBM (bH s t d)))]]
  ) (λ(_,_,_)=>⟨_,rfl⟩) λ(s,t,d) hp=>au (q:=bd 1000000000 s.b/\bd 1000000000 s.a/\bd 1000000000 t.b/\bd 1000000000 t.a/\bd 1000000000 t.a/\bd 1000000000 s.a/\bd 2000000000 (aB0 t.a s.a)/\bd 2000000000 (aB0 t.b t.a)/\bd 2000000000 (aB0 t.a s.a)/\bd 2000000000 (aB0 s.b s.a)/\((d<0->aH (0-cross (aB0 t.a s.a) (aB0 t.b t.a))/\aH (0-cross (aB0 t.a s.a) (aB0 s.b s.a))/\aH (0-d)/\0-cross (aB0 t.a s.a) (aB0 t.b t.a)=lA s t d/\0-cross (aB0 t.a s.a) (aB0 s.b s.a)=lB s t d/\0-d=lE d)/\
  (¬d<0->cross (aB0 t.a s.a) (aB0 t.b t.a)=lA s t d/\cross (aB0 t.a s.a) (aB0 s.b s.a)=lB s t d/\d=lE d))/\
 (∀y:Unit,(lA s t d<0->0=(bH s t d).k/\0=(bH s t d).p.x/\0=(bH s t d).p.y/\0=(bH s t d).p.den/\0=(bH s t d).s.a.x/\0=(bH s t d).s.a.y/\0=(bH s t d).s.b.x/\0=(bH s t d).s.b.y)/\
  (¬lA s t d<0->(lE d<lA s t d->0=(bH s t d).k/\0=(bH s t d).p.x/\0=(bH s t d).p.y/\0=(bH s t d).p.den/\0=(bH s t d).s.a.x/\0=(bH s t d).s.a.y/\0=(bH s t d).s.b.x/\0=(bH s t d).s.b.y)/\
   (¬lE d<lA s t d->(lB s t d<0->0=(bH s t d).k/\0=(bH s t d).p.x/\0=(bH s t d).p.y/\0=(bH s t d).p.den/\0=(bH s t d).s.a.x/\0=(bH s t d).s.a.y/\0=(bH s t d).s.b.x/\0=(bH s t d).s.b.y)/\
    (¬lB s t d<0->(lE d<lB s t d->0=(bH s t d).k/\0=(bH s t d).p.x/\0=(bH s t d).p.y/\0=(bH s t d).p.den/\0=(bH s t d).s.a.x/\0=(bH s t d).s.a.y/\0=(bH s t d).s.b.x/\0=(bH s t d).s.b.y)/\
     (¬lE d<lB s t d->(aH (s.a.x*lE d)/\aH (lA s t d*(aB0 s.b s.a).x)/\aH (s.a.x*lE d+lA s t d*(aB0 s.b s.a).x)/\aH (s.a.y*lE d)/\aH (lA s t d*(aB0 s.b s.a).y)/\aH (s.a.y*lE d+lA s t d*(aB0 s.b s.a).y)/\s.a.x*lE d+lA s t d*(aB0 s.b s.a).x=lX s t d/\s.a.y*lE d+lA s t d*(aB0 s.b s.a).y=lY s t d/\¬lA s t d<0/\¬lE d<lA s t d/\¬lB s t d<0/\¬lE d<lB s t d)/\
      (∀y_1:Unit,¬lA s t d<0/\¬lE d<lA s t d/\¬lB s t d<0/\¬lE d<lB s t d->(-9000000000000000000<=lX s t d/\lX s t d<=9000000000000000000/\ -9000000000000000000<=lY s t d/\lY s t d<=9000000000000000000/\ -9000000000000000000<=(bz (bh (lX s t d)) (bh (lY s t d)):Int)/\(bz (bh (lX s t d)) (bh (lY s t d)):Int)<=9000000000000000000/\ -9000000000000000000<=lE d/\lE d<=9000000000000000000/\(bz (bh (bz (bh (lX s t d)) (bh (lY s t d)):Int)) (bh (lE d)):Int)=lG s t d)/\
       (∀y_2:Unit,lG s t d≠0/\aH (bp (lX s t d) (lG s t d))/\lG s t d≠0/\aH (bp (lY s t d) (lG s t d))/\lG s t d≠0/\aH (bp (lE d) (lG s t d))/\((lA s t d=0->1=(bH s t d).k/\bp (lX s t d) (lG s t d)=(bH s t d).p.x/\bp (lY s t d) (lG s t d)=(bH s t d).p.y/\bp (lE d) (lG s t d)=(bH s t d).p.den/\0=(bH s t d).s.a.x/\0=(bH s t d).s.a.y/\0=(bH s t d).s.b.x/\0=(bH s t d).s.b.y)/\
         (¬lA s t d=0->(lA s t d=lE d->1=(bH s t d).k/\bp (lX s t d) (lG s t d)=(bH s t d).p.x/\bp (lY s t d) (lG s t d)=(bH s t d).p.y/\bp (lE d) (lG s t d)=(bH s t d).p.den/\0=(bH s t d).s.a.x/\0=(bH s t d).s.a.y/\0=(bH s t d).s.b.x/\0=(bH s t d).s.b.y)/\
          (¬lA s t d=lE d->(lB s t d=0->1=(bH s t d).k/\bp (lX s t d) (lG s t d)=(bH s t d).p.x/\bp (lY s t d) (lG s t d)=(bH s t d).p.y/\bp (lE d) (lG s t d)=(bH s t d).p.den/\0=(bH s t d).s.a.x/\0=(bH s t d).s.a.y/\0=(bH s t d).s.b.x/\0=(bH s t d).s.b.y)/\
           (¬lB s t d=0->(lB s t d=lE d->1=(bH s t d).k/\bp (lX s t d) (lG s t d)=(bH s t d).p.x/\bp (lY s t d) (lG s t d)=(bH s t d).p.y/\bp (lE d) (lG s t d)=(bH s t d).p.den/\0=(bH s t d).s.a.x/\0=(bH s t d).s.a.y/\0=(bH s t d).s.b.x/\0=(bH s t d).s.b.y)/\
            (¬lB s t d=lE d->2=(bH s t d).k/\bp (lX s t d) (lG s t d)=(bH s t d).p.x/\bp (lY s t d) (lG s t d)=(bH s t d).p.y/\bp (lE d) (lG s t d)=(bH s t d).p.den/\0=(bH s t d).s.a.x/\0=(bH s t d).s.a.y/\0=(bH s t d).s.b.x/\0=(bH s t d).s.b.y)))))/\
        (∀y_3:Unit,(bH s t d).k=(bH s t d).k/\(bH s t d).p.x=(bH s t d).p.x/\(bH s t d).p.y=(bH s t d).p.y/\(bH s t d).p.den=(bH s t d).p.den/\(bH s t d).s.a.x=(bH s t d).s.a.x/\(bH s t d).s.a.y=(bH s t d).s.a.y/\(bH s t d).s.b.x=(bH s t d).s.b.x/\(bH s t d).s.b.y=(bH s t d).s.b.y))))))))) (by kernel_rfl) (by
  change bQ s=true/\bQ t=true/\d≠0/\(-200000000<=d/\d<=200000000)at hp;obtain⟨hs,ht,h0,hd⟩:=hp;have bs:bd 4000 s.a/\bd 4000 s.b:=kF (by rw[hs];rfl);have bt:bd 4000 t.a/\bd 4000 t.b:=kF (by rw[ht];rfl);have u1:=jf bs.2 bs.1;have u2:=jf bt.2 bt.1;have u3:=jf bt.1 bs.1;have c1:=pu u3 u2;have c2:=pu u3 u1;have gM:∀{M:Int} {v:V},16000<=M->bd 4000 v->bd M v:=λh1 h2=>by unfold bd at*;omega
  have gN:∀{M:Int} {v:V},16000<=M->bd (4000+4000) v->bd M v:=λh1 h2=>by unfold bd at*;omega
  have a1: -128000000<=lA s t d/\lA s t d<=128000000:=by unfold lA cross;split<;>omega
  have e1: -200000000<=lE d/\lE d<=200000000:=by unfold lE;split<;>omega
  have e2:lE d≠0:=by unfold lE;split<;>omega
  have k1:aH (0-cross (aB0 t.a s.a) (aB0 t.b t.a)):=ce (by unfold cross;omega);have k2:aH (0-cross (aB0 t.a s.a) (aB0 s.b s.a)):=ce (by unfold cross;omega);have x1:=iI (A:=4000) (B:=200000000) bs.1.1 e1;have x2:=iI (A:=128000000) (B:=8000) a1 u1.1;have y1:=iI (A:=4000) (B:=200000000) bs.1.2 e1;have y2:=iI (A:=128000000) (B:=8000) a1 u1.2;have xB: -2000000000000<=lX s t d/\lX s t d<=2000000000000:=by unfold lX;omega
  have yB: -2000000000000<=lY s t d/\lY s t d<=2000000000000:=by unfold lY;omega
  have g1:bz (lX s t d).natAbs (lY s t d).natAbs<=2000000000000:=YS (by omega) (by omega);have g2:lG s t d≠0:=by unfold lG;have:=Nat.gcd_pos_of_pos_right (bz (lX s t d).natAbs (lY s t d).natAbs:Int).natAbs (show 0<(lE d).natAbs by omega);omega
  have q1:=y9 (g:=lG s t d) xB;have q2:=y9 (g:=lG s t d) yB;have q3:=y9 (g:=lG s t d) e1;have r1:aH (s.a.x*lE d):=ce (by omega);have r2:aH (lA s t d*(aB0 s.b s.a).x):=ce (by omega);have r3:aH (s.a.x*lE d+lA s t d*(aB0 s.b s.a).x):=ce (by omega);have r4:aH (s.a.y*lE d):=ce (by omega);have r5:aH (lA s t d*(aB0 s.b s.a).y):=ce (by omega);have r6:aH (s.a.y*lE d+lA s t d*(aB0 s.b s.a).y):=ce (by omega);have r7:aH ((lX s t d).tdiv (lG s t d)):=ce (by omega);have r8:aH ((lY s t d).tdiv (lG s t d)):=ce (by omega);have r9:aH ((lE d).tdiv (lG s t d)):=ce (by omega);have r10:aH (0-d):=ce (by omega);have f1:d<0->0-cross (aB0 t.a s.a) (aB0 t.b t.a)=lA s t d:=λh=>by unfold lA;omega
  have f2:d<0->0-cross (aB0 t.a s.a) (aB0 s.b s.a)=lB s t d:=λh=>by unfold lB;omega
  have f3:d<0->0-d=lE d:=λh=>by unfold lE;omega
  have f4:¬d<0->cross (aB0 t.a s.a) (aB0 t.b t.a)=lA s t d:=λh=>by unfold lA;rw[if_neg h]
  have f5:¬d<0->cross (aB0 t.a s.a) (aB0 s.b s.a)=lB s t d:=λh=>by unfold lB;rw[if_neg h]
  have f6:¬d<0->d=lE d:=λh=>by unfold lE;rw[if_neg h]
  have n1:lA s t d<0->bH s t d=cz:=λh=>vD (.inl h);have n2:lE d<lA s t d->bH s t d=cz:=λh=>vD (.inr (.inl h));have n3:lB s t d<0->bH s t d=cz:=λh=>vD (.inr (.inr (.inl h)));have n4:lE d<lB s t d->bH s t d=cz:=λh=>vD (.inr (.inr (.inr h)));have t0:¬lA s t d<0->¬lE d<lA s t d->¬lB s t d<0->¬lE d<lB s t d->lA s t d=0\/lA s t d=lE d\/lB s t d=0\/lB s t d=lE d->bH s t d=⟨1,⟨(lX s t d).tdiv (lG s t d),(lY s t d).tdiv (lG s t d),(lE d).tdiv (lG s t d)⟩,cz.s⟩:=λh1 h2 h3 h4 h=>rc (by rw[D5 h1 h2 h3 h4,if_pos h]) (by decide);have t1:¬lA s t d<0->¬lE d<lA s t d->¬lB s t d<0->¬lE d<lB s t d->¬(lA s t d=0\/lA s t d=lE d\/lB s t d=0\/lB s t d=lE d)->bH s t d=⟨2,⟨(lX s t d).tdiv (lG s t d),(lY s t d).tdiv (lG s t d),(lE d).tdiv (lG s t d)⟩,cz.s⟩:=λh1 h2 h3 h4 h=>rc (by rw[D5 h1 h2 h3 h4,if_neg h]) (by decide);have b1:=gM (M:=1000000000) (by decide) bs.1;have b2:=gM (M:=1000000000) (by decide) bs.2;have b3:=gM (M:=1000000000) (by decide) bt.1;have b4:=gM (M:=1000000000) (by decide) bt.2;have b5:=gN (M:=2000000000) (by decide) u1;have b6:=gN (M:=2000000000) (by decide) u2;have b7:=gN (M:=2000000000) (by decide) u3;have hX: -9000000000000000000<=lX s t d/\lX s t d<=9000000000000000000:=by omega
  have hY: -9000000000000000000<=lY s t d/\lY s t d<=9000000000000000000:=by omega
  have hE: -9000000000000000000<=lE d/\lE d<=9000000000000000000:=by omega
  have hG1: -9000000000000000000<=((bz (lX s t d).natAbs (lY s t d).natAbs:Nat):Int):=by omega
  have hG2:((bz (lX s t d).natAbs (lY s t d).natAbs:Nat):Int)<=9000000000000000000:=by omega
  clear hs ht h0 hd bs bt u1 u2 u3 c1 c2 gM gN a1 e1 e2 x1 x2 y1 y2 xB yB g1 q1 q2 q3;obtain⟨hX1,hX2⟩:=hX;obtain⟨hY1,hY2⟩:=hY;obtain⟨hE1,hE2⟩:=hE
  with_reducible ((repeat' first|apply cl|intro);all_goals repeat cases‹_/\_›)
  all_goals first|assumption|rfl|exact f1 ‹_› |exact f2 ‹_› |exact f3 ‹_› |exact f4 ‹_› |exact f5 ‹_› |exact f6 ‹_› |(rw[n1 ‹_›];rfl)|(rw[n2 ‹_›];rfl)|(rw[n3 ‹_›];rfl)|(rw[n4 ‹_›];rfl)|(rw[t0 ‹_› ‹_› ‹_› ‹_› (.inl ‹_›)] <;>rfl)|(rw[t0 ‹_› ‹_› ‹_› ‹_› (.inr (.inl ‹_›))] <;>rfl)|(rw[t0 ‹_› ‹_› ‹_› ‹_› (.inr (.inr (.inl ‹_›)))] <;>rfl)|(rw[t0 ‹_› ‹_› ‹_› ‹_› (.inr (.inr (.inr ‹_›)))] <;>rfl)|(rw[t1 ‹_› ‹_› ‹_› ‹_› (λh=>h.elim ‹_› λh=>h.elim ‹_› λh=>h.elim ‹_› ‹_›)] <;>rfl))
noncomputable def NO:Tab:=ao [(232,PQ)] NL
def Jt:NO.Ok aG:=ap Jr ⟨aAP,trivial⟩
def v2(v:V):List SV:=[.int .i64 v.x,.int .i64 v.y]
def l8(v:V):Com:=⟨1,bG v,cz.s⟩
def ba(s t:S):Int:=cross (aB0 s.b s.a) (aB0 t.b t.a)
def gw(s t:S):Com:=
 if dL (bw s t) (cD s t)=0 then l8 (bw s t)
 else if dL (bw s t) (cD s t)= -1 then⟨3,⟨0,0,0⟩,⟨bw s t,cD s t⟩⟩
 else cz
def mb1(s t:S):Bool:=decide (s.a=s.b)&&onS t s.a
def mb3(s t:S):Bool:=decide (s.a=s.b)||(decide (t.a=t.b)||decide (¬bT s.a s.b t.a=0))
def af(s t:S):Com:=
 if(!bQ s)=true then cz
 else if(!bQ t)=true then cz
 else if¬ba s t=0 then bH s t (ba s t)
 else if mb1 s t=true then l8 s.a
 else if mb1 t s=true then l8 t.a
 else if mb3 s t=true then cz
 else gw s t
noncomputable def Pa:Con:=con (ac aS (a1 aS)) (λ(_,_)=>[]) (λ(s,t)=>QW (af s t))
def aAY:Pa.Ok aG 172:=a8 (aw Jt) (raw:=aq) (λ(s,t)=>[jb 7 36 (mb1 s t),jb 9 51 (mb1 t s),jb 11 66 (mb3 s t),jP 12 [af s t=gw s t],lU 14 3,jO 18 [(34,.box 254 (v2 (loS s)++v2 (hiS s)++v2 (loS t)++v2 (hiS t)))],jO 21 [(40,.box 53 (v2 (bw s t)))],jO 23 [(41,.box 53 (v2 (cD s t)))]]
  ) (λ(_,_)=>⟨_,rfl⟩) λ(s,t) _=>au (q:=((!bQ s)=true->0=(af s t).k/\0=(af s t).p.x/\0=(af s t).p.y/\0=(af s t).p.den/\0=(af s t).s.a.x/\0=(af s t).s.a.y/\0=(af s t).s.b.x/\0=(af s t).s.b.y)/\
 ((!bQ s)=false->((!bQ t)=true->0=(af s t).k/\0=(af s t).p.x/\0=(af s t).p.y/\0=(af s t).p.den/\0=(af s t).s.a.x/\0=(af s t).s.a.y/\0=(af s t).s.b.x/\0=(af s t).s.b.y)/\
  ((!bQ t)=false->bd 1000000000 s.b/\bd 1000000000 s.a/\bd 1000000000 t.b/\bd 1000000000 t.a/\bd 2000000000 (aB0 s.b s.a)/\bd 2000000000 (aB0 t.b t.a)/\(¬cross (aB0 s.b s.a) (aB0 t.b t.a)=0->bQ s=true/\bQ t=true/\cross (aB0 s.b s.a) (aB0 t.b t.a)≠0/\(-200000000<=cross (aB0 s.b s.a) (aB0 t.b t.a)/\cross (aB0 s.b s.a) (aB0 t.b t.a)<=200000000)/\(bH s t (cross (aB0 s.b s.a) (aB0 t.b t.a))).k=(af s t).k/\(bH s t (cross (aB0 s.b s.a) (aB0 t.b t.a))).p.x=(af s t).p.x/\(bH s t (cross (aB0 s.b s.a) (aB0 t.b t.a))).p.y=(af s t).p.y/\(bH s t (cross (aB0 s.b s.a) (aB0 t.b t.a))).p.den=(af s t).p.den/\(bH s t (cross (aB0 s.b s.a) (aB0 t.b t.a))).s.a.x=(af s t).s.a.x/\(bH s t (cross (aB0 s.b s.a) (aB0 t.b t.a))).s.a.y=(af s t).s.a.y/\(bH s t (cross (aB0 s.b s.a) (aB0 t.b t.a))).s.b.x=(af s t).s.b.x/\(bH s t (cross (aB0 s.b s.a) (aB0 t.b t.a))).s.b.y=(af s t).s.b.y)/\
   (¬(¬cross (aB0 s.b s.a) (aB0 t.b t.a)=0)->(((s.a=s.b->onS t s.a=mb1 s t)/\
      (¬s.a=s.b->false=mb1 s t))/\
     (∀y:Unit,(mb1 s t=true->1=(af s t).k/\s.a.x=(af s t).p.x/\s.a.y=(af s t).p.y/\1=(af s t).p.den/\0=(af s t).s.a.x/\0=(af s t).s.a.y/\0=(af s t).s.b.x/\0=(af s t).s.b.y)/\
      (mb1 s t=false->((t.a=t.b->onS s t.a=mb1 t s)/\
        (¬t.a=t.b->false=mb1 t s))/\
       (∀y_1:Unit,(mb1 t s=true->1=(af s t).k/\t.a.x=(af s t).p.x/\t.a.y=(af s t).p.y/\1=(af s t).p.den/\0=(af s t).s.a.x/\0=(af s t).s.a.y/\0=(af s t).s.b.x/\0=(af s t).s.b.y)/\
        (mb1 t s=false->((s.a=s.b->true=mb3 s t)/\
          (¬s.a=s.b->(t.a=t.b->true=mb3 s t)/\
           (¬t.a=t.b->bd 1000000000 s.a/\bd 1000000000 s.b/\bd 1000000000 t.a/\decide (¬bT s.a s.b t.a=0)=mb3 s t)))/\
         (∀y_2:Unit,(mb3 s t=true->0=(af s t).k/\0=(af s t).p.x/\0=(af s t).p.y/\0=(af s t).p.den/\0=(af s t).s.a.x/\0=(af s t).s.a.y/\0=(af s t).s.b.x/\0=(af s t).s.b.y)/\
          (mb3 s t=false->af s t=gw s t)))))))/\
    (∀y:Unit,af s t=gw s t->(((0:Int)<4->aH (0+1)/\ix (0+1) 4/\ix 0 4/\(bR s.b s.a=true->aH (0+1)/\aH (0+1)/\ix (0+1) 4/\ix 0 4/\ix 0 4/\ix (0+1) 4/\aH (0+2)/\((0+2:Int)<4->aH (0+2+1)/\ix (0+2+1) 4/\ix (0+2) 4/\(bR t.b t.a=true->aH (0+2+1)/\aH (0+2+1)/\ix (0+2+1) 4/\ix (0+2) 4/\ix (0+2) 4/\ix (0+2+1) 4/\aH (0+2+2)/\((0+2+2:Int)<4->aH (0+2+2+1)/\ix (0+2+2+1) 4/\False)/\
          (¬(0+2+2:Int)<4->s.b.x=(loS s).x/\s.b.y=(loS s).y/\s.a.x=(hiS s).x/\s.a.y=(hiS s).y/\t.b.x=(loS t).x/\t.b.y=(loS t).y/\t.a.x=(hiS t).x/\t.a.y=(hiS t).y))/\
         (bR t.b t.a=false->aH (0+2+2)/\((0+2+2:Int)<4->aH (0+2+2+1)/\ix (0+2+2+1) 4/\False)/\
          (¬(0+2+2:Int)<4->s.b.x=(loS s).x/\s.b.y=(loS s).y/\s.a.x=(hiS s).x/\s.a.y=(hiS s).y/\t.a.x=(loS t).x/\t.a.y=(loS t).y/\t.b.x=(hiS t).x/\t.b.y=(hiS t).y)))/\
        (¬(0+2:Int)<4->s.b.x=(loS s).x/\s.b.y=(loS s).y/\s.a.x=(hiS s).x/\s.a.y=(hiS s).y/\t.a.x=(loS t).x/\t.a.y=(loS t).y/\t.b.x=(hiS t).x/\t.b.y=(hiS t).y))/\
       (bR s.b s.a=false->aH (0+2)/\((0+2:Int)<4->aH (0+2+1)/\ix (0+2+1) 4/\ix (0+2) 4/\(bR t.b t.a=true->aH (0+2+1)/\aH (0+2+1)/\ix (0+2+1) 4/\ix (0+2) 4/\ix (0+2) 4/\ix (0+2+1) 4/\aH (0+2+2)/\((0+2+2:Int)<4->aH (0+2+2+1)/\ix (0+2+2+1) 4/\False)/\
          (¬(0+2+2:Int)<4->s.a.x=(loS s).x/\s.a.y=(loS s).y/\s.b.x=(hiS s).x/\s.b.y=(hiS s).y/\t.b.x=(loS t).x/\t.b.y=(loS t).y/\t.a.x=(hiS t).x/\t.a.y=(hiS t).y))/\
         (bR t.b t.a=false->aH (0+2+2)/\((0+2+2:Int)<4->aH (0+2+2+1)/\ix (0+2+2+1) 4/\False)/\
          (¬(0+2+2:Int)<4->s.a.x=(loS s).x/\s.a.y=(loS s).y/\s.b.x=(hiS s).x/\s.b.y=(hiS s).y/\t.a.x=(loS t).x/\t.a.y=(loS t).y/\t.b.x=(hiS t).x/\t.b.y=(hiS t).y)))/\
        (¬(0+2:Int)<4->s.a.x=(loS s).x/\s.a.y=(loS s).y/\s.b.x=(hiS s).x/\s.b.y=(hiS s).y/\t.a.x=(loS t).x/\t.a.y=(loS t).y/\t.b.x=(hiS t).x/\t.b.y=(hiS t).y)))/\
      (¬(0:Int)<4->s.a.x=(loS s).x/\s.a.y=(loS s).y/\s.b.x=(hiS s).x/\s.b.y=(hiS s).y/\t.a.x=(loS t).x/\t.a.y=(loS t).y/\t.b.x=(hiS t).x/\t.b.y=(hiS t).y))/\
     (∀y_1:Unit,ix 0 4/\ix 1 4/\(ix 2 4/\(bR (loS s) (loS t)=true->ix 2 4/\(loS t).x=(bw s t).x/\(loS t).y=(bw s t).y)/\
       (bR (loS s) (loS t)=false->(loS s).x=(bw s t).x/\(loS s).y=(bw s t).y))/\
      (∀y_2:Unit,(ix 3 4/\(bR (hiS t) (hiS s)=true->ix 3 4/\(hiS t).x=(cD s t).x/\(hiS t).y=(cD s t).y)/\
        (bR (hiS t) (hiS s)=false->(hiS s).x=(cD s t).x/\(hiS s).y=(cD s t).y))/\
       (∀y_3:Unit,(dL (bw s t) (cD s t)=0->1=(af s t).k/\(bw s t).x=(af s t).p.x/\(bw s t).y=(af s t).p.y/\1=(af s t).p.den/\0=(af s t).s.a.x/\0=(af s t).s.a.y/\0=(af s t).s.b.x/\0=(af s t).s.b.y)/\
        (¬dL (bw s t) (cD s t)=0->(dL (bw s t) (cD s t)= -1->3=(af s t).k/\0=(af s t).p.x/\0=(af s t).p.y/\0=(af s t).p.den/\(bw s t).x=(af s t).s.a.x/\(bw s t).y=(af s t).s.a.y/\(cD s t).x=(af s t).s.b.x/\(cD s t).y=(af s t).s.b.y)/\
         (¬dL (bw s t) (cD s t)= -1->0=(af s t).k/\0=(af s t).p.x/\0=(af s t).p.y/\0=(af s t).p.den/\0=(af s t).s.a.x/\0=(af s t).s.a.y/\0=(af s t).s.b.x/\0=(af s t).s.b.y)))))))))) (by kernel_rfl) (by
  have gB:(!bQ s)=false->(!bQ t)=false-> -200000000<=ba s t/\ba s t<=200000000:=λh1 h2=>by have bs:bd 4000 s.a/\bd 4000 s.b:=kF h1;have bt:bd 4000 t.a/\bd 4000 t.b:=kF h2;have c1:=pu (jf bs.2 bs.1) (jf bt.2 bt.1);unfold ba cross;omega
  have gM:∀{r:S} {M:Int},8000<=M->(!bQ r)=false->bd M r.a/\bd M r.b/\bd M (aB0 r.b r.a):=λhM h=>by have b:=kF h (M:=4000);have c:=jf b.2 b.1;unfold bd at*;omega
  have e1:(!bQ s)=true->af s t=cz:=λh=>if_pos h;have e2:(!bQ t)=true->af s t=cz:=λh=>by unfold af;grind
  have e3:(!bQ s)=false->(!bQ t)=false->¬ba s t=0->af s t=bH s t (ba s t):=λh1 h2 h3=>by unfold af;grind
  have e4:(!bQ s)=false->(!bQ t)=false->¬¬ba s t=0->mb1 s t=true->af s t=l8 s.a:=λh1 h2 h3 h4=>by unfold af;grind
  have e5:(!bQ s)=false->(!bQ t)=false->¬¬ba s t=0->mb1 s t=false->mb1 t s=true->af s t=l8 t.a:=λh1 h2 h3 h4 h5=>by unfold af;grind
  have e6:(!bQ s)=false->(!bQ t)=false->¬¬ba s t=0->mb1 s t=false->mb1 t s=false->mb3 s t=true->af s t=cz:=λh1 h2 h3 h4 h5 h6=>by unfold af;grind
  have e7:(!bQ s)=false->(!bQ t)=false->¬¬ba s t=0->mb1 s t=false->mb1 t s=false->mb3 s t=false->af s t=gw s t:=λh1 h2 h3 h4 h5 h6=>by unfold af;grind
  have e8:af s t=gw s t->dL (bw s t) (cD s t)=0->af s t=l8 (bw s t):=λh h1=>by rw[h];exact if_pos h1
  have e9:af s t=gw s t->¬dL (bw s t) (cD s t)=0->dL (bw s t) (cD s t)= -1->af s t=⟨3,⟨0,0,0⟩,⟨bw s t,cD s t⟩⟩:=λh h1 h2=>by rw[h];unfold gw;grind
  have e10:af s t=gw s t->¬dL (bw s t) (cD s t)=0->¬dL (bw s t) (cD s t)= -1->af s t=cz:=λh h1 h2=>by rw[h];unfold gw;grind
  have q1:s.a=s.b->true=mb3 s t:=λh=>by unfold mb3;grind
  have q2:t.a=t.b->true=mb3 s t:=λh=>by unfold mb3;grind
  have q3:¬s.a=s.b->¬t.a=t.b->decide (¬bT s.a s.b t.a=0)=mb3 s t:=λh1 h2=>by unfold mb3;grind
  have q4:∀{s t:S},s.a=s.b->onS t s.a=mb1 s t:=λh=>by unfold mb1;grind
  have q5:∀{s t:S},¬s.a=s.b->false=mb1 s t:=λh=>by unfold mb1;grind
  have w1:∀{r:S},bR r.b r.a=true->r.b=loS r/\r.a=hiS r:=λh=>by unfold loS hiS;grind
  have w2:∀{r:S},bR r.b r.a=false->r.a=loS r/\r.b=hiS r:=λh=>by unfold loS hiS;grind
  have w3:bR (loS s) (loS t)=true->loS t=bw s t:=λh=>by unfold bw;rw[h];rfl
  have w4:bR (loS s) (loS t)=false->loS s=bw s t:=λh=>by unfold bw;rw[h];rfl
  have w5:bR (hiS t) (hiS s)=true->hiS t=cD s t:=λh=>by unfold cD;rw[h];rfl
  have w6:bR (hiS t) (hiS s)=false->hiS s=cD s t:=λh=>by unfold cD;rw[h];rfl
  with_reducible ((repeat' first|apply cl|intro);all_goals repeat cases‹_/\_›)
  all_goals first|assumption|rfl|(unfold ix;omega)|(unfold aH;omega)|omega|exact nb ‹_› |exact q1 ‹_› |exact q2 ‹_› |exact q3 ‹_› ‹_› |exact q4 ‹_› |exact q5 ‹_› |(rw[e1 ‹_›] <;>rfl)|(rw[e2 ‹_›] <;>rfl)|(rw[e3 ‹_› ‹_› ‹_›] <;>rfl)|(rw[e4 ‹_› ‹_› ‹_› ‹_›] <;>rfl)|(rw[e5 ‹_› ‹_› ‹_› ‹_› ‹_›] <;>rfl)|(rw[e6 ‹_› ‹_› ‹_› ‹_› ‹_› ‹_›] <;>rfl)|exact e7 ‹_› ‹_› ‹_› ‹_› ‹_› ‹_› |(rw[e8 ‹_› ‹_›] <;>rfl)|(rw[e9 ‹_› ‹_› ‹_›] <;>rfl)|(rw[e10 ‹_› ‹_› ‹_›] <;>rfl)|exact(gB ‹_› ‹_›).1|exact(gB ‹_› ‹_›).2|exact(gM (by decide) ‹_›).1|exact(gM (by decide) ‹_›).2.1|exact(gM (by decide) ‹_›).2.2|(rw[<-(w1 ‹_›).1];done)|(rw[<-(w1 ‹_›).2];done)|(rw[<-(w2 ‹_›).1];done)|(rw[<-(w2 ‹_›).2];done)|(rw[w3 ‹_›];done)|(rw[w4 ‹_›];done)|(rw[w5 ‹_›];done)|(rw[w6 ‹_›];done))
noncomputable def NX:Tab:=ao [(172,Pa)] NO
def J6:NX.Ok aG:=ap Jt ⟨aAY,trivial⟩
def Vi(s t:S)(d:Int):(bH s t d).k=gc s t d:=by
 unfold bH;split
 .rename_i h;rw[h];rfl
 .rfl
def XC(s t:S):(af s t).k=dN s t:=by
 have hc:(cz).k=0:=rfl;have h1:∀v,(l8 v).k=1:=λ_=>rfl;have e1:mb1 s t=true↔s.a=s.b/\onS t s.a=true:=by unfold mb1;simp
 have e2:mb1 t s=true↔t.a=t.b/\onS s t.a=true:=by unfold mb1;simp
 have e3:mb3 s t=true↔s.a=s.b\/t.a=t.b\/bT s.a s.b t.a≠0:=by unfold mb3;simp
 unfold af dN gw;rw[<-ba];simp only[<-e1,<-e2,<-e3];cases bQ s<;>cases bQ t<;>simp only[xZ,Bool.not_false,Bool.and_true,Bool.and_false,if_true,ng,if_false,hc,ne_eq]
 repeat' split
 all_goals first|rfl|exact Vi _ _ _
noncomputable def Pu:Con:=con (ac aS (a1 aS)) (λ(_,_)=>[]) (λ(s,t)=> .int .i64 (dN s t)
 )
def aBg:Pu.Ok aG 222:=a8 (aw J6) (raw:=aq) (λ(_,_)=>[]) (λ(_,_)=>⟨_,rfl⟩) λ(s,t) _=>au (q:=(af s t).k=dN s t) (by kernel_rfl) (by exact XC s t)
noncomputable def Bx:Tab:=ao [(222,Pu)] NX
def wS:Bx.Ok aG:=ap J6 ⟨aBg,trivial⟩
noncomputable def Px:Con:=con (ac (aL .V) (a1 aN)) (λ(r,i)=>[i<r.length,r.length<=1000000]) (λ(r,i)=>aV.enc (prv r i)
 )
def aBj:Px.Ok aG 219:=a8 (aw wS) (raw:=aq) (λ(_,_)=>[]) (λ(_,_)=>⟨_,rfl⟩) λ(r,i) hp=>au (q:=aH ((i:Int)+r.length)/\aH ((i:Int)+r.length-1)/\(r.length:Int)≠0/\ix (dc ((i:Int)+r.length-1) (r.length:Int)) r.length/\(aBX r (dc ((i:Int)+r.length-1) (r.length:Int)).toNat).x=(prv r i).x/\(aBX r (dc ((i:Int)+r.length-1) (r.length:Int)).toNat).y=(prv r i).y) (by kernel_rfl) (by
 change i<r.length/\r.length<=1000000 at hp;have h:dc ((i:Int)+r.length-1) (r.length:Int)=(((i+r.length-1) % r.length:Nat):Int):=by rw[show(i:Int)+r.length-1=((i+r.length-1:Nat):Int) by omega,<-Int.ofNat_tmod]
 rw[h];exact⟨ce (by omega),ce (by omega),by omega,fC (by omega),rfl,rfl⟩)
noncomputable def Nu:Tab:=ao [(219,Px)] Bx
def KY:Nu.Ok aG:=ap wS ⟨aBj,trivial⟩
noncomputable def Pw:Con:=con (ac (aL .V) (a1 aN)) (λ(r,i)=>[i<r.length,r.length<=1000000]) (λ(r,i)=>aV.enc (nxt r i)
 )
def aBi:Pw.Ok aG 220:=a8 (aw KY) (raw:=aq) (λ(_,_)=>[]) (λ(_,_)=>⟨_,rfl⟩) λ(r,i) hp=>au (q:=aH ((i:Int)+1)/\(r.length:Int)≠0/\ix (((i+1) % r.length:Nat):Int) r.length/\(aBX r ((i+1) % r.length)).x=(nxt r i).x/\(aBX r ((i+1) % r.length)).y=(nxt r i).y) (by kernel_rfl) (by change i<r.length/\r.length<=1000000 at hp;exact⟨ce (by omega),by omega,fC (by omega),rfl,rfl⟩)
noncomputable def Nt:Tab:=ao [(220,Pw)] Nu
def KW:Nt.Ok aG:=ap KY ⟨aBi,trivial⟩
noncomputable def Pv:Con:=Ov (a1 (aL .V)) (λr=>[r.length<=1000]) 57 .S (λr=>aQ r) (λ_=>[])
def aBh:Pv.Ok aG 221:=XZ (aw KW) (raw:=aq) (λr=>[lp 5 11 r.length (λ_=>[]) [21] (λk=>[(3,.own 21 .S k)]) (λk=>[(21,.row 57 .S ((aQ r).take k))])]
  ) (λ_=>⟨[],rfl⟩) λr hp=>au (q:=((r.length:Int)<2->aQ r=([] :List S))/\
 (¬(r.length:Int)<2->(0=(0:Int)/\(0:Nat)=0/\bL 0 (aQ r)=([] :List S)/\(0:Nat)<=r.length)/\
  (∀x:Nat,x<=r.length->((x:Int)<r.length->ix (x:Int) r.length/\x<r.length/\r.length<=1000000/\x=(bL x (aQ r)).length/\(bL x (aQ r)).length+[(⟨(aBX r x),(nxt r x)⟩:S)].length<=1000000/\aH ((x:Int)+1)/\(x:Int)+1=((x+1:Nat):Int)/\(bL x (aQ r)++[(⟨(aBX r x),(nxt r x)⟩:S)]).length=x+1/\bL x (aQ r)++[(⟨(aBX r x),(nxt r x)⟩:S)] =bL (x+1) (aQ r)/\x+1<=r.length/\r.length-(x+1)<r.length-x)/\
   (¬(x:Int)<r.length->bL x (aQ r)=aQ r/\x=(bL x (aQ r)).length)))) (by kernel_rfl) (by
  change r.length<=1000 at hp;have e0:(r.length:Int)<2->aQ r=[] :=λh=>by unfold aQ;grind
  have e1:¬(r.length:Int)<2->(aQ r).length=r.length:=λh=>rW r (by omega);have e2:¬(r.length:Int)<2->∀x:Nat,(x:Int)<r.length->bL x (aQ r)++[⟨aBX r x,nxt r x⟩] =bL (x+1) (aQ r):=λh x hx=>by
   have hx':x<(aQ r).length:=by rw[e1 h];omega
   rw[List.take_succ_eq_append_getElem hx',<-mv hx',rb (by omega) (by omega)];rfl
  have e3:¬(r.length:Int)<2->∀x:Nat,x<=r.length->(bL x (aQ r)).length=x:=λh x hx=>by grind
  have e4:¬(r.length:Int)<2->∀x:Nat,¬(x:Int)<r.length->bL x (aQ r)=aQ r:=λh x hx=>ij (by omega)
  with_reducible ((repeat' first|apply cl|intro);all_goals repeat cases‹_/\_›)
  all_goals grind)
noncomputable def Ns:Tab:=ao [(221,Pv)] Nt
def KV:Ns.Ok aG:=ap KW ⟨aBh,trivial⟩
noncomputable def Py:Con:=con (a1 (aL .V)) (λr=>[near r=true,r.length<=100000]) (λr=> .int .i64 (gL r))
def aBk:Py.Ok aG 218:=a8 (aw KV) (raw:=aq) (λr=>[lp 3 8 r.length (λ_=>[]) [] (λk=>[(3,.int .i64 (ar r k))]) (λ_=>[])]
  ) (λ_=>⟨_,rfl⟩) λr hp=>au (q:=(0=(0:Int)/\0=ar r 0/\(0:Nat)<=r.length)/\
 (∀x:Nat,x<=r.length->((x:Int)<r.length->ix (x:Int) r.length/\x<r.length/\r.length<=1000000/\bd 2000000000 (aBX r x)/\bd 2000000000 (nxt r x)/\aH (ar r x+cross (aBX r x) (nxt r x))/\aH ((x:Int)+1)/\(x:Int)+1=((x+1:Nat):Int)/\ar r x+cross (aBX r x) (nxt r x)=ar r (x+1)/\x+1<=r.length/\r.length-(x+1)<r.length-x)/\
  (¬(x:Int)<r.length->ar r x=gL r))) (by kernel_rfl) (by
  change near r=true/\r.length<=100000 at hp;have hn:=λi hi=> @mw r hp.1 i hi 2000000000;have ha:=λk (hk:k<=r.length)=>Bq hp.1 k hk;have hs:=Aa r;have hE:∀x:Nat,¬(x:Int)<r.length->x<=r.length->ar r x=gL r:=λx h1 h2=>by rw[show x=r.length by omega];rfl
  have hI:∀x:Nat,(x:Int)<r.length->aH (ar r x+cross (aBX r x) (nxt r x)):=λx h=>by have h1:=ha (x+1) (by omega);rw[hs x]at h1;exact ce (by unfold nxt;omega)
  with_reducible ((repeat' first|apply cl|intro);all_goals repeat cases‹_/\_›)
  all_goals first|rfl|with_reducible solve_by_elim|exact hn _ (by omega) (by decide)|exact hn _ (fg _ (by omega)) (by decide)|exact(hs _).symm|grind)
noncomputable def Nv:Tab:=ao [(218,Py)] Ns
def KZ:Nv.Ok aG:=ap KV ⟨aBk,trivial⟩
noncomputable def Pb:Con:=con (a1 aV) (λ_=>[]) (λv=> .bool (!bP v 2000)
 )
def aAZ:Pb.Ok aG 251:=a8 (aw KZ) (raw:=aq) (λ_=>[]) (λ_=>⟨_,rfl⟩) λv _=>au (q:=(0:Int)<=2000/\(2000:Int)<=9000000000000000000/\(!bP v 2000)=(!bP v 2000)) (by kernel_rfl) (by grind)
noncomputable def NY:Tab:=ao [(251,Pb)] Nv
def J7:NY.Ok aG:=ap KZ ⟨aAZ,trivial⟩
def aF(f:Nat):Ar Unit where
 enc _:= .fnp f [] []
 dec s:=match s with
  | .fnp g [] [] =>(match ae g f with|true=>some ()|false=>none)
  |_=>none
 ok s a h:=by
  split at h
  .split at h<;>cases h;simp_all
  .cases h
 pl _:=⟨_,rfl⟩
def fI{α:Type}(q:α->Bool)(l:List α):Int:=match l.findIdx? q with
 |some i=>(i:Int)
 |none=> -1
def kK{t:LT}{l:List t.ty}{q:t.ty->Bool}{k:Nat}(hk:k<l.length)(h:q (t.nth l k)=true)(hu:aj (λj=>q (t.nth l j)=false) k):(k:Int)=fI q l:=by
 have e:l.findIdx? q=some k:=by rw[List.findIdx?_eq_some_iff_getElem];refine⟨hk,by rw[<-t.nth_eq l hk];exact h,λj hj=> ?_⟩;have:=hu j hj;dsimp only at this;rw[t.nth_eq l (by omega)]at this;rw[this];simp
 unfold fI;rw[e]
def kk{t:LT}{l:List t.ty}{q:t.ty->Bool}(hu:aj (λj=>q (t.nth l j)=false) l.length): -1=fI q l:=by
 have e:l.findIdx? q=none:=by rw[List.findIdx?_eq_none_iff];intro x hx;obtain⟨j,hj,rfl⟩:=iF hx;have:=hu j hj;dsimp only at this;rwa[t.nth_eq l hj]at this
 unfold fI;rw[e]
def oh{α:Type}(q:α->Bool)(l:List α):decide (0<=fI q l)=l.any q:=by unfold fI;grind
noncomputable def PS:Con:=con (ac (aL .V) (a1 (aF 251))) (λ(l,_)=>[l.length<=1000000]) (λ(l,_)=> .int .i64 (fI (λv=> !bP v 2000) l))
def aAR:PS.Ok aG 275:=a8 (aw J7) (raw:=aq) (λ(l,_)=>[cnt 2 8 l.length (aj λj=>(!bP (aBX l j) 2000)=false)]
  ) (λ(_,_)=>⟨_,rfl⟩) λ(l,u) hp=>au (q:=(0=(0:Int)/\(0:Nat)<=l.length/\aj (λj=>(!bP (aBX l j) 2000)=false) 0)/\
 (∀x:Nat,x<=l.length/\aj (λj=>(!bP (aBX l j) 2000)=false) x->((x:Int)<l.length->ix (x:Int) l.length/\((!bP (aBX l x) 2000)=true->(x:Int)=fI (λv=>(!bP v 2000)) l)/\
   ((!bP (aBX l x) 2000)=false->aH ((x:Int)+1)/\(x:Int)+1=((x+1:Nat):Int)/\x+1<=l.length/\aj (λj=>(!bP (aBX l j) 2000)=false) (x+1)/\l.length-(x+1)<l.length-x))/\
  (¬(x:Int)<l.length-> -1=fI (λv=>(!bP v 2000)) l))) (by kernel_rfl) (by
  change l.length<=1000000 at hp
  with_reducible ((repeat' first|apply cl|intro);all_goals repeat cases‹_/\_›)
  all_goals first|rfl|exact kK (t:= .V) (by omega) ‹_› ‹_› |(obtain rfl:_=l.length:=nw ‹_› (by omega);exact kk (t:= .V) ‹_›)|grind)
noncomputable def NQ:Tab:=ao [(275,PS)] NY
def Jw:NQ.Ok aG:=ap J7 ⟨aAR,trivial⟩
noncomputable def Pc:Con:=con (ac (aL .V) (a1 (aF 251))) (λ(l,_)=>[l.length<=1000000]) (λ(l,_)=> .bool (l.any λv=> !bP v 2000)
 )
def aA0:Pc.Ok aG 250:=a8 (aw Jw) (raw:=aq) (λ(_,_)=>[]) (λ(_,_)=>⟨_,rfl⟩) λ(l,u) hp=>au (q:=l.length<=1000000/\decide (0<=fI (λv=>(!bP v 2000)) l)=io l (λv=>(!bP v 2000))) (by kernel_rfl) (by change l.length<=1000000 at hp;exact⟨hp,oh _ _⟩)
noncomputable def NZ:Tab:=ao [(250,Pc)] NQ
def J8:NZ.Ok aG:=ap Jw ⟨aA0,trivial⟩
noncomputable def Pz:Con:=con (a1 (aL .V)) (λl=>[l.length<=1000000]) (λl=> .bool (near l)
 )
def aBl:Pz.Ok aG 217:=a8 (aw J8) (raw:=aq) (λ_=>[]) (λ_=>⟨_,rfl⟩) λl hp=>au (q:=l.length<=1000000/\(!io l (λv=>(!bP v 2000)))=near l) (by kernel_rfl) (by change l.length<=1000000 at hp;refine⟨hp,?_⟩;unfold near;grind)
noncomputable def Nw:Tab:=ao [(217,Pz)] NZ
def Ka:Nw.Ok aG:=ap J8 ⟨aBl,trivial⟩
def tP(r:bC)(i:Nat):Prop:=¬bT (prv r i) (aBX r i) (nxt r i)=0
def eT(r:bC)(i k:Nat):Bool:=(decide (¬(k:Int)=i+1)&&(decide (¬(i:Int)=0)||decide (¬(k:Int)=r.length-1)))&&decide (¬dN (cy r i) (cy r k)=0)
def up2{p:Nat->Nat->Prop}{i k n:Nat}(h:∀j,i<j->j<k->p i j)(hk:¬(k:Int)<n):∀j,i<j->j<n->p i j:=λj h1 h2=>h j h1 (by omega)
def DV(r:bC):dC r=true↔3<=r.length/\r.length<=40/\near r=true/\0<gL r/\(∀i,i<r.length->tP r i)/\(∀i k,i<k->k<r.length->eT r i k=false):=by unfold dC tP eT;simp only[bv,decide_eq_true_eq,dW,dR,jW,bne_iff_ne,beq_iff_eq,Bool.and_eq_false_imp,decide_eq_false_iff_not,ne_eq,and_assoc,Decidable.not_not];grind
noncomputable def c83:Con:=con (a1 (aL .V)) (λr=>[r.length<=1000]) (λr=> .bool (dC r))
def k83:c83.Ok aG 160:=a8 (aw Ka) (raw:=aq) (λr=>[jP 4 [3<=r.length,r.length<=40,near r=true,0<gL r],cnt 5 29 r.length (aj (tP r)),lp 12 47 r.length (λi=>[aj (λi=>∀k,i<k->k<r.length->eT r i k=false) i]) [] (λ_=>[]) (λ_=>[]) λi=>[(15,.mk Nat (λF _=>nL F 8) [] (λk=>[i<k,k<=r.length,∀j,i<j->j<k->eT r i j=false]) (λk=>[(8,.int .i64 (k:Int))]) (λ_=>[]) (λk=>r.length-k) λk=>[jb 18 82 (eT r i k)])]]
  ) (λ_=>⟨_,rfl⟩) λr hp=>au (q:=(((r.length:Int)<3->false=dC r)/\
  (¬(r.length:Int)<3->(40<(r.length:Int)->false=dC r)/\
   (¬40<(r.length:Int)->r.length<=1000000/\((!near r)=true->false=dC r)/\
    ((!near r)=false->near r=true/\r.length<=100000/\(gL r<=0->false=dC r)/\
     (¬gL r<=0->(3:Nat)<=r.length/\r.length<=40/\near r=true/\0<gL r)))))/\
 (∀y:Unit,(3:Nat)<=r.length/\r.length<=40/\near r=true/\0<gL r->(0=(0:Int)/\(0:Nat)<=r.length/\aj (tP r) 0)/\
  (∀x:Nat,x<=r.length/\aj (tP r) x->((x:Int)<r.length->ix (x:Int) r.length/\x<r.length/\r.length<=1000000/\x<r.length/\r.length<=1000000/\bd 1000000000 (prv r x)/\bd 1000000000 (aBX r x)/\bd 1000000000 (nxt r x)/\(bT (prv r x) (aBX r x) (nxt r x)=0->false=dC r)/\
    (¬bT (prv r x) (aBX r x) (nxt r x)=0->aH ((x:Int)+1)/\(x:Int)+1=((x+1:Nat):Int)/\x+1<=r.length/\aj (tP r) (x+1)/\r.length-(x+1)<r.length-x))/\
   (¬(x:Int)<r.length->r.length<=1000/\(0=(0:Int)/\(0:Nat)<=r.length/\aj (λi=>∀k:Nat,i<k->k<r.length->eT r i k=false) 0)/\
    (∀x_1:Nat,x_1<=r.length/\aj (λi=>∀k:Nat,i<k->k<r.length->eT r i k=false) x_1->((x_1:Int)<r.length->aH ((x_1:Int)+1)/\((x_1:Int)+1=((x_1+1:Nat):Int)/\x_1<x_1+1/\x_1+1<=r.length/\(∀j:Nat,x_1<j->j<x_1+1->eT r x_1 j=false))/\
      (∀x_2:Nat,x_1<x_2/\x_2<=r.length/\(∀j:Nat,x_1<j->j<x_2->eT r x_1 j=false)->((x_2:Int)<r.length->(aH ((x_1:Int)+1)/\(¬(x_2:Int)=x_1+1->(¬(x_1:Int)=0->ix (x_1:Int) (aQ r).length/\x_1<(aQ r).length/\ix (x_2:Int) (aQ r).length/\x_2<(aQ r).length/\decide (¬dN (aK (aQ r) x_1) (aK (aQ r) x_2)=0)=eT r x_1 x_2)/\
          (¬(¬(x_1:Int)=0)->aH ((r.length:Int)-1)/\(¬(x_2:Int)=r.length-1->ix (x_1:Int) (aQ r).length/\x_1<(aQ r).length/\ix (x_2:Int) (aQ r).length/\x_2<(aQ r).length/\decide (¬dN (aK (aQ r) x_1) (aK (aQ r) x_2)=0)=eT r x_1 x_2)/\
           (¬(¬(x_2:Int)=r.length-1)->false=eT r x_1 x_2)))/\
         (¬(¬(x_2:Int)=x_1+1)->false=eT r x_1 x_2))/\
        (∀y_1:Unit,(eT r x_1 x_2=true->false=dC r)/\
         (eT r x_1 x_2=false->aH ((x_2:Int)+1)/\(x_2:Int)+1=((x_2+1:Nat):Int)/\x_1<x_2+1/\x_2+1<=r.length/\(∀j:Nat,x_1<j->j<x_2+1->eT r x_1 j=false)/\r.length-(x_2+1)<r.length-x_2)))/\
       (¬(x_2:Int)<r.length->aH ((x_1:Int)+1)/\(x_1:Int)+1=((x_1+1:Nat):Int)/\x_1+1<=r.length/\aj (λi=>∀k:Nat,i<k->k<r.length->eT r i k=false) (x_1+1)/\r.length-(x_1+1)<r.length-x_1)))/\
     (¬(x_1:Int)<r.length->true=dC r)))))) (by kernel_rfl) (by
  change r.length<=1000 at hp;have iff:=DV r;have hf:(dC r=true->False)->false=dC r:=λh=>by grind
  have el:3<=r.length->(aQ r).length=r.length:=λh=>rW r (by omega);have en:near r=true->∀i,i<r.length->bd 1000000000 (aBX r i):=λh i hi=>mw h hi;have ep:3<=r.length->∀i,i<r.length->aK (aQ r) i=cy r i:=λh i hi=>rb (by omega) hi;have hE:3<=r.length->r.length<=40->near r=true->0<gL r->∀x y:Nat,¬(x:Int)<r.length->¬(y:Int)<r.length->aj (tP r) x->aj (λi=>∀k:Nat,i<k->k<r.length->eT r i k=false) y->true=dC r:=λh1 h2 h3 h4 x y hx hy h5 h6=>
   (iff.2 ⟨h1,h2,h3,h4,λi hi=>h5 i (by omega),λi k hi hk=>h6 i (by omega) k hi hk⟩).symm
  have b0:∀x y:Nat,¬(¬(y:Int)=x+1)->false=eT r x y:=λx y h=>by unfold eT;grind
  have b1:∀x y:Nat,¬(¬(x:Int)=0)->¬(¬(y:Int)=r.length-1)->false=eT r x y:=λx y h1 h2=>by unfold eT;grind
  have b2:∀x y:Nat,3<=r.length->¬(y:Int)=x+1->¬(x:Int)=0->(x:Int)<r.length->(y:Int)<r.length->decide (¬dN (aK (aQ r) x) (aK (aQ r) y)=0)=eT r x y:=λx y h0 h1 h2 h3 h4=>by unfold eT;grind
  have b3:∀x y:Nat,3<=r.length->¬(y:Int)=x+1->¬(y:Int)=r.length-1->(x:Int)<r.length->(y:Int)<r.length->decide (¬dN (aK (aQ r) x) (aK (aQ r) y)=0)=eT r x y:=λx y h0 h1 h2 h3 h4=>by unfold eT;grind
  with_reducible ((repeat' first|apply cl|intro);all_goals repeat cases‹_/\_›)
  all_goals first|assumption|rfl|exact trivial|exact nb ‹_› |exact nb' ‹_› |omega|exact fC (by omega)|(unfold ix;omega)|(unfold aH;omega)|exact eQ _|exact cB ‹_› ‹_› |(refine cB ‹_› ?_;simp_all;done)|exact en ‹_› _ (by omega)|exact en ‹_› _ (fg _ (by omega))|(rw[el ‹_›];exact tJ (by omega))|(rw[el ‹_›];omega)|exact b0 _ _ ‹_› |exact b1 _ _ ‹_› ‹_› |exact b2 _ _ ‹_› ‹_› ‹_› ‹_› ‹_› |exact b3 _ _ ‹_› ‹_› ‹_› ‹_› ‹_› |exact hE ‹_› ‹_› ‹_› ‹_› _ _ ‹_› ‹_› ‹_› ‹_› |(refine hf λh=> ?_;have h:=iff.1 h;first|omega|(have h4:=‹(!near r)=true›;rw[h.2.2.1]at h4;cases h4)|(exact absurd ‹bT _ _ _=0› (h.2.2.2.2.1 _ (by omega)))|grind)|exact cB ‹_› (show tP r _ from‹¬bT _ _ _=0›)|(intro j h1 h2;omega)|exact cB ‹_› (up2 (p:=λi k=>eT r i k=false) ‹_› ‹_›)|grind)
noncomputable def t83:Tab:=ao [(160,c83)] Nw
def Mh:t83.Ok aG:=ap Ka ⟨k83,trivial⟩
def Vq(n:Nat)(w:World)(h0:0<n)(hn:n<=100000):
  Calls aG 254 #[.slice none 0 0,.int .i64 n] w λe w'=>∃v,e= .returned v/\w'.ownsRow w.heap.size 53 2 v 0 []/\Below w.heap.size w w':=by
 have hinf:(aG.info? 53).map (λi=>(i.zero,i.size,i.bytes))=some (some (.agg #[.int .i64 0,.int .i64 0]),2,16):=by kernel_rfl
 obtain⟨i,hi1,hi2⟩:=Option.map_eq_some_iff.1 hinf;simp only[Prod.mk.injEq]at hi2;obtain⟨i1,i2,i3⟩:=hi2;have hold:(Builtin.firstCells i.size 0 (.slice none 0 0)).run aG w.drew= .ok ([] :List Value).toArray w.drew:=run_firstCells_none w.drew i.size 0 0 0;have hrz:∀ty,(Builtin.append_ #[64,3] ty #[.slice none 0 0,.int .i64 n]).run aG w= .ok (.slice (some ⟨w.heap.size,0,none⟩) n (grownCap w n 0 53))
   (w.drew.alloc (.cells (#[] ++Builtin.zeroCells #[.int .i64 0,.int .i64 0] n++Builtin.zeroCells #[.int .i64 0,.int .i64 0] (grownCap w n 0 53-n)) 53)):=λty=>by
  have h:=Lib.run_append_grow_zeros w 64 3 ty 53 i (.agg #[.int .i64 0,.int .i64 0]) .i64 .i64 Tryz.underlying64 nt hi1 i1 none 0 0 [] hold n h0 (by omega) (by omega) (by omega) (by grind)
   (by unfold Builtin.nextslicecap;grind)
  rw[gX]at h;exact h
 have hGn:n<=grownCap w n 0 53:=grownCap_ge w _ _ _;have hGm:=grownCap_le_maxLen w n 0 53 (by unfold maxLen;omega);obtain⟨G,hG⟩:∃G,G=grownCap w n 0 53:=⟨_,rfl⟩;rw[<-hG]at hrz hGn hGm;have hG63:G<=9223372036854775807:=by unfold maxLen at hGm;omega
 have hzc:∀m,(Builtin.zeroCells #[.int .i64 0,.int .i64 0] m).size=m*2:=by intro m;unfold Builtin.zeroCells;simp
 obtain⟨cur,hcur⟩:∃cur,cur=(#[] ++Builtin.zeroCells #[.int .i64 0,.int .i64 0] n++Builtin.zeroCells #[.int .i64 0,.int .i64 0] (G-n):Array Value):=⟨_,rfl⟩;have hcs:cur.size=G*2:=by rw[hcur];simp[hzc];omega
 rw[<-hcur]at hrz;have hrow:(w.drew.alloc (.cells cur 53)).ownsRow w.heap.size 53 2 (.slice (some ⟨w.heap.size,0,none⟩) 0 G) 0 [] :=
  ⟨by simp,.inr ⟨w.heap.size,G,cur,rfl,bA _,Blk.new w.drew 53 cur,by omega,hGm,hcs,by simp⟩⟩
 have hbl:Below w.heap.size w (w.drew.alloc (.cells cur 53)):=((Below.refl _ _).drew).alloc (bA _) _;clear hold hinf hi1 i1 i2 i3 hcur hcs hzc hG hGm
 go_enter Tryz.func254,Tryz.ntmps254
 go_wp2_with (at_builtin;refine Lib.wpList_append_run _ rfl _ _ _ _ rfl _ _ rfl rfl _ _ (hrz _) ?_)
 all_goals
  go_ret
  exact⟨_,rfl,hrow,hbl⟩
def TZ{n:Nat}(h0:0<n)(hn:n<=100000):CU aG 254 [.int .i64 n] 53 2 [] 0 [] :=by
 refine⟨by kernel_rfl,by decide,λC w vs hC h=> ?_⟩;unfold bK at h;obtain⟨v,r,rfl,h1,h2⟩:=h;unfold az at h1;unfold bK at h2;subst h1 h2;refine(Vq n w h0 hn).mono ?_;rintro e w' ⟨v,rfl,⟨_,h3⟩,hb⟩;rcases h3 with⟨rfl,_⟩|⟨g,cap,cur,rfl,h4,h5,_,h6,h7,_⟩
 .exact⟨_,[],none,0,rfl,hb,by unfold bK;rfl,.inl ⟨rfl,rfl,rfl,rfl,rfl⟩⟩
 .exact⟨_,[],some g,cap,rfl,hb,by unfold bK;rfl,.inr ⟨g,cur,rfl,rfl,cu _,h4,h5,h7,cu _,h6,λi x hi=>by simp at hi⟩⟩
def CM:List SV->Option Nat
 |[.nil,.int .i64 (.ofNat n)] =>some n
 |_=>none
def UO{s:List SV}{n:Nat}(h:CM s=some n):s=[.nil,.int .i64 (n:Int)] :=by
 unfold CM at h;split at h
 .cases h;rfl
 .cases h
def PW:Con:=⟨Nat,CM,λn=>[0<n,n<=100000],.ownN 53 .V (λ_=>[])⟩
def aAU:PW.Ok aG 254:=by intro s n hd hp;rw[UO hd];exact⟨[.int .i64 ((show Nat from n:Nat):Int)],rfl,TZ (hp _ eD) (hp _ (dT _ eD))⟩
def aPt:Ar Pt where
 enc p:= .pro [.int .i64 p.x,.int .i64 p.y,.int .i64 p.den] 0
 dec s:=match s with
  | .pro [.int .i64 x,.int .i64 y,.int .i64 z] 0=>some ⟨x,y,z⟩
  |_=>none
 ok s a h:=by grind
 pl _:=⟨_,rfl⟩
def jPU(key:Nat)(I:List Prop)(u:Frm):Nat×Ann:=(key+10000,.mk Unit (λ_ _=>some ()) [] (λ_=>I) (λ_=>u) (λ_=>[]) (λ_=>0) (λ_=>[]))
def tv(p:Pt)(l:List S):Bool:=l.foldl (λb s=>b !=iB s p) false
def Tn{p:Pt}{l:List S}{k:Nat}(h:k<l.length):tv p (l.take (k+1))=(tv p (l.take k) !=iB (aK l k) p):=by unfold tv;rw[pU,c7 h,Cs,mv h];rfl
def FE{p:Pt}:∀{l:List S} {k:Nat} (ins:Bool),k<l.length->(∀j,j<k->aB4 (aK l j) p=false)->aB4 (aK l k) p=true->gA p l ins=1
 |[],k,ins,h,_,_=>by simp at h
 |s::l,0,ins,h,_,h2=>by
  unfold gA;rw[show aB4 s p=true from h2];rfl
 |s::l,k+1,ins,h,h1,h2=>by
  unfold gA;rw[show aB4 s p=false from h1 0 (by omega)];exact FE (l:=l) (k:=k) _ (by simpa using h) (λj hj=>h1 (j+1) (by omega)) h2
def ES{p:Pt}:∀{l:List S} (ins:Bool),(∀j,j<l.length->aB4 (aK l j) p=false)->gA p l ins=if l.foldl (λb s=>b !=iB s p) ins=true then 2 else 0
 |[],ins,_=>rfl
 |s::l,ins,h1=>by
  unfold gA;rw[show aB4 s p=false from h1 0 (by simp)];exact ES (l:=l) _ (λj hj=>h1 (j+1) (by grind))
def pb(r:bC)(p:Pt)(k:Nat):Bool:=tv p ((aQ r).take k)
def V0{r:bC}(h:dC r=true){j:Nat}(hj:j<(aQ r).length):bd 2000 (aK (aQ r) j).a/\bd 2000 (aK (aQ r) j).b:=HR (by rw[<-Ew];exact h) hj
def cOK(a b:V):Prop:=(-4000000000000000000<=a.x*b.y/\a.x*b.y<=4000000000000000000)/\(-4000000000000000000<=a.y*b.x/\a.y*b.x<=4000000000000000000)
noncomputable def ME:Con:=con (ac aV (a1 aV)) (λ(a,b)=>[cOK a b]) (λ(a,b)=> .int .i64 (cross a b)
 )
def Zc:ME.Ok aG 143:=a8 (aw Mh) (raw:=aq) (λ(_,_)=>[]) (λ(_,_)=>⟨_,rfl⟩) λ(a,b) hp=>au (q:=aH (a.x*b.y)/\aH (a.y*b.x)/\aH (a.x*b.y-a.y*b.x)/\a.x*b.y-a.y*b.x=cross a b) (by kernel_rfl) (by change cOK a b at hp;unfold cOK at hp;exact⟨ce (by omega),ce (by omega),ce (by omega),rfl⟩)
noncomputable def K4:Tab:=ao [(143,ME)] t83
def IG:K4.Ok aG:=ap Mh ⟨Zc,trivial⟩
noncomputable def Pd:Con:=con (ac aV (a1 aPt)) (λ(v,p)=>[PtB p,bd 10000 v]) (λ(v,p)=>aV.enc (toV p v)
 )
def aA1:Pd.Ok aG 276:=a8 (aw IG) (raw:=aq) (λ(_,_)=>[]) (λ(_,_)=>⟨_,rfl⟩) λ(v,p) hp=>au (q:=aH (v.x*p.den)/\aH (p.x-v.x*p.den)/\aH (v.y*p.den)/\aH (p.y-v.y*p.den)/\p.x-v.x*p.den=(toV p v).x/\p.y-v.y*p.den=(toV p v).y) (by kernel_rfl) (by change PtB p/\bd 10000 v at hp;have h:=hp.1.off hp.2;have h2:(-600000000000<=p.x/\p.x<=600000000000)/\(-600000000000<=p.y/\p.y<=600000000000):=hp.1.2;exact⟨ce (by omega),ce (by omega),ce (by omega),ce (by omega),rfl,rfl⟩)
noncomputable def Na:Tab:=ao [(276,Pd)] K4
def KF:Na.Ok aG:=ap IG ⟨aA1,trivial⟩
noncomputable def P6:Con:=con (ac (aL .V) (a1 aT)) (λ(r,_)=>[r.length<=1000]) (λ(r,p)=> .int .i64 (gq r p))
def aBs:P6.Ok aG 253:=a8 (aw KF) (raw:=aq) (λ(r,p)=>[jP 3 [dC r=true,c8 p=true],lp 6 25 (aQ r).length (λk=>[aj (λj=>aB4 (nE r j) p=false) k]) [] (λk=>[(6,.bool (pb r p k))]) (λ_=>[]) λk=>[jb 11 77 (aB4 (nE r k) p),jb 14 91 (iB (nE r k) p),jPU 15 [aB4 (nE r k) p=false] [(6,.bool (pb r p (k+1)))]]]
  ) (λ(_,_)=>⟨_,rfl⟩) λ(r,p) hp=>au (q:=(r.length<=1000/\((!dC r)=true->0=gq r p)/\
  ((!dC r)=false->((!c8 p)=true->0=gq r p)/\
   ((!c8 p)=false->dC r=true/\c8 p=true)))/\
 (∀y:Unit,dC r=true/\c8 p=true->r.length<=1000/\(0=(0:Int)/\false=pb r p 0/\(0:Nat)<=(aQ r).length/\aj (λj=>aB4 (nE r j) p=false) 0)/\
  (∀x:Nat,x<=(aQ r).length/\aj (λj=>aB4 (nE r j) p=false) x->((x:Int)<(aQ r).length->(ix (x:Int) (aQ r).length/\x<(aQ r).length/\PtB p/\bd 10000 (nE r x).a/\PtB p/\bd 10000 (nE r x).b/\bd 1000000000 (nE r x).b/\bd 1000000000 (nE r x).a/\cOK (aB0 (nE r x).b (nE r x).a) (toV p (nE r x).a)/\((cross (aB0 (nE r x).b (nE r x).a) (toV p (nE r x).a)=0->(Min.min (toV p (nE r x).a).x (toV p (nE r x).b).x<=0->(0<=Max.max (toV p (nE r x).a).x (toV p (nE r x).b).x->(Min.min (toV p (nE r x).a).y (toV p (nE r x).b).y<=0->decide (0<=Max.max (toV p (nE r x).a).y (toV p (nE r x).b).y)=aB4 (nE r x) p)/\
         (¬Min.min (toV p (nE r x).a).y (toV p (nE r x).b).y<=0->false=aB4 (nE r x) p))/\
        (¬0<=Max.max (toV p (nE r x).a).x (toV p (nE r x).b).x->false=aB4 (nE r x) p))/\
       (¬Min.min (toV p (nE r x).a).x (toV p (nE r x).b).x<=0->false=aB4 (nE r x) p))/\
      (¬cross (aB0 (nE r x).b (nE r x).a) (toV p (nE r x).a)=0->false=aB4 (nE r x) p))/\
     (∀y_1:Unit,(aB4 (nE r x) p=true->1=gq r p)/\
      (aB4 (nE r x) p=false->(((decide (0<=(toV p (nE r x).a).y) !=decide (0<=(toV p (nE r x).b).y))=true->(decide (0<=(toV p (nE r x).a).y)==decide (0<cross (aB0 (nE r x).b (nE r x).a) (toV p (nE r x).a)))=iB (nE r x) p)/\
        ((decide (0<=(toV p (nE r x).a).y) !=decide (0<=(toV p (nE r x).b).y))=false->false=iB (nE r x) p))/\
       (∀y_2:Unit,(iB (nE r x) p=true->(!pb r p x)=pb r p (x+1)/\aB4 (nE r x) p=false)/\
        (iB (nE r x) p=false->pb r p x=pb r p (x+1)/\aB4 (nE r x) p=false)))))/\
    (∀y_1:Unit,aB4 (nE r x) p=false->aH ((x:Int)+1)/\(x:Int)+1=((x+1:Nat):Int)/\pb r p (x+1)=pb r p (x+1)/\x+1<=(aQ r).length/\aj (λj=>aB4 (nE r j) p=false) (x+1)/\(aQ r).length-(x+1)<(aQ r).length-x))/\
   (¬(x:Int)<(aQ r).length->(pb r p x=true->2=gq r p)/\
    (pb r p x=false->0=gq r p))))) (by kernel_rfl) (by
  change r.length<=1000 at hp;have e0:pb r p 0=false:=rfl;have es:∀k:Nat,(k:Int)<(aQ r).length->pb r p (k+1)=(pb r p k !=iB (nE r k) p):=λk h=>Tn (by omega);have hw0:dC r=false\/c8 p=false->0=gq r p:=λh=>by unfold gq;grind
  have hw:dC r=true->c8 p=true->gq r p=gA p (aQ r) false:=λh1 h2=>by unfold gq;simp[h1,h2]
  have eb:dC r=true->∀j:Nat,(j:Int)<(aQ r).length->bd 2000 (aK (aQ r) j).a/\bd 2000 (aK (aQ r) j).b:=λh j hj=>V0 h (by omega);have el:(aQ r).length<=1000:=by unfold aQ;split<;>simp<;>omega
  have s1:∀j:Nat,(j:Int)<(aQ r).length->aj (λj=>aB4 (nE r j) p=false) j->aB4 (nE r j) p=true->gA p (aQ r) false=1:=λj h1 h2 h3=>FE false (by omega) h2 h3;have s2:∀k:Nat,¬(k:Int)<(aQ r).length->k<=(aQ r).length->aj (λj=>aB4 (nE r j) p=false) k->gA p (aQ r) false=if pb r p k=true then 2 else 0:=λk h1 h2 h=>by
   obtain rfl:k=(aQ r).length:=by omega
   rw[ES false h];unfold pb tv;grind
  have gV:dC r=true->c8 p=true->∀j:Nat,(j:Int)<(aQ r).length->cOK (aB0 (aK (aQ r) j).b (aK (aQ r) j).a) (toV p (aK (aQ r) j).a):=λh1 h2 j hj=>by
   have b1:=jf (eb h1 j hj).2 (eb h1 j hj).1;have hB:=PtB.of h2;have b2:=hB.off (eb h1 j hj).1.mono;have h2:(-600000000000<=p.x/\p.x<=600000000000)/\(-600000000000<=p.y/\p.y<=600000000000):=hB.2;have b3:bd 2000000000000 (toV p (aK (aQ r) j).a):=by unfold bd toV;dsimp only;omega
   exact⟨by have:=iI b1.1 b3.2;omega,by have:=iI b1.2 b3.1;omega⟩
  have oN:∀j:Nat,(¬fU (nE r j) p=0\/¬Min.min (toV p (nE r j).a).x (toV p (nE r j).b).x<=0\/¬0<=Max.max (toV p (nE r j).a).x (toV p (nE r j).b).x\/¬Min.min (toV p (nE r j).a).y (toV p (nE r j).b).y<=0)->false=aB4 (nE r j) p:=λj h=>by symm;unfold aB4;grind
  have oY:∀j:Nat,fU (nE r j) p=0->Min.min (toV p (nE r j).a).x (toV p (nE r j).b).x<=0->0<=Max.max (toV p (nE r j).a).x (toV p (nE r j).b).x->Min.min (toV p (nE r j).a).y (toV p (nE r j).b).y<=0->decide (0<=Max.max (toV p (nE r j).a).y (toV p (nE r j).b).y)=aB4 (nE r j) p:=λj h1 h2 h3 h4=>by unfold aB4;grind
  have hN:∀j:Nat,(decide (0<=(toV p (nE r j).a).y) !=decide (0<=(toV p (nE r j).b).y))=false->false=iB (nE r j) p:=λj h=>by unfold iB;rw[h];rfl
  have hY:∀j:Nat,(decide (0<=(toV p (nE r j).a).y) !=decide (0<=(toV p (nE r j).b).y))=true->(decide (0<=(toV p (nE r j).a).y)==decide (0<fU (nE r j) p))=iB (nE r j) p:=λj h=>by unfold iB;rw[h];rfl
  with_reducible ((repeat' first|apply cl|intro);all_goals repeat cases‹_/\_›)
  all_goals first|rfl|with_reducible solve_by_elim|exact PtB.of ‹_› |exact(eb ‹_› _ ‹_›).1.mono|exact(eb ‹_› _ ‹_›).2.mono|exact gV ‹_› ‹_› _ ‹_› |exact oN _ (.inl ‹_›)|exact oN _ (.inr (.inl ‹_›))|exact oN _ (.inr (.inr (.inl ‹_›)))|exact oN _ (.inr (.inr (.inr ‹_›)))|exact hw0 (.inl (nb' ‹_›))|exact hw0 (.inr (nb' ‹_›))|(rw[hw ‹_› ‹_›,s1 _ ‹_› ‹_› ‹_›];done)|(rw[hw ‹_› ‹_›,s2 _ ‹_› ‹_› ‹_›,‹pb _ _ _=_›];rfl)|(rw[es _ ‹_›,‹iB _ _=_›];simp;done)|grind)
noncomputable def OA:Tab:=ao [(253,P6)] Na
def Kh:OA.Ok aG:=ap KF ⟨aBs,trivial⟩
noncomputable def c65:Con:=con (ac (aL .V) (a1 aV)) (λ(r,_)=>[r.length<=1000]) (λ(r,v)=> .int .i64 (eJ r v)
 )
def k65:c65.Ok aG 225:=a8 (aw Kh) (raw:=aq) (λ(_,_)=>[]) (λ(_,_)=>⟨_,rfl⟩) λ(r,v) hp=>au (q:=(0:Int)<=4000/\(4000:Int)<=9000000000000000000/\((!bP v 4000)=true->0=eJ r v)/\
 ((!bP v 4000)=false->r.length<=1000/\gq r (bG v)=eJ r v)) (by kernel_rfl) (by change r.length<=1000 at hp;have e:eJ r v=if(!bP v 4000)=true then 0 else gq r (bG v):=rfl;grind)
noncomputable def t65:Tab:=ao [(225,c65)] OA
def aAb:t65.Ok aG:=ap Kh ⟨k65,trivial⟩
noncomputable def t89:Tab:=t65
def Z4:t89.Ok aG:=aAb
noncomputable def NT:Tab:=ao [(254,PW)] t89
def J1:NT.Ok aG:=ap Z4 ⟨aAU,trivial⟩
noncomputable def Pg:Con:=con (a1 (aL .R)) (λl=>[l.length<=1000,0<l.flatten.length,l.flatten.length<=1000]) (λl=> .lst .V l.flatten)
def aA4:Pg.Ok aG 228:=a8 (aw J1) (raw:=λr i=>ae r 1&&ae i 0) (λl=>[lp 3 11 l.length (λ_=>[]) [] (λk=>[(3,.int .i64 (((l.take k).flatten.length:Nat):Int))]) (λ_=>[]),lp 11 27 l.length (λ_=>[]) [7] (λk=>[(6,.own 7 .V ((l.take k).flatten.length))]) (λk=>[(7,.row 53 .V ((l.take k).flatten))])]
  ) (λ_=>⟨_,rfl⟩) λl hp=>au (q:=(0=(0:Int)/\0=((ew (bL 0 l)).length:Int)/\(0:Nat)<=l.length)/\
 (∀x:Nat,x<=l.length->((x:Int)<l.length->ix (x:Int) l.length/\aH (((ew (bL x l)).length:Int)+(aZ l x).length)/\(((ew (bL x l)).length:Int)+(aZ l x).length<0->False)/\
   (¬((ew (bL x l)).length:Int)+(aZ l x).length<0->aH ((x:Int)+1)/\(x:Int)+1=((x+1:Nat):Int)/\((ew (bL x l)).length:Int)+(aZ l x).length=(ew (bL (x+1) l)).length/\x+1<=l.length/\l.length-(x+1)<l.length-x))/\
  (¬(x:Int)<l.length->(0:Nat)<(ew (bL x l)).length/\(ew (bL x l)).length<=100000/\(0=(0:Int)/\([] :List V).length=(ew (bL 0 l)).length/\([] :List V)=ew (bL 0 l)/\(0:Nat)<=l.length)/\
   (∀x_1:Nat,x_1<=l.length->((x_1:Int)<l.length->ix (x_1:Int) l.length/\(ew (bL x_1 l)).length=(ew (bL x_1 l)).length/\(ew (bL x_1 l)).length+(aZ l x_1).length<=1000000/\aH ((x_1:Int)+1)/\(x_1:Int)+1=((x_1+1:Nat):Int)/\(ew (bL x_1 l)++aZ l x_1).length=(ew (bL (x_1+1) l)).length/\ew (bL x_1 l)++aZ l x_1=ew (bL (x_1+1) l)/\x_1+1<=l.length/\l.length-(x_1+1)<l.length-x_1)/\
    (¬(x_1:Int)<l.length->(ew (bL x_1 l)).length=(ew (bL x_1 l)).length/\ew (bL x_1 l)=ew l))))) (by kernel_rfl) (by
  change l.length<=1000/\0<l.flatten.length/\l.flatten.length<=1000 at hp;have e1:∀x:Nat,(x:Int)<l.length->(l.take (x+1)).flatten=(l.take x).flatten++aZ l x:=λx h=>by rw[List.take_succ_eq_append_getElem (by omega),List.flatten_append,List.flatten_singleton,sX (by omega)]
  have e2:∀x:Nat,(l.take x).flatten.length<=l.flatten.length:=λx=>by
   conv=>rhs;rw[<-List.take_append_drop x l,List.flatten_append,dn]
   omega
  have e3:∀x:Nat,¬(x:Int)<l.length->bL x l=l:=λx h=>ij (by omega);have e4:∀x:Nat,(x:Int)<l.length->(l.take x).flatten.length+(aZ l x).length<=l.flatten.length:=λx h=>by grind
  have e5:∀x:Nat,(x:Int)<l.length->((ew (bL x l)).length:Int)+(aZ l x).length=(ew (bL (x+1) l)).length:=λx h=>by grind
  have e6:∀x:Nat,(x:Int)<l.length->aH (((ew (bL x l)).length:Int)+(aZ l x).length):=λx h=>ce (by grind)
  repeat' first|with_reducible apply cl|with_reducible intro
  all_goals repeat with_reducible cases‹_/\_›
  all_goals grind)
noncomputable def Nf:Tab:=ao [(228,Pg)] NT
def KI:Nf.Ok aG:=ap J1 ⟨aA4,trivial⟩
def AP(a b:V):dL a b<0↔bR a b=true:=by unfold dL bR aB3;grind
def T6(a:V):bR a a=false:=by unfold bR;grind
noncomputable def Pi:Con:=con (ac (aL .V) (a1 (aF 166))) (λ(r,_)=>[0<r.length,r.length<=1000]) (λ(r,_)=>aV.enc (aBX r (fK r)))
def aA6:Pi.Ok aG 226:=a8 (aw KI) (raw:=aq) (λ(r,_)=>[(5,.mk Nat (λF _=>nL F 6) [] (λk=>[0<k,k<=r.length]) (λk=>[(6,.int .i64 (k:Int))]) (λk=>[(7,.box 53 [.int .i64 (aBX r (bl r k)).x,.int .i64 (aBX r (bl r k)).y])]) (λk=>r.length-k) (λ_=>[]))]
  ) (λ(_,_)=>⟨_,rfl⟩) λ(r,u) hp=>au (q:=((r.length:Int)<1->False)/\
 (¬(r.length:Int)<1->ix 0 r.length/\(1=(1:Int)/\(aBX r 0).x=(aBX r (bl r 1)).x/\(aBX r 0).y=(aBX r (bl r 1)).y/\(0:Nat)<1/\(1:Nat)<=r.length)/\
  (∀x:Nat,(0:Nat)<x/\x<=r.length->((x:Int)<r.length->ix (x:Int) r.length/\(dL (aBX r x) (aBX r (bl r x))<0->ix (x:Int) r.length/\aH ((x:Int)+1)/\(x:Int)+1=((x+1:Nat):Int)/\(aBX r x).x=(aBX r (bl r (x+1))).x/\(aBX r x).y=(aBX r (bl r (x+1))).y/\(0:Nat)<x+1/\x+1<=r.length/\r.length-(x+1)<r.length-x)/\
    (¬dL (aBX r x) (aBX r (bl r x))<0->aH ((x:Int)+1)/\(x:Int)+1=((x+1:Nat):Int)/\(aBX r (bl r x)).x=(aBX r (bl r (x+1))).x/\(aBX r (bl r x)).y=(aBX r (bl r (x+1))).y/\(0:Nat)<x+1/\x+1<=r.length/\r.length-(x+1)<r.length-x))/\
   (¬(x:Int)<r.length->(aBX r (bl r x)).x=(aBX r (fK r)).x/\(aBX r (bl r x)).y=(aBX r (fK r)).y)))) (by kernel_rfl) (by
  change 0<r.length/\r.length<=1000 at hp;have e0:bl r 1=0:=by unfold bl bl;split<;>rfl
  have e1:∀x:Nat,dL (aBX r x) (aBX r (bl r x))<0->bl r (x+1)=x:=λx h=>if_pos ((AP _ _).1 h);have e2:∀x:Nat,¬dL (aBX r x) (aBX r (bl r x))<0->bl r (x+1)=bl r x:=λx h=>if_neg λh2=>h ((AP _ _).2 h2);have e3:∀x:Nat,¬(x:Int)<r.length->x<=r.length->bl r x=fK r:=λx h1 h2=>by rw[show x=r.length by omega];rfl
  with_reducible ((repeat' first|apply cl|intro);all_goals repeat cases‹_/\_›)
  all_goals grind)
noncomputable def Nh:Tab:=ao [(226,Pi)] Nf
def KK:Nh.Ok aG:=ap KI ⟨aA6,trivial⟩
noncomputable def Pj:Con:=con (ac (aL .V) (a1 aV)) (λ(r,_)=>[r.length<=1000]) (λ(r,v)=> .int .i64 (fI (λx=>decide (v=x)) r))
def aA7:Pj.Ok aG 227:=a8 (aw KK) (raw:=aq) (λ(r,v)=>[cnt 2 8 r.length (aj λj=>decide (v=aBX r j)=false)]
  ) (λ(_,_)=>⟨_,rfl⟩) λ(r,v) hp=>au (q:=(0=(0:Int)/\(0:Nat)<=r.length/\aj (λj=>decide (v=aBX r j)=false) 0)/\
 (∀x:Nat,x<=r.length/\aj (λj=>decide (v=aBX r j)=false) x->((x:Int)<r.length->ix (x:Int) r.length/\(v=(aBX r x)->(x:Int)=fI (λx=>decide (v=x)) r)/\
   (¬v=(aBX r x)->aH ((x:Int)+1)/\(x:Int)+1=((x+1:Nat):Int)/\x+1<=r.length/\aj (λj=>decide (v=aBX r j)=false) (x+1)/\r.length-(x+1)<r.length-x))/\
  (¬(x:Int)<r.length-> -1=fI (λx=>decide (v=x)) r))) (by kernel_rfl) (by
  change r.length<=1000 at hp
  with_reducible ((repeat' first|apply cl|intro);all_goals repeat cases‹_/\_›)
  all_goals first|rfl|exact kK (t:= .V) (by omega) (decide_eq_true ‹_›) ‹_› |(obtain rfl:_=r.length:=nw ‹_› (by omega);exact kk (t:= .V) ‹_›)|grind)
noncomputable def Ni:Tab:=ao [(227,Pj)] Nh
def KL:Ni.Ok aG:=ap KK ⟨aA7,trivial⟩
noncomputable def QF:Con:=con (a1 (aL .V)) (λr=>[r.length<=1000]) (λr=> .lst .V (nH r)
 )
def Oi:QF.Ok aG 163:=a8 (aw KL) (raw:=aq) (λ_=>[]) (λ_=>⟨_,rfl⟩) λr hp=>au (q:=r.length<=1000/\((!dC r)=true->nH r=([] :List V))/\
 ((!dC r)=false->(0:Nat)<r.length/\r.length<=1000/\r.length<=1000/\(0<=fI (λx=>decide ((aBX r (fK r))=x)) r/\fI (λx=>decide ((aBX r (fK r))=x)) r<=r.length)/\(0<=fI (λx=>decide ((aBX r (fK r))=x)) r/\fI (λx=>decide ((aBX r (fK r))=x)) r<=r.length)/\[cP (fI (λx=>decide ((aBX r (fK r))=x)) r).toNat r,bL (fI (λx=>decide ((aBX r (fK r))=x)) r).toNat r].length<=1000/\(0:Nat)<(ew [cP (fI (λx=>decide ((aBX r (fK r))=x)) r).toNat r,bL (fI (λx=>decide ((aBX r (fK r))=x)) r).toNat r]).length/\(ew [cP (fI (λx=>decide ((aBX r (fK r))=x)) r).toNat r,bL (fI (λx=>decide ((aBX r (fK r))=x)) r).toNat r]).length<=1000/\ew [cP (fI (λx=>decide ((aBX r (fK r))=x)) r).toNat r,bL (fI (λx=>decide ((aBX r (fK r))=x)) r).toNat r] =nH r)) (by kernel_rfl) (by
  change r.length<=1000 at hp;have h0:(!dC r)=false->0<r.length:=λh=>by have:=((DV r).1 (nb h)).1;omega
  have hf:0<r.length->fI (λx=>decide (aBX r (fK r)=x)) r=(fK r:Int):=λh=>by
   have hl:=D7 h;symm;exact kK (t:= .V) hl (decide_eq_true rfl) λj hj=>decide_eq_false λe=>by have:=Ra r r.length j hj;rw[show bl r r.length=fK r from rfl,e]at this;exact absurd ((T6 (aBX r j)).symm.trans this) (by decide)
  refine⟨hp,λh=>by unfold nH;grind,λh=> ?_⟩;have h1:=h0 h;have hl:=D7 h1;rw[hf h1];have hc:[cP ((fK r:Nat):Int).toNat r,bL ((fK r:Nat):Int).toNat r].flatten=nH r:=by unfold nH;rw[nb h];simp[dO]
  grind)
noncomputable def OI:Tab:=ao [(163,QF)] Ni
def Ku:OI.Ok aG:=ap KL ⟨Oi,trivial⟩
def aPR:Ar bC where
 enc r:= .pro [.lst .V r] 0
 dec s:=match s with
  | .pro [x] 0=>ic .V x
  |_=>none
 ok s a h:=by
  split at h
  .have e:=jI h;show(match bJ (avs [_])with|some q=>AV.p (.pro q 0)|none=> .any)=_;rw[avs,avs,e];rfl
  .cases h
 pl _:=⟨_,rfl⟩
def aPi:Ar Int where
 enc n:= .pro [.int .i64 n] 0
 dec s:=match s with
  | .pro [.int .i64 n] 0=>some n
  |_=>none
 ok s a h:=by grind
 pl _:=⟨_,rfl⟩
def aCl(f:Nat){α:Type}(A:Arl α):Ar α where
 enc a:= .fnp f [] (A.enc a)
 dec s:=match s with
  | .fnp g [] b=>(match ae g f with|true=>A.dec b|false=>none)
  |_=>none
 ok s a h:=by
  split at h
  .split at h
   .rename_i b e;have:=A.ok _ _ h;simp only[SV.av,this];simp_all
   .cases h
  .cases h
 pl a:=by obtain⟨q,h⟩:=A.pl a;exact⟨.fn (.func f) [] q,by simp only[SV.av,h,avs,cQ];rfl⟩
def MR:Ar (bC×Int×Unit):=aCl 224 (ac aPR (ac aPi a0))
def JM{t:LT}{l:List t.ty}{q:t.ty->Bool}{j:Nat}(hj:j<l.length)(h:q (t.nth l j)=false):l.all q=false:=
 Cv.2 ⟨_,eG hj,by rw[<-t.nth_eq l hj,h];simp⟩
def Ho{t:LT}{l:List t.ty}{q:t.ty->Bool}(h:aj (λj=>q (t.nth l j)=true) l.length):l.all q=true:=
 dW.2 λx hx=>by obtain⟨j,hj,rfl⟩:=iF hx;have:=h j hj;dsimp only at this;rwa[t.nth_eq l hj]at this
noncomputable def Ph:Con:=con (ac aV (ac aPR (a1 aPi))) (λ(_,r,_)=>[r.length<=1000]) (λ(v,r,p)=> .bool (decide (¬eJ r v=p))
 )
def aA5:Ph.Ok aG 224:=a8 (aw Ku) (raw:=aq) (λ(_,_,_)=>[]) (λ(_,_,_)=>⟨_,rfl⟩) λ(v,r,p) hp=>au (q:=r.length<=1000/\decide (¬eJ r v=p)=decide (¬eJ r v=p)) (by kernel_rfl) (by change r.length<=1000 at hp;grind)
noncomputable def Ng:Tab:=ao [(224,Ph)] OI
def KJ:Ng.Ok aG:=ap Ku ⟨aA5,trivial⟩
noncomputable def Ps:Con:=con (ac (aL .V) (a1 MR)) (λ(l,c)=>[l.length<=1000000,c.1.length<=1000]) (λ(l,c)=> .int .i64 (fI (λv=>decide (¬eJ c.1 v=c.2.1)) l))
def aBf:Ps.Ok aG 252:=a8 (aw KJ) (raw:=aq) (λ(l,c)=>[cnt 2 8 l.length (aj λj=>decide (¬eJ c.1 (aBX l j)=c.2.1)=false)]
  ) (λ(_,_)=>⟨_,rfl⟩) λ(l,c) hp=>au (q:=(0=(0:Int)/\(0:Nat)<=l.length/\aj (λj=>decide (¬eJ c.1 (aBX l j)=c.2.1)=false) 0)/\
 (∀x:Nat,x<=l.length/\aj (λj=>decide (¬eJ c.1 (aBX l j)=c.2.1)=false) x->((x:Int)<l.length->ix (x:Int) l.length/\c.1.length<=1000/\(decide (¬eJ c.1 (aBX l x)=c.2.1)=true->(x:Int)=fI (λv=>decide (¬eJ c.1 v=c.2.1)) l)/\
   (decide (¬eJ c.1 (aBX l x)=c.2.1)=false->aH ((x:Int)+1)/\(x:Int)+1=((x+1:Nat):Int)/\x+1<=l.length/\aj (λj=>decide (¬eJ c.1 (aBX l j)=c.2.1)=false) (x+1)/\l.length-(x+1)<l.length-x))/\
  (¬(x:Int)<l.length-> -1=fI (λv=>decide (¬eJ c.1 v=c.2.1)) l))) (by kernel_rfl) (by
  change l.length<=1000000/\c.1.length<=1000 at hp
  with_reducible ((repeat' first|apply cl|intro);all_goals repeat cases‹_/\_›)
  all_goals first|rfl|exact kK (t:= .V) (by omega) ‹_› ‹_› |(obtain rfl:_=l.length:=nw ‹_› (by omega);exact kk (t:= .V) ‹_›)|grind)
noncomputable def Nr:Tab:=ao [(252,Ps)] Ng
def KS:Nr.Ok aG:=ap KJ ⟨aBf,trivial⟩
noncomputable def c84:Con:=con (ac (aL .V) (a1 MR)) (λ(l,c)=>[l.length<=1000000,c.1.length<=1000]) (λ(l,c)=> .bool (l.any λv=>decide (¬eJ c.1 v=c.2.1))
 )
def k84:c84.Ok aG 223:=a8 (aw KS) (raw:=aq) (λ(_,_)=>[]) (λ(_,_)=>⟨_,rfl⟩) λ(l,c) hp=>au (q:=l.length<=1000000/\c.fst.length<=1000/\decide (0<=fI (λv=>decide (¬eJ c.fst v=c.2.1)) l)=io l (λv=>decide (¬eJ c.1 v=c.2.1))) (by kernel_rfl) (by change l.length<=1000000/\c.1.length<=1000 at hp;exact⟨hp.1,hp.2,oh _ _⟩)
noncomputable def t84:Tab:=ao [(223,c84)] Nr
def Mf:t84.Ok aG:=ap KS ⟨k84,trivial⟩
noncomputable def CR:Con:=con (ac (aL .V) (ac (aL .V) (a1 aI))) (λ(r,q,_)=>[r.length<=1000,q.length<=1000]) (λ(r,q,p)=> .bool (aB5 r q p)
 )
def Oj:CR.Ok aG 161:=a8 (aw Mf) (raw:=aq) (λ(_,_,_)=>[]) (λ(_,_,_)=>⟨_,rfl⟩) λ(r,q,p) hp=>au (q:=r.length<=1000000/\q.length<=1000/\(!io r (λv=>decide (¬eJ q v=p)))=aB5 r q p) (by kernel_rfl) (by change r.length<=1000/\q.length<=1000 at hp;refine⟨by omega,hp.2,?_⟩;unfold aB5;grind)
noncomputable def aAj:Tab:=ao [(161,CR)] t84
def Y5:aAj.Ok aG:=ap Mf ⟨Oj,trivial⟩
noncomputable def QG:Con:=con (ac (aL .V) (a1 (aL .V))) (λ(a,b)=>[a.length<=1000,b.length<=1000]) (λ(a,b)=> .bool (f9 a b))
def aBA:QG.Ok aG 162:=a8 (aw Y5) (raw:=aq) (λ(a,b)=>[cnt 2 12 (aQ a).length (aj λi=>((aQ b).all λy=>dN (aK (aQ a) i) y==0)=true) λi=>[cnt 5 19 (aQ b).length (aj λk=>(dN (aK (aQ a) i) (aK (aQ b) k)==0)=true)]]
  ) (λ(_,_)=>⟨_,rfl⟩) λ(a,b) hp=>au (q:=a.length<=1000/\(0=(0:Int)/\(0:Nat)<=(aQ a).length/\aj (λi=>List.all (aQ b) (λy=>dN (aK (aQ a) i) y==0)=true) 0)/\
 (∀x:Nat,x<=(aQ a).length/\aj (λi=>List.all (aQ b) (λy=>dN (aK (aQ a) i) y==0)=true) x->((x:Int)<(aQ a).length->ix (x:Int) (aQ a).length/\x<(aQ a).length/\b.length<=1000/\(0=(0:Int)/\(0:Nat)<=(aQ b).length/\aj (λk=>(dN (aK (aQ a) x) (aK (aQ b) k)==0)=true) 0)/\
   (∀x_1:Nat,x_1<=(aQ b).length/\aj (λk=>(dN (aK (aQ a) x) (aK (aQ b) k)==0)=true) x_1->((x_1:Int)<(aQ b).length->ix (x_1:Int) (aQ b).length/\x_1<(aQ b).length/\(¬dN (aK (aQ a) x) (aK (aQ b) x_1)=0->false=f9 a b)/\
     (¬(¬dN (aK (aQ a) x) (aK (aQ b) x_1)=0)->aH ((x_1:Int)+1)/\(x_1:Int)+1=((x_1+1:Nat):Int)/\x_1+1<=(aQ b).length/\aj (λk=>(dN (aK (aQ a) x) (aK (aQ b) k)==0)=true) (x_1+1)/\(aQ b).length-(x_1+1)<(aQ b).length-x_1))/\
    (¬(x_1:Int)<(aQ b).length->aH ((x:Int)+1)/\(x:Int)+1=((x+1:Nat):Int)/\x+1<=(aQ a).length/\aj (λi=>List.all (aQ b) (λy=>dN (aK (aQ a) i) y==0)=true) (x+1)/\(aQ a).length-(x+1)<(aQ a).length-x)))/\
  (¬(x:Int)<(aQ a).length->true=f9 a b))) (by kernel_rfl) (by
  change a.length<=1000/\b.length<=1000 at hp;have el:∀r:bC,r.length<=1000->(aQ r).length<=1000:=λr h=>by unfold aQ;grind
  have ea:=el a hp.1;have eb:=el b hp.2;have h1:∀x y:Nat,(x:Int)<(aQ a).length->(y:Int)<(aQ b).length->¬dN (aK (aQ a) x) (aK (aQ b) y)=0->false=f9 a b:=λx y hx hy h=>
   (JM (t:= .S) (l:=aQ a) (j:=x) (by omega) (JM (t:= .S) (l:=aQ b) (q:=λy=>dN (aK (aQ a) x) y==0) (j:=y) (by omega) (beq_eq_false_iff_ne.2 h))).symm
  have h2:∀x:Nat,¬(x:Int)<(aQ a).length->x<=(aQ a).length->aj (λi=>((aQ b).all λy=>dN (aK (aQ a) i) y==0)=true) x->true=f9 a b:=λx hx hx2 h=>by
   obtain rfl:x=(aQ a).length:=by omega
   exact(Ho (t:= .S) h).symm
  have h3:∀x y:Nat,¬(y:Int)<(aQ b).length->y<=(aQ b).length->aj (λk=>(dN (aK (aQ a) x) (aK (aQ b) k)==0)=true) y->((aQ b).all λz=>dN (aK (aQ a) x) z==0)=true:=λx y hy hy2 h=>by
   obtain rfl:y=(aQ b).length:=by omega
   exact Ho (t:= .S) h
  with_reducible ((repeat' first|apply cl|intro);all_goals repeat cases‹_/\_›)
  all_goals first|rfl|with_reducible solve_by_elim|exact cB ‹_› (h3 _ _ ‹_› ‹_› ‹_›)|exact cB ‹_› (beq_iff_eq.2 (xv ‹¬¬_›))|grind)
def RdV(w:World)(a:Option Addr)(xs:List V):Prop:=
 ∀i,i<xs.length->∃b off,a=some ⟨b,off,none⟩/\b<w.heap.size/\w.cell? ⟨b,off+i*2,none⟩=some (.int .i64 (aBX xs i).x)/\w.cell? ⟨b,off+i*2+1,none⟩=some (.int .i64 (aBX xs i).y)
def RdV.below{w w':World}{a:Option Addr}{xs:List V}(h:RdV w a xs)(hb:Below w.heap.size w w'):RdV w' a xs:=by intro i hi;obtain⟨b,off,ha,hlt,h1,h2⟩:=h i hi;exact⟨b,off,ha,Nat.lt_of_lt_of_le hlt hb.size,(hb.cell (p:=⟨b,_,none⟩) hlt).trans h1,(hb.cell (p:=⟨b,_,none⟩) hlt).trans h2⟩
structure RV where
 a:Option Addr
 c:Nat
 r:bC
instance:Inhabited RV:=⟨⟨none,0,[]⟩⟩
def RV.enc(x:RV):Value:= .slice x.a x.r.length x.c
def Len(x:RV):Prop:=x.r.length<=1000/\x.r.length<=x.c/\(x.a=none->x.c=0)
def nR(w:World):bF:=λb o v=>w.cell? ⟨b,o,none⟩=some v
def sB{w:World}{a:Option Addr}{c:Nat}{r:List V}(h:RdV w a r)(hl:Len ⟨a,c,r⟩):az (nR w) (.sl r.length (iC r)) (.slice a r.length c):=by
 obtain⟨_,h2,h3⟩:=hl;dsimp only at h2 h3;unfold az;refine⟨a,c,rfl,h2,λha=>⟨h3 ha,?_⟩,?_⟩
 .cases r with
  |nil=>rfl
  |cons v r=>grind
 .rintro ad rfl;refine⟨λh0=> ?_,cc.of _ _ _ λi x hi=> ?_⟩
  .obtain⟨b,off,hb,_⟩:=h 0 h0;cases hb;rfl
  .have hlt:i<(iC r).length:=(List.getElem?_eq_some_iff.1 hi).1;rw[wO.length]at hlt;obtain⟨b,off,hb,_,h0,h1⟩:=h (i/2) (by omega);cases hb;have h4:=XV (v:=r) (i:=i/2) (by omega);have g:∀j,j<2->(iC r)[i/2*2+j]? =([.int .i64 (aBX r (i/2)).x,.int .i64 (aBX r (i/2)).y] :List PV)[j]? :=λj hj=>by grind
   rcases Nat.mod_two_eq_zero_or_one i with hm|hm
   .have:=g 0 (by decide);rw[show i/2*2+0=i by omega,hi]at this;cases this;exact⟨_,by show w.cell? _=_;rw[show off+i=off+i/2*2 by omega];exact h0,rfl,by unfold az;rfl⟩
   .have:=g 1 (by decide);rw[show i/2*2+1=i by omega,hi]at this;cases this;exact⟨_,by show w.cell? _=_;rw[show off+i=off+i/2*2+1 by omega];exact h1,rfl,by unfold az;rfl⟩
def bK.one{C:bF}{x:PV}{v:Value}(h:az C x v):bK C [x] [v] :=by unfold bK;exact⟨_,_,rfl,h,by unfold bK;rfl⟩
def bK.Bn{C:bF}{x:PV}{v:Value}{l:List PV}{vs:List Value}(h:az C x v)(h2:bK C l vs):bK C (x::l) (v::vs):=by unfold bK;grind
def ze{f:FuncId}{xs:List SV}{r:SV}{B:List PV}{q:PV}{vs:List Value}{u:Value}{w:World}(h:∃A q,avs xs=A.map .p/\r.av= .p q/\Sat aG false f A q)(hB:avs xs=B.map .p)(hq:r.av= .p q)
  (hu:∀C v,az C q v->v=u) (hr:bK (nR w) B vs):Calls aG f vs.toArray w λe w'=>e= .returned u/\Below w.heap.size w w':=by
 obtain⟨A,q',h1,h2,h3⟩:=h;rw[hq]at h2;cases h2;rw[hB]at h1;have:B=A:=by have:=congrArg bJ h1;rw[cQ,cQ]at this;cases this;rfl
 subst this;refine(h3.2 (nR w) w vs (λ_ _ _ h=>h) hr).mono ?_;grind
def RY(a:Option Addr)(c:Nat)(xs:List V)(w:World)(h:RdV w a xs)(hl:Len ⟨a,c,xs⟩):
  Calls aG 160 #[.slice a xs.length c] w λe w'=>e= .returned (.bool (dC xs))/\Below w.heap.size w w':=
 ze (k83 [.lst .V xs] xs rfl ((fQ (l:=c83.pre xs)).1 hl.1)) (B:=[.sl xs.length (iC xs)]) rfl rfl (λC v h=>by unfold az at h;exact h) (bK.one (sB h hl))
def oc(a:Option Addr)(c:Nat)(xs:List V)(a':Option Addr)(c':Nat)(ys:List V)(p:Int)(w:World)(h':RdV w a' ys)(hl':Len ⟨a',c',ys⟩)(h:RdV w a xs)(hl:Len ⟨a,c,xs⟩):
  Calls aG 161 #[.slice a xs.length c,.slice a' ys.length c',.int .i64 p] w λe w'=>e= .returned (.bool (aB5 xs ys p))/\Below w.heap.size w w':=
 ze (Oj [.lst .V xs,.lst .V ys,.int .i64 p] (xs,ys,p) rfl ((fQ (l:=CR.pre (xs,ys,p))).1 ⟨hl.1,hl'.1⟩)) (B:=[.sl xs.length (iC xs),.sl ys.length (iC ys),.int .i64 p]) rfl rfl (λC v h=>by unfold az at h;exact h)
  ((bK.one (by unfold az;rfl)).Bn (sB h' hl')|>.Bn (sB h hl))
def vJ(a:Option Addr)(c:Nat)(xs:List V)(a':Option Addr)(c':Nat)(ys:List V)(w:World)(h:RdV w a xs)(h':RdV w a' ys)(hl:Len ⟨a,c,xs⟩)(hl':Len ⟨a',c',ys⟩):
  Calls aG 162 #[.slice a xs.length c,.slice a' ys.length c'] w λe w'=>e= .returned (.bool (f9 xs ys))/\Below w.heap.size w w':=
 ze (aBA [.lst .V xs,.lst .V ys] (xs,ys) rfl ((fQ (l:=QG.pre (xs,ys))).1 ⟨hl.1,hl'.1⟩)) (B:=[.sl xs.length (iC xs),.sl ys.length (iC ys)]) rfl rfl (λC v h=>by unfold az at h;exact h)
  ((bK.one (sB h' hl')).Bn (sB h hl))
section
open Go.ChangeShapes Go.WideShapes Go.ChangeAt Go.RowKit Go.Joins Go.Deep
def Tryz.own:ownKnob aG.godebug=none:=by kernel_rfl
def Tryz.laidOut:laidOutB aG=true:=by kernel_rfl
def Xh:aG.cellsOf 57=4:=by kernel_rfl
def Hi:aG.cellsOf 53=2:=by kernel_rfl
def Yi:aG.cellsOf 3=1:=by kernel_rfl
def sgP(l:List S):PV:= .sl l.length (LT.S.enc l)
def MV(v:V):PV:= .agg [.int .i64 v.x,.int .i64 v.y]
def GY{C:bF}:∀(l:List S) (b o:Nat),(∀i (h:i<l.length),C b (o+i*4) (.int .i64 l[i].a.x)/\C b (o+i*4+1) (.int .i64 l[i].a.y)/\C b (o+i*4+2) (.int .i64 l[i].b.x)/\C b (o+i*4+3) (.int .i64 l[i].b.y))->cc C (LT.S.enc l) b o
 |[],b,o,_=>by trivial
 |s::l,b,o,h=>by
  have h0:=h 0 (by simp);refine⟨⟨_,by simpa using h0.1,rfl,by rfl⟩,⟨_,by simpa using h0.2.1,rfl,by rfl⟩,⟨_,by simpa using h0.2.2.1,rfl,by rfl⟩,⟨_,by simpa using h0.2.2.2,rfl,by rfl⟩,?_⟩;refine GY l b (o+1+1+1+1) λi hi=> ?_;have:=h (i+1) (by simpa using hi);simp only[List.getElem_cons_succ]at this;rw[show o+1+1+1+1+i*4=o+(i+1)*4 by omega];exact this
section
variable {H:Type} {enc:TypeId×Value->H} {w:World} {base:Nat} {spare:Nat->Bool} {held:Bool}
def FQ{fuel:Nat}{c0 c1:Value}{y:DataW H×List MemPlace}(h:DataW.trod enc aG w base spare held fuel 53 [c0,c1] =some y):∃v:V,c0= .int .i64 v.x/\c1= .int .i64 v.y:=by obtain⟨y0,y1,n,_,_,h0,h1⟩:=trod_struct2 Cm h;obtain⟨p,hp,_⟩:=Cw nt h0;obtain⟨q,hq,_⟩:=Cw nt h1;rw[Yi]at hp hq;simp only[mJ,List.take_succ_cons,List.take_zero,lM,and_true,List.drop_succ_cons]at hp hq;exact⟨⟨p,q⟩,hp,hq⟩
def Ts{fuel:Nat}{v:Value}{y:DataW H×List MemPlace}(h:DataW.trod enc aG w base spare held fuel 22 [v] =some y):∃l:List S,az (nR w) (sgP l) v:=by
 rcases open_slice Tryz.underlying22 h with⟨h1,h2⟩|⟨a,len,cap,m,n,D,Pl,h1,_,hl,_,hm,hx,hc⟩
 .simp only[lM,and_true]at h1;subst h1;refine⟨[],?_⟩;exact⟨none,0,rfl,bA _,λ_=>⟨rfl,rfl⟩,λad e=>by cases e⟩
 .simp only[lM,and_true]at h1;subst h1;have hlm:len<=m:=by rw[hm];split<;>omega
  have hint:∀i,i<m->∃s:S,w.cell? ((a.add (i*4)).add 0)=some (.int .i64 s.a.x)/\w.cell? ((a.add (i*4)).add 1)=some (.int .i64 s.a.y)/\w.cell? ((a.add (i*4)).add 2)=some (.int .i64 s.b.x)/\w.cell? ((a.add (i*4)).add 3)=some (.int .i64 s.b.y):=by
   intro i hi;obtain⟨cs',h1,h2⟩:=hc i hi;rw[Xh]at h1;obtain⟨_,hlen,hcell⟩:=World.cells?_some h1;obtain⟨y0,y1,k,_,_,g0,g1⟩:=trod_struct2 Tryz.underlying57 h2;rw[Hi]at g0 g1;match cs',hlen with
   |[c0,c1,c2,c3],_=>
    simp only[mJ,List.take_succ_cons,List.take_zero,List.drop_succ_cons]at g0 g1;obtain⟨p,e1,e2⟩:=FQ g0;obtain⟨q,e3,e4⟩:=FQ g1;exact⟨⟨p,q⟩,by rw[hcell 0 (by omega),<-e1];rfl,by rw[hcell 1 (by omega),<-e2];rfl,by rw[hcell 2 (by omega),<-e3];rfl,by rw[hcell 3 (by omega),<-e4];rfl⟩
  obtain⟨f,hf⟩:=choose_lt (α:=S) (p:=λi s=>w.cell? ((a.add (i*4)).add 0)=some (.int .i64 s.a.x)/\w.cell? ((a.add (i*4)).add 1)=some (.int .i64 s.a.y)/\w.cell? ((a.add (i*4)).add 2)=some (.int .i64 s.b.x)/\w.cell? ((a.add (i*4)).add 3)=some (.int .i64 s.b.y)) hint;refine⟨(bM len).map f,some a,cap,by simp,by simpa using hl,(λe=>nomatch e),λad e=> ?_⟩;cases e;refine⟨λhpos=> ?_,GY _ _ _ λi hi=> ?_⟩
  .have hl0:0<len:=by simpa using hpos
   have h0:=(hf 0 (by omega)).1;simpa[Addr.add]using World.cell?_spot h0
  .simp only[d6,List.length_range]at hi;have hs:a.spot=none:=by have h0:=(hf 0 (by omega)).1;simpa[Addr.add]using World.cell?_spot h0
   obtain⟨b,off,sp⟩:=a;subst hs;have g:=hf i (by omega);simp only[Addr.add_mid,Nat.add_zero]at g;simp only[ua,ub];unfold nR;exact g
def VO{r:Reach}{b0:Nat}{v:Value}{d:DataW H}{p:List MemPlace}(hv:Value.okWide aG w r b0 53 v)(h:DataW.Trod enc aG w base spare held 53 v d p):∃a:V,az (nR w) (MV a) v:=by
 obtain⟨v0,v1,y0,y1,n,rfl,_,_,h0,h1⟩:=open_agg2 Cm (by kernel_rfl) Hi hv h;obtain⟨p,hp,_⟩:=Cw nt h0;obtain⟨q,hq,_⟩:=Cw nt h1;simp only[lM,and_true]at hp hq;subst hp hq;exact⟨⟨p,q⟩,[_,_],rfl,⟨_,[_],rfl,rfl,_,[],rfl,rfl,rfl⟩,λu hu=>by simp only[bc,List.not_mem_nil,or_false]at hu;rcases hu with rfl|rfl<;>rfl⟩
end
def X2{f:FuncId}{xs:List SV}{r:SV}{B:List PV}{q:PV}(h:∃A q,avs xs=A.map .p/\r.av= .p q/\Sat aG false f A q)(hB:avs xs=B.map .p)(hq:r.av= .p q):Sat aG false f B q:=by
 obtain⟨A,q',h1,h2,h3⟩:=h;rw[hq]at h2;cases h2;rw[hB]at h1;have:B=A:=by have:=congrArg bJ h1;rw[cQ,cQ]at this;cases this;rfl
 subst this;exact h3
end
def atB(s t:S):Bool:=decide ((af s t).k=1\/(af s t).k=2)
def shB(s t:S):Bool:=decide ((af s t).k=3)
structure POk(p:Pt):Prop where
 v:c8 p=true
 b:dX p 2000=true
def POk.den{p:Pt}(h:POk p):1<=p.den/\p.den<=134217728:=by have:=h.b;unfold dX at this;simp only[bv,decide_eq_true_eq]at this;exact this.1
def POk.x{p:Pt}(h:POk p): -(2000*p.den)<=p.x/\p.x<=2000*p.den/\ -(2000*p.den)<=p.y/\p.y<=2000*p.den:=by have:=h.b;unfold dX bP at this;simp only[bv,decide_eq_true_eq]at this;omega
def aW(p q:Pt):Int:=if aB3 (p.y*q.den) (q.y*p.den)=0 then aB3 (p.x*q.den) (q.x*p.den)else aB3 (p.y*q.den) (q.y*p.den)
def Ds(a m:Int)(hm:1<=m):(a.tmod m<0->a.tdiv m-1=a/m)/\(¬a.tmod m<0->a.tdiv m=a/m):=by
 have h1:=Int.tmod_add_mul_tdiv a m;have h2:=Cy a m;have h3:=Cz a (show m≠0 by omega);have h4:=C2 a (show 0<m by omega);have h5:=Int.tmod_lt_of_pos a (show 0<m by omega);have h6:=Int.lt_tmod_of_pos a (show 0<m by omega);generalize a.tmod m=r at*;generalize a % m=r' at*;generalize a.tdiv m=q at*;generalize a/m=q' at*;have e:r+m*q=r'+m*q':=by omega
 constructor<;>intro h
 .have:m*(q-q'-1)=r'-r-m:=by rw[Int.mul_sub,Int.mul_sub];omega
  rcases xx (q-q'-1) 0 with h7|h7|h7
  .have:=rQ (show q-q'-1<= -1 by omega) (show 0<=m by omega);omega
  .omega
  .have:=rQ (show 1<=q-q'-1 by omega) (show 0<=m by omega);omega
 .have:m*(q-q')=r'-r:=by rw[Int.mul_sub];omega
  rcases xx (q-q') 0 with h7|h7|h7
  .have:=rQ (show q-q'<= -1 by omega) (show 0<=m by omega);omega
  .omega
  .have:=rQ (show 1<=q-q' by omega) (show 0<=m by omega);omega
def Fs{a m:Int}(hm:1<=m)(h1: -(2000*m)<=a)(h2:a<=2000*m): -2000<=a/m/\a/m<=2000/\0<=a-a/m*m/\a-a/m*m<m:=by have g2:=Cy a m;have g3:=Cz a (show m≠0 by omega);have g4:=C2 a (show 0<m by omega);have e:a/m*m=m*(a/m):=C3 _ _;refine⟨Int.le_ediv_of_mul_le (by omega) (by omega),Int.ediv_le_of_le_mul (by omega) (by omega),by omega,by omega⟩
def UR(a m b n:Int)(hm:1<=m)(hn:1<=n):orL [aB3 (a/m) (b/n),aB3 ((a-a/m*m)*n) ((b-b/n*n)*m)] =aB3 (a*n) (b*m):=by
 have h2:=Cy a m;have h3:=Cz a (show m≠0 by omega);have h4:=C2 a (show 0<m by omega);have g2:=Cy b n;have g3:=Cz b (show n≠0 by omega);have g4:=C2 b (show 0<n by omega);generalize a % m=r at*;generalize a/m=q at*;generalize b % n=s at*;generalize b/n=p at*;have ea:a=r+m*q:=h2.symm;have eb:b=s+n*p:=g2.symm;subst ea;subst eb;have e1:(r+m*q)*n-(s+n*p)*m=(r*n-s*m)+m*n*(q-p):=by grind
 have e2:r+m*q-q*m=r:=by grind
 have e3:s+n*p-p*n=s:=by grind
 have hmn:1<=m*n:=by have:=Int.mul_le_mul hm hn (by omega) (by omega);omega
 have b1:r*n<m*n:=C4 h4 (by omega);have b2:s*m<n*m:=C4 g4 (by omega);have b3:0<=r*n:=jA h3 (by omega);have b4:0<=s*m:=jA g3 (by omega);have b5:n*m=m*n:=C3 _ _;rw[e2,e3];generalize (r+m*q)*n=A at*;generalize (s+n*p)*m=B at*;generalize r*n=u at*;generalize s*m=v at*;generalize m*n=w at*;unfold orL orL orL aB3;rcases xx q p with h7|h7|h7
 .have:=rQ (show q-p<= -1 by omega) (show 0<=w by omega);rw[if_pos h7,if_neg (by omega),if_pos (by omega)]
 .subst h7;rw[Int.sub_self,Int.mul_zero]at e1;simp only[Int.lt_irrefl,if_false,if_true];grind
 .have:=rQ (show 1<=q-p by omega) (show 0<=w by omega);rw[if_neg (by omega),if_pos h7,if_neg (by omega),if_neg (by omega),if_pos (by omega)]
noncomputable def QM:Con:=con (ac aS (a1 aS)) (λ(_,_)=>[]) (λ(s,t)=> .tup [aT.enc (af s t).p,.bool (atB s t)]
 )
def aBG:QM.Ok aG 106:=a8 (aw wS) (raw:=aq) (λ(_,_)=>[]) (λ(_,_)=>⟨_,rfl⟩) λ(s,t) _=>au (q:=((af s t).k=1->(af s t).p.x=(af s t).p.x/\(af s t).p.y=(af s t).p.y/\(af s t).p.den=(af s t).p.den/\true=atB s t)/\
 (¬(af s t).k=1->(af s t).p.x=(af s t).p.x/\(af s t).p.y=(af s t).p.y/\(af s t).p.den=(af s t).p.den/\decide ((af s t).k=2)=atB s t)) (by kernel_rfl) (by unfold atB;refine⟨λh=>⟨rfl,rfl,rfl,?_⟩,λh=>⟨rfl,rfl,rfl,?_⟩⟩<;>simp[h])
noncomputable def OO:Tab:=ao [(106,QM)] Bx
def K6:OO.Ok aG:=ap wS ⟨aBG,trivial⟩
noncomputable def QL:Con:=con (ac aS (a1 aS)) (λ(_,_)=>[]) (λ(s,t)=> .tup [aS.enc (af s t).s,.bool (shB s t)]
 )
def aBF:QL.Ok aG 107:=a8 (aw K6) (raw:=aq) (λ(_,_)=>[]) (λ(_,_)=>⟨_,rfl⟩) λ(s,t) _=>au (q:=(af s t).s.a.x=(af s t).s.a.x/\(af s t).s.a.y=(af s t).s.a.y/\(af s t).s.b.x=(af s t).s.b.x/\(af s t).s.b.y=(af s t).s.b.y/\decide ((af s t).k=3)=shB s t) (by kernel_rfl) (by unfold shB;grind)
noncomputable def ON:Tab:=ao [(107,QL)] OO
def K5:ON.Ok aG:=ap K6 ⟨aBF,trivial⟩
noncomputable def QJ:Con:=con (ac aI (ac aI (ac aI (a1 aI)))) (λ(a,m,b,n)=>[1<=m,m<=134217728,1<=n,n<=134217728,-(2000*m)<=a,a<=2000*m,-(2000*n)<=b,b<=2000*n]) (λ(a,m,b,n)=> .int .i64 (aB3 (a*n) (b*m)))
def aBD:QJ.Ok aG 112:=a8 (aw K5) (raw:=aq) (λ(a,m,b,n)=>[jU 4 [(9,.int .i64 (a/m))],jU 6 [(10,.int .i64 (b/n))]]
  ) (λ(_,_,_,_)=>⟨_,rfl⟩) λ(a,m,b,n) hp=>au (q:=m≠0/\aH (bp a m)/\n≠0/\aH (bp b n)/\(m≠0/\(dc a m<0->aH (bp a m-1)/\bp a m-1=a/m)/\
  (¬dc a m<0->bp a m=a/m))/\
 (∀y:Unit,(n≠0/\(dc b n<0->aH (bp b n-1)/\bp b n-1=b/n)/\
   (¬dc b n<0->bp b n=b/n))/\
  (∀y_1:Unit,aH (a/m*m)/\aH (a-a/m*m)/\aH ((a-a/m*m)*n)/\aH (b/n*n)/\aH (b-b/n*n)/\aH ((b-b/n*n)*m)/\[aB3 (a/m) (b/n),aB3 ((a-a/m*m)*n) ((b-b/n*n)*m)].length<=1000/\orL [aB3 (a/m) (b/n),aB3 ((a-a/m*m)*n) ((b-b/n*n)*m)] =aB3 (a*n) (b*m)))) (by kernel_rfl) (by
  change 1<=m/\m<=134217728/\1<=n/\n<=134217728/\ -(2000*m)<=a/\a<=2000*m/\ -(2000*n)<=b/\b<=2000*n at hp;obtain⟨h1,h2,h3,h4,h5,h6,h7,h8⟩:=hp;obtain⟨a1,a2⟩:=Ds a m h1;obtain⟨b1,b2⟩:=Ds b n h3;obtain⟨a3,a4,a5,a6⟩:=Fs h1 h5 h6;obtain⟨b3,b4,b5,b6⟩:=Fs h3 h7 h8;have e:=UR a m b n h1 h3;have p1:0<=(a-a/m*m)*n/\(a-a/m*m)*n<=134217728*134217728:=⟨jA a5 (by omega),Int.mul_le_mul (by omega) h4 (by omega) (by omega)⟩;have p2:0<=(b-b/n*n)*m/\(b-b/n*n)*m<=134217728*134217728:=⟨jA b5 (by omega),Int.mul_le_mul (by omega) h2 (by omega) (by omega)⟩;have t1: -2001<=a.tdiv m/\a.tdiv m<=2001:=by
   by_cases h:a.tmod m<0
   .have:=a1 h;omega
   .have:=a2 h;omega
  have t2: -2001<=b.tdiv n/\b.tdiv n<=2001:=by
   by_cases h:b.tmod n<0
   .have:=b1 h;omega
   .have:=b2 h;omega
  generalize (a-a/m*m)*n=A at*;generalize (b-b/n*n)*m=B at*;generalize a.tdiv m=q at*;generalize b.tdiv n=r at*;generalize a/m*m=am at*;generalize b/n*n=bn at*;refine⟨by omega,by unfold aH;omega,by omega,by unfold aH;omega,⟨by omega,λh=>⟨by unfold aH;omega,a1 h⟩,a2⟩,λ_=>⟨⟨by omega,λh=>⟨by unfold aH;omega,b1 h⟩,b2⟩,λ_=> ?_⟩⟩;exact⟨by unfold aH;omega,by unfold aH;omega,by unfold aH;omega,by unfold aH;omega,by unfold aH;omega,by unfold aH;omega,by simp,e⟩)
noncomputable def OL:Tab:=ao [(112,QJ)] ON
def K2:OL.Ok aG:=ap K5 ⟨aBD,trivial⟩
noncomputable def c47:Con:=con (ac aT (a1 aT)) (λ(p,q)=>[POk p,POk q]) (λ(p,q)=> .int .i64 (aW p q)
 )
def k47:c47.Ok aG 47:=a8 (aw K2) (raw:=aq) (λ(_,_)=>[]) (λ(_,_)=>⟨_,rfl⟩) λ(p,q) hp=>au (q:=((!c8 p)=true->0=aW p q)/\
 ((!c8 p)=false->((!c8 q)=true->0=aW p q)/\
  ((!c8 q)=false->(0:Int)<=2000/\(2000:Int)<=1000000/\((!dX p 2000)=true->0=aW p q)/\
   ((!dX p 2000)=false->(0:Int)<=2000/\(2000:Int)<=1000000/\((!dX q 2000)=true->0=aW p q)/\
    ((!dX q 2000)=false->1<=p.den/\p.den<=134217728/\1<=q.den/\q.den<=134217728/\ -(2000*p.den)<=p.y/\p.y<=2000*p.den/\ -(2000*q.den)<=q.y/\q.y<=2000*q.den/\1<=p.den/\p.den<=134217728/\1<=q.den/\q.den<=134217728/\ -(2000*p.den)<=p.x/\p.x<=2000*p.den/\ -(2000*q.den)<=q.x/\q.x<=2000*q.den/\[aB3 (p.y*q.den) (q.y*p.den),aB3 (p.x*q.den) (q.x*p.den)].length<=1000/\orL [aB3 (p.y*q.den) (q.y*p.den),aB3 (p.x*q.den) (q.x*p.den)] =aW p q))))) (by kernel_rfl) (by
  change POk p/\POk q at hp;obtain⟨h1,h2⟩:=hp;rw[h1.v,h2.v,h1.b,h2.b];have d1:=h1.den;have d2:=h2.den;have x1:=h1.x;have x2:=h2.x;refine⟨λh=>(by cases h),λ_=>⟨λh=>(by cases h),λ_=>⟨by omega,by omega,λh=>(by cases h),λ_=>⟨by omega,by omega,λh=>(by cases h),λ_=> ?_⟩⟩⟩⟩;exact⟨d1.1,d1.2,d2.1,d2.2,x1.2.2.1,x1.2.2.2,x2.2.2.1,x2.2.2.2,d1.1,d1.2,d2.1,d2.2,x1.1,x1.2.1,x2.1,x2.2.1,by simp,by unfold aW orL orL orL;grind⟩)
noncomputable def t47:Tab:=ao [(47,c47)] OL
def M1:t47.Ok aG:=ap K2 ⟨k47,trivial⟩
def aPl:Ar Pl where
 enc p:= .agg [.lst .S p.sg,.lst .T p.vs,.lst .E p.es,.lst .F p.fs]
 dec s:=match s with
  | .agg [a,b,c,d] =>(match ic .S a,ic .T b,ic .E c,ic .F d with|some x,some y,some z,some u=>some ⟨x,y,z,u⟩|_,_,_,_=>none)
  |_=>none
 ok s a h:=by
  split at h
  .split at h<;>cases h;rename_i h1 h2 h3 h4;simp only[SV.av,avs,jI h1,jI h2,jI h3,jI h4]
  .cases h
 pl _:=⟨_,rfl⟩
structure PlOk(p:Pl):Prop where
 ls:p.sg.length<=1000
 lv:p.vs.length<=100000
 le:p.es.length<=400000
 fr:∀e∈p.es,0<=e.fr/\e.fr<p.vs.length/\0<=e.to/\e.to<p.vs.length
 src:∀e∈p.es,0<e.src.length/\∀x∈e.src,0<=x/\x<p.sg.length
 bd:∀s∈p.sg,bd 2000 s.a/\bd 2000 s.b
 pt:∀v∈p.vs,POk v/\v.den<=33000000
def HIn(p:Pl)(h:Int):Prop:=0<=h/\h<2*p.es.length
def stP(p:Pl)(h:Int):Int:=if h.tmod 2=0 then(aU p.es (h.tdiv 2).toNat).fr else(aU p.es (h.tdiv 2).toNat).to
def lnP(p:Pl)(e:Int):V×V:=
 let s:=aK p.sg (aM (aU p.es e.toNat).src 0).toNat
 if bR s.b s.a=true then(s.b,s.a)else(s.a,s.b)
def bO(p:Pl)(h:Int):V:=if h.tmod 2=0 then aB0 (lnP p (h.tdiv 2)).2 (lnP p (h.tdiv 2)).1 else aB0 (lnP p (h.tdiv 2)).1 (lnP p (h.tdiv 2)).2
def dg(v:V):Int:=if 0<v.y\/(v.y=0/\0<v.x)then 0 else 1
def mY{l:List Ed}{i:Nat}(h:i<l.length):aU l i∈l:=by rw[show aU l i=l[i]from cR h];exact eG h
def Yu{h:Int}(h0:0<=h):h.tdiv 2=h/2/\h.tmod 2=h % 2:=⟨Int.tdiv_eq_ediv_of_nonneg h0,Int.tmod_eq_emod_of_nonneg h0⟩
def HIn.e{p:Pl}{h:Int}(H:HIn p h):0<=h.tdiv 2/\h.tdiv 2<p.es.length:=by obtain⟨h0,h1⟩:=H;rw[(Yu h0).1];omega
def PlOk.at{p:Pl}(P:PlOk p){e:Int}(h:0<=e/\e<p.es.length):0<(aU p.es e.toNat).src.length/\0<=aM (aU p.es e.toNat).src 0/\aM (aU p.es e.toNat).src 0<p.sg.length:=by
 obtain⟨h1,h2⟩:=P.src _ (mY (l:=p.es) (i:=e.toNat) (by omega));have:aM (aU p.es e.toNat).src 0∈(aU p.es e.toNat).src:=by rw[show aM (aU p.es e.toNat).src 0=(aU p.es e.toNat).src[0]from cR h1];exact eG h1
 exact⟨h1,h2 _ this⟩
def kE{m k:Int}{v:V}(h:bd m v)(hmk:m<=k):bd k v:=by unfold bd at*;omega
def Av{p:Pl}(P:PlOk p){e:Int}(h:0<=e/\e<p.es.length):bd 2000 (lnP p e).1/\bd 2000 (lnP p e).2:=by
 have h1:=P.at h;have h2:=P.bd _ (vS (l:=p.sg) (i:=(aM (aU p.es e.toNat).src 0).toNat) (by omega));unfold lnP;dsimp only;split
 .exact⟨h2.2,h2.1⟩
 .exact h2
def si{p:Pl}(P:PlOk p){h:Int}(H:HIn p h):bd 4000 (bO p h):=by obtain⟨h1,h2⟩:=Av P H.e;unfold bd at h1 h2;unfold bO aB0;split<;>(unfold bd;dsimp only;omega)
def la{p:Pl}(P:PlOk p){h:Int}(H:HIn p h):0<=stP p h/\stP p h<p.vs.length:=by have he:=H.e;have:=P.fr _ (mY (l:=p.es) (i:=(h.tdiv 2).toNat) (by omega));unfold stP;split<;>omega
def bj(a b:V):Int:=if aB3 (dg a) (dg b)=0 then-bT ⟨0,0⟩ a b else aB3 (dg a) (dg b)
noncomputable def O0:Con:=con (ac aPl (a1 aI)) (λ(p,h)=>[PlOk p,HIn p h]) (λ(p,h)=> .int .i64 (stP p h)
 )
def aAs:O0.Ok aG 83:=a8 (aw M1) (raw:=aq) (λ(_,_)=>[]) (λ(_,_)=>⟨_,rfl⟩) λ(p,h) hp=>au (q:=(2:Int)≠0/\(dc h 2=0->(2:Int)≠0/\aH (bp h 2)/\ix (bp h 2) p.es.length/\(aU p.es (bp h 2).toNat).fr=stP p h)/\
 (¬dc h 2=0->(2:Int)≠0/\aH (bp h 2)/\ix (bp h 2) p.es.length/\(aU p.es (bp h 2).toNat).to=stP p h)) (by kernel_rfl) (by
  change PlOk p/\HIn p h at hp;obtain⟨P,H⟩:=hp;have e:=H.e;have:=P.le;refine⟨by decide,λh1=>⟨by decide,by unfold aH;omega,by unfold ix;omega,?_⟩,λh1=>⟨by decide,by unfold aH;omega,by unfold ix;omega,?_⟩⟩
  .unfold stP;rw[if_pos h1]
  .unfold stP;rw[if_neg h1])
noncomputable def Mg:Tab:=ao [(83,O0)] t47
def JU:Mg.Ok aG:=ap M1 ⟨aAs,trivial⟩
noncomputable def O1:Con:=con (ac aPl (a1 aI)) (λ(p,e)=>[PlOk p,0<=e/\e<p.es.length]) (λ(p,e)=> .tup [aV.enc (lnP p e).1,aV.enc (lnP p e).2]
 )
def aAt:O1.Ok aG 81:=a8 (aw JU) (raw:=aq) (λ(_,_)=>[]) (λ(_,_)=>⟨_,rfl⟩) λ(p,e) hp=>au (q:=ix e p.es.length/\ix 0 (aU p.es e.toNat).src.length/\ix (aM (aU p.es e.toNat).src 0) p.sg.length/\(bR (aK p.sg (aM (aU p.es e.toNat).src 0).toNat).b (aK p.sg (aM (aU p.es e.toNat).src 0).toNat).a=true->(aK p.sg (aM (aU p.es e.toNat).src 0).toNat).b.x=(lnP p e).1.x/\(aK p.sg (aM (aU p.es e.toNat).src 0).toNat).b.y=(lnP p e).1.y/\(aK p.sg (aM (aU p.es e.toNat).src 0).toNat).a.x=(lnP p e).2.x/\(aK p.sg (aM (aU p.es e.toNat).src 0).toNat).a.y=(lnP p e).2.y)/\
 (bR (aK p.sg (aM (aU p.es e.toNat).src 0).toNat).b (aK p.sg (aM (aU p.es e.toNat).src 0).toNat).a=false->(aK p.sg (aM (aU p.es e.toNat).src 0).toNat).a.x=(lnP p e).1.x/\(aK p.sg (aM (aU p.es e.toNat).src 0).toNat).a.y=(lnP p e).1.y/\(aK p.sg (aM (aU p.es e.toNat).src 0).toNat).b.x=(lnP p e).2.x/\(aK p.sg (aM (aU p.es e.toNat).src 0).toNat).b.y=(lnP p e).2.y)) (by kernel_rfl) (by change PlOk p/\(0<=e/\e<p.es.length)at hp;obtain⟨P,H⟩:=hp;have h1:=P.at H;have:=P.le;have:=P.ls;refine⟨by unfold ix;omega,by unfold ix;omega,by unfold ix;omega,λh=> ?_,λh=> ?_⟩<;>(unfold lnP;simp[h]))
noncomputable def Mi:Tab:=ao [(81,O1)] Mg
def JV:Mi.Ok aG:=ap JU ⟨aAt,trivial⟩
noncomputable def Lu:Con:=con (ac aPl (a1 aI)) (λ(p,h)=>[PlOk p,HIn p h]) (λ(p,h)=>aV.enc (bO p h)
 )
def ZM:Lu.Ok aG 156:=a8 (aw JV) (raw:=aq) (λ(_,_)=>[]) (λ(_,_)=>⟨_,rfl⟩) λ(p,h) hp=>au (q:=(2:Int)≠0/\aH (bp h 2)/\PlOk p/\(0<=bp h 2/\bp h 2<p.es.length)/\(2:Int)≠0/\(dc h 2=0->bd 1000000000 (lnP p (bp h 2)).2/\bd 1000000000 (lnP p (bp h 2)).1/\(aB0 (lnP p (bp h 2)).2 (lnP p (bp h 2)).1).x=(bO p h).x/\(aB0 (lnP p (bp h 2)).2 (lnP p (bp h 2)).1).y=(bO p h).y)/\
 (¬dc h 2=0->bd 1000000000 (lnP p (bp h 2)).1/\bd 1000000000 (lnP p (bp h 2)).2/\(aB0 (lnP p (bp h 2)).1 (lnP p (bp h 2)).2).x=(bO p h).x/\(aB0 (lnP p (bp h 2)).1 (lnP p (bp h 2)).2).y=(bO p h).y)) (by kernel_rfl) (by
  change PlOk p/\HIn p h at hp;obtain⟨P,H⟩:=hp;have he:=H.e;obtain⟨h1,h2⟩:=Av P he;have:=P.le;have b1:=kE h1 (show(2000:Int)<=1000000000 by decide);have b2:=kE h2 (show(2000:Int)<=1000000000 by decide);refine⟨by decide,by unfold aH;omega,P,he,by decide,λh=>⟨b2,b1,?_⟩,λh=>⟨b1,b2,?_⟩⟩
  .unfold bO;rw[if_pos h];exact⟨rfl,rfl⟩
  .unfold bO;rw[if_neg h];exact⟨rfl,rfl⟩)
noncomputable def KT:Tab:=ao [(156,Lu)] Mi
def H5:KT.Ok aG:=ap JV ⟨ZM,trivial⟩
noncomputable def Lj:Con:=con (a1 aV) (λ_=>[]) (λv=> .int .i64 (dg v)
 )
def ZD:Lj.Ok aG 215:=a8 (aw H5) (raw:=aq) (λ_=>[]) (λ_=>⟨_,rfl⟩) λv _=>au (q:=(0<v.y->0=dg v)/\
 (¬0<v.y->(v.y=0->(0<v.x->0=dg v)/\
   (¬0<v.x->1=dg v))/\
  (¬v.y=0->1=dg v))) (by kernel_rfl) (by
  unfold dg;grind)
noncomputable def Jv:Tab:=ao [(215,Lj)] KT
def Hw:Jv.Ok aG:=ap H5 ⟨ZD,trivial⟩
noncomputable def Lv:Con:=con (ac aV (a1 aV)) (λ(a,b)=>[bd 1000000 a,bd 1000000 b]) (λ(a,b)=> .int .i64 (bj a b)
 )
def ZN:Lv.Ok aG 155:=a8 (aw Hw) (raw:=aq) (λ(_,_)=>[]) (λ(_,_)=>⟨_,rfl⟩) λ(a,b) hp=>au (q:=bd 1000000000 (⟨0,0⟩:V)/\bd 1000000000 a/\bd 1000000000 b/\aH (0-bT (⟨0,0⟩:V) a b)/\[aB3 (dg a) (dg b),0-bT (⟨0,0⟩:V) a b].length<=1000/\orL [aB3 (dg a) (dg b),0-bT (⟨0,0⟩:V) a b] =bj a b) (by kernel_rfl) (by
 change bd 1000000 a/\bd 1000000 b at hp;obtain⟨h1,h2⟩:=hp;have ht: -1<=bT ⟨0,0⟩ a b/\bT ⟨0,0⟩ a b<=1:=by unfold bT sgn;split<;>(try split)<;>omega
 refine⟨by unfold bd;decide,kE h1 (by decide),kE h2 (by decide),by unfold aH;omega,by simp,?_⟩;unfold bj orL orL orL;split<;>grind)
noncomputable def KU:Tab:=ao [(155,Lv)] Jv
def H6:KU.Ok aG:=ap Hw ⟨ZN,trivial⟩
def aPp:Ar Pl where
 enc p:= .pro [.lst .S p.sg,.lst .T p.vs,.lst .E p.es,.lst .F p.fs] 0
 dec s:=match s with
  | .pro [a,b,c,d] 0=>(match ic .S a,ic .T b,ic .E c,ic .F d with|some x,some y,some z,some u=>some ⟨x,y,z,u⟩|_,_,_,_=>none)
  |_=>none
 ok s a h:=by
  split at h
  .split at h<;>cases h;rename_i h1 h2 h3 h4;simp only[SV.av,avs,jI h1,jI h2,jI h3,jI h4]
  .cases h
 pl _:=⟨_,rfl⟩
def cfH(p:Pl)(x y:Int):Int:=bj (bO p x) (bO p y)
noncomputable def Lr:Con:=con (ac aI (ac aI (a1 aPp))) (λ(x,y,p)=>[PlOk p,HIn p x,HIn p y]) (λ(x,y,p)=> .int .i64 (cfH p x y)
 )
def LX:Lr.Ok aG 193:=a8 (aw H6) (raw:=aq) (λ(_,_,_)=>[]) (λ(_,_,_)=>⟨_,rfl⟩) λ(x,y,p) hp=>au (q:=PlOk p/\HIn p x/\PlOk p/\HIn p y/\bd 1000000 (bO p x)/\bd 1000000 (bO p y)/\bj (bO p x) (bO p y)=cfH p x y) (by kernel_rfl) (by change PlOk p/\HIn p x/\HIn p y at hp;obtain⟨P,h1,h2⟩:=hp;exact⟨P,h1,P,h2,kE (si P h1) (by decide),kE (si P h2) (by decide),rfl⟩)
noncomputable def KD:Tab:=ao [(193,Lr)] KU
def H3:KD.Ok aG:=ap H6 ⟨LX,trivial⟩
noncomputable def Lk:Con:=con (ac aI (ac aV (a1 aPp))) (λ(x,d,p)=>[PlOk p,HIn p x,bd 1000000 d]) (λ(x,d,p)=> .int .i64 (bj (bO p x) d)
 )
def ZE:Lk.Ok aG 214:=a8 (aw H3) (raw:=aq) (λ(_,_,_)=>[]) (λ(_,_,_)=>⟨_,rfl⟩) λ(x,d,p) hp=>au (q:=PlOk p/\HIn p x/\bd 1000000 (bO p x)/\bd 1000000 d/\bj (bO p x) d=bj (bO p x) d) (by kernel_rfl) (by change PlOk p/\HIn p x/\bd 1000000 d at hp;obtain⟨P,h1,h2⟩:=hp;exact⟨P,h1,kE (si P h1) (by decide),h2,rfl⟩)
noncomputable def Jy:Tab:=ao [(214,Lk)] KD
def Hx:Jy.Ok aG:=ap H3 ⟨ZE,trivial⟩
noncomputable def Lo:Con:=con (ac aI (ac aV (a1 aPp))) (λ(x,d,p)=>[PlOk p,HIn p x,bd 1000000 d]) (λ(x,d,p)=> .int .i64 (bj (bO p x) d)
 )
def ZI:Lo.Ok aG 195:=a8 (aw Hx) (raw:=aq) (λ(_,_,_)=>[]) (λ(_,_,_)=>⟨_,rfl⟩) λ(x,d,p) hp=>au (q:=PlOk p/\HIn p x/\bd 1000000 (bO p x)/\bd 1000000 d/\bj (bO p x) d=bj (bO p x) d) (by kernel_rfl) (by change PlOk p/\HIn p x/\bd 1000000 d at hp;obtain⟨P,h1,h2⟩:=hp;exact⟨P,h1,kE (si P h1) (by decide),h2,rfl⟩)
noncomputable def KA:Tab:=ao [(195,Lo)] Jy
def H0:KA.Ok aG:=ap Hx ⟨ZI,trivial⟩
noncomputable def MD:Con:=con (a1 aI) (λ_=>[]) (λ_=> .bool true
 )
def Zb:MD.Ok aG 115:=a8 (aw H0) (raw:=aq) (λ_=>[]) (λ_=>⟨_,rfl⟩) λx _=>au (q:=true=true) (by kernel_rfl) (by rfl)
noncomputable def Ky:Tab:=ao [(115,MD)] KA
def IF:Ky.Ok aG:=ap H0 ⟨Zb,trivial⟩
def ft(p:Pl)(c:List Int):Nat->Int
 |0=>stP p (aM c 0)
 |k+1=>min (ft p c k) (stP p (aM c k))
def b9(p:Pl)(c:List Int):Int:=ft p c c.length
noncomputable def L7:Con:=con (ac aPl (a1 (aL .I))) (λ(p,c)=>[PlOk p,0<c.length,c.length<=1000000,(∀h∈c,HIn p h)]) (λ(p,c)=> .int .i64 (b9 p c))
def ZU:L7.Ok aG 119:=a8 (aw IF) (raw:=aq) (λ(p,c)=>[lp 3 15 c.length (λ_=>[]) [] (λk=>[(5,.int .i64 (ft p c k))]) (λ_=>[])]
  ) (λ(_,_)=>⟨_,rfl⟩) λ(p,c) hp=>au (q:=ix 0 c.length/\PlOk p/\HIn p (aM c 0)/\(0=(0:Int)/\stP p (aM c 0)=ft p c 0/\(0:Nat)<=c.length)/\
 (∀x:Nat,x<=c.length->((x:Int)<c.length->ix (x:Int) c.length/\PlOk p/\HIn p (aM c x)/\aH ((x:Int)+1)/\(x:Int)+1=((x+1:Nat):Int)/\Min.min (ft p c x) (stP p (aM c x))=ft p c (x+1)/\x+1<=c.length/\c.length-(x+1)<c.length-x)/\
  (¬(x:Int)<c.length->ft p c x=b9 p c))) (by kernel_rfl) (by
  change PlOk p/\0<c.length/\c.length<=1000000/\((∀h∈c,HIn p h))at hp;obtain⟨P,h1,h2,h3⟩:=hp;have hm:∀k,k<c.length->HIn p (aM c k):=λk hk=>h3 _ (by rw[show aM c k=c[k]from cR hk];exact eG hk)
  refine⟨by unfold ix;omega,P,hm 0 h1,⟨rfl,rfl,by omega⟩,λx hx=>⟨λhl=>⟨by unfold ix;omega,P,hm x (by omega),by unfold aH;omega,by omega,rfl,by omega,by omega⟩,λhl=> ?_⟩⟩;obtain rfl:x=c.length:=by omega
  rfl)
noncomputable def Kv:Tab:=ao [(119,L7)] Ky
def Xr:Kv.Ok aG:=ap IF ⟨ZU,trivial⟩
def y3{α:Type}:∀(a:Ask α) (w:World),w.drawn<=(w.ask a).2.drawn
 | .done a,w=>bA _
 | .ask what range k,w=>by
   unfold World.ask;dsimp only;split
   .exact y3 _ w
   .exact cZ (C7 w.drawn) (y3 (k _) {w with drawn:=w.drawn+1})
def EK(w:World)(c:Sys):w.drawn<=(w.sys c).2.drawn:=by have h:=y3 (Kernel.perform c w.os) w;unfold World.sys;grind
def RJ{p:Program}{w w':World}{at_:Addr}{u:TypeId}{k:Addr}{v:Value}{b:Bool}{l:List Addr}(h:w.viewStore p at_ u k v b= .ok (w',l)):w'.drawn=w.drawn:=by
 unfold World.viewStore at h;simp only[bind,Except.bind,pure,Except.pure]at h
 repeat' split at h
 all_goals first|(cases h;done)|skip
 all_goals (try cases h;try rfl)
def Result.drew{α:Type}(w:World):Result α->Prop
 | .ok _ w'=>w.drawn<=w'.drawn
 | .halt _ w'=>w.drawn<=w'.drawn
def u6{α:Type}(p:Program):∀(s:Sem α) (w:World),Result.drew w (s.run p w):=by
 intro s;induction s with
 |pure a=>intro w;exact bA _
 |load m a k ih=>
  intro w;unfold eM;split
  .exact ih _ w
  .split
   .exact ih _ w
   .exact bA _
 |store m a v k ih=>
  intro w;have key:∀w1:World,w1.drawn=w.drawn->Result.drew w (k.run p w1):=by intro w1 h;have:=ih w1;revert this;generalize eM p _ _=r;intro h2;cases r<;>(show w.drawn<=_;rw[<-h];exact h2)
  have h0:∀h,Result.drew (α:=α) w (.halt h w):=λ_=>bA _;cases v<;>simp only[eM];all_goals first|exact h0 _|skip
  all_goals
   split
   .split
    .exact h0 _
    .exact key _ rfl
   .split
    .rename_i h1;refine key _ ?_;unfold World.farStore at h1;split at h1
     .split at h1
      .rename_i h2;cases h1;exact RJ h2
      .cases h1
     .cases h1
    .exact h0 _
 |new o k ih=>intro w;unfold eM;exact ih _ _
 |shape r k ih=>intro w;unfold eM;exact ih _ _
 |freeze a n k ih=>
  intro w;unfold eM;have e:(w.freeze a n).drawn=w.drawn:=by unfold World.freeze;first|rfl|grind
  have:=ih (w.freeze a n);revert this;generalize eM p _ _=r;intro h2;cases r<;>(show w.drawn<=_;rw[<-e];exact h2)
 |frozen a k ih=>intro w;unfold eM;exact ih _ _
 |getObj r k ih=>
  intro w;unfold eM;split
  .exact bA _
  .exact ih _ _
  .exact bA _
 |setObj r o k ih=>
  intro w;unfold eM;split
  .exact bA _
  .exact ih _
  .exact bA _
 |choose q k ih=>
  intro w;unfold eM;split
  .exact ih _ w
  .have:=ih (q.cut (w.tape w.drawn q)) {w with drawn:=w.drawn+1};revert this;generalize eM p _ _=r;intro h;cases r<;>exact cZ (C7 _) h
 |sys c k ih=>
  intro w;unfold eM;have:=ih (w.sys c).1 (w.sys c).2;have h2:=EK w c;revert this;generalize eM p _ _=r;intro h;cases r<;>exact cZ h2 h
 |program k ih=>intro w;unfold eM;exact ih _ _
 |mark m k ih=>intro w;unfold eM;exact ih _
 |halt h=>intro w;exact bA _
section
variable {p:Program}
def fZ{α:Type}{s:Sem α}{w w':World}{a:α}(h:s.run p w= .ok a w'):w.drawn<=w'.drawn:=by have:=u6 p s w;rw[h]at this;exact this
def ke{α:Type}{s:Sem α}{w w':World}{e:Halt}(h:s.run p w= .halt e w'):w.drawn<=w'.drawn:=by have:=u6 p s w;rw[h]at this;exact this
def sA{α:Type}:∀(s:Sem α) (w:World) (es:Array Event),(s.runT p w es).1=s.run p w:=by simp_all
def Wl{α:Type}{s:Sem α}{w w':World}{a:α}{es es':Array Event}(h:s.runT p w es=(.ok a w',es')):w.drawn<=w'.drawn:=by have:=sA (p:=p) s w es;rw[h]at this;exact fZ this.symm
def ye{α:Type}{s:Sem α}{w w':World}{e:Halt}{es es':Array Event}(h:s.runT p w es=(.halt e w',es')):w.drawn<=w'.drawn:=by have:=sA (p:=p) s w es;rw[h]at this;exact ke this.symm
def ll{α:Type}{s:Sem α}{w w':World}{a:α}{es:Array Event}(h:(s.runT p w es).1= .ok a w'):w.drawn<=w'.drawn:=fZ ((sA s w es).symm.trans h)
def kC{α:Type}{s:Sem α}{w w':World}{e:Halt}{es:Array Event}(h:(s.runT p w es).1= .halt e w'):w.drawn<=w'.drawn:=ke ((sA s w es).symm.trans h)
def wd:GStep->Nat
 | .go _ w _=>w.drawn
 | .comm _ _ _ _ w _=>w.drawn
 | .spawn _ _ w _=>w.drawn
 | .count _ w _=>w.drawn
 | .timer _ _ w _=>w.drawn
 | .alone _ _ w _=>w.drawn
 | .newcoro _ _ _ w _=>w.drawn
 | .coroswitch _ _ _ w _=>w.drawn
 | .collect _ w _=>w.drawn
 | .watch _ w _=>w.drawn
 | .ended _ w _=>w.drawn
def oH(es:Array Event)(s:GStep):wd (s.after es)=wd s:=by cases s<;>rfl
def wH{c:Prop} [Decidable c]{a b:GStep}{n:Nat}(h1:n<=wd a)(h2:n<=wd b):n<=wd (if c then a else b):=by grind
def DH(fr:Frame)(v:Value)(w:World):w.drawn<=wd (endPrinting p fr v w):=by unfold endPrinting;dsimp only;split<;>exact bA _
def Dl(fr:Frame)(cs:List Frame)(d:Option Dying)(m:String)(w:World):w.drawn<=wd (endFatal p fr cs d m w):=by
 unfold endFatal;dsimp only;split
 .exact fZ (by assumption)
 .exact ke (by assumption)
 .exact ke (by assumption)
def S3(fd:Nat)(t:ByteArray)(o:Outcome)(w:World):w.drawn<=wd (endWith w fd t o):=by
 have h:=EK w (.write fd t);unfold endWith;dsimp only;split
 .rename_i e;rw[e]at h;split<;>exact h
 .rename_i e;rw[e]at h;exact h
 .rename_i e;rw[e]at h;exact h
def SK(fr:Frame)(d:Dying)(f:Fatal)(w:World):w.drawn<=wd (writeOn p fr d f w):=by
 unfold writeOn;dsimp only;split
 .exact bA _
 .split
  .exact Wl (by assumption)
  .exact ye (by assumption)
  .exact ye (by assumption)
  .exact ye (by assumption)
def Ya(fr:Frame)(d:Dying)(w:World):w.drawn<=wd (die p fr d w):=by
 unfold die;split
 .exact SK _ _ _ _
 .split
  .split
   .exact bA _
   .exact S3 _ _ _ _
  .split
   .exact bA _
   .split
    .exact fZ (by assumption)
    .exact ke (by assumption)
   .rw[oH];split
    .rename_i heq;exact ll heq
    .rename_i heq;exact ll heq
    .rename_i heq;exact kC heq
    .rename_i heq;exact cZ (kC heq) (DH _ _ _)
    .exact bA _
   .exact bA _
def V2(fr:Frame)(cs:List Frame)(d:Option Dying)(g:Nat)(w:World):w.drawn<=wd (early p fr cs d g w):=by
 unfold early;dsimp only
 repeat' split
 all_goals first|exact bA _|(have h:=fZ ‹eM p (choose (Question.early g)) w=ud _ _›;exact h)|exact ke ‹eM p (choose (Question.early g)) w=Result.halt _ _›
def yL(main:Bool)(fr:Frame)(cs:List Frame)(d:Option Dying)(v:Value)(w:World):wd (doReturn p main fr cs d v w)=w.drawn:=by
 unfold doReturn
 repeat' split
 all_goals rfl
def RM(fr:Frame)(cs:List Frame)(d:Option Dying)(f:Deferred)(w:World):w.drawn<=wd (callDeferred p fr cs d f w):=by
 unfold callDeferred;refine wH ?_ ?_
 .exact bA _
 .rw[oH];split;all_goals first
   |exact ll ‹_›
   |exact kC ‹_›
   |exact cZ (kC ‹(Sem.runT p (invoke f.target f.args) w #[]).1=Result.halt _ _›) (Dl _ _ _ _ _)
   |(split<;>exact ll ‹(Sem.runT p (invoke f.target f.args) w #[]).1=ud _ _›)
def TI(main:Bool)(fr:Frame)(cs:List Frame)(d:Option Dying)(w:World):w.drawn<=wd (unwind p main fr cs d w):=by
 unfold unwind;split
 .rw[oH];split
  .exact ll ‹_›
  .exact kC ‹_›
 .exact RM _ _ _ _ _
 .split
  .exact bA _
  .split
   .exact bA _
   .split
    .exact bA _
    .split
     .split
      .exact bA _
      .split
       .exact fZ ‹_›
       .exact ke ‹_›
       .exact ke ‹_›
     .split
      .exact DH _ _ _
      .exact bA _
  .split
   .exact xy (yL _ _ _ _ _ _).symm
   .rw[oH];split
    .exact cZ (ll ‹_›) (xy (yL _ _ _ _ _ _).symm)
    .exact kC ‹_›
    .exact kC ‹_›
def vh(listen:Bool)(fr:Frame)(cs:List Frame)(d:Option Dying)(s:Sem Next)(w:World):w.drawn<=wd (stepG.apply p listen fr cs d s w):=by
 unfold stepG.apply;have hr:Result.drew w (if listen=true then s.runT p w #[]else(s.run p w, #[])).1:=by
  split
  .rw[sA];exact u6 _ _ _
  .exact u6 _ _ _
 rw[oH];generalize (if listen=true then s.runT p w #[]else(s.run p w, #[])).1=r at hr|-;cases r with
 |ok a w'=>
  cases a;all_goals (try exact hr)
  all_goals (dsimp only;repeat' split)
  all_goals exact hr
 |halt e w'=>
  cases e with
  |unsupported u=>cases u<;>first|exact hr|exact cZ hr (V2 _ _ _ _ _)
  |fatal m=>exact cZ hr (Dl _ _ _ _ _)
  |_=>exact hr
def Wt(listen:Bool)(fr:Frame)(cs:List Frame)(d:Option Dying)(w:World):w.drawn<=wd (stepG.oper p listen fr cs d w):=by
 unfold stepG.oper;split
 .exact bA _
 .split<;>exact vh _ _ _ _ _ _
def XR(main:Bool)(listen:Bool)(fr:Frame)(cs:List Frame)(d:Option Dying)(w:World):w.drawn<=wd (stepG.exec p main listen fr cs d w):=by
 have hleave:∀jump:Option Code,w.drawn<=wd (match fr.roundOf with
   |none=>if jump matches none|some .ret then GStep.go {frame:={fr with mode:= .returning},callers:=cs,status:= .running,dying:=d} w else .ended (.stuck "exit, goto: no such block or label" (fr.pos p)) w
   |some l=>GStep.after (seen p fr.fn ((Instr.endRound l jump).runT p w #[]).2)<|match((Instr.endRound l jump).runT p w #[]).1 with
    | .ok v w=>doReturn p main fr cs d v w
    | .halt _ w=> .ended (.stuck "range over a function: no such loop" (fr.pos p)) w):=by
  intro jump;split
  .refine wH ?_ ?_<;>exact bA _
  .rw[oH];split
   .exact cZ (ll ‹_›) (xy (yL _ _ _ _ _ _).symm)
   .exact kC ‹_›
 unfold stepG.exec;dsimp only;split;all_goals (try exact bA _)
 all_goals (try exact hleave _)
 all_goals (try exact vh _ _ _ _ _ _)
 all_goals (try exact hleave none)
 all_goals (try exact hleave (some .ret))
 .split<;>exact bA _
 .cases exitTo _ _
  .exact hleave (some (.exit _))
  .exact bA _
 .cases gotoIn _ _
  .exact hleave (some (.goto _))
  .exact bA _
 .rw[oH];split
  .exact cZ (ll ‹_›) (vh _ _ _ _ _ _)
  .exact kC ‹_›
 .split
  .exact ll ‹_›
  .exact kC ‹_›
  .exact kC ‹_›
 .cases Extern.next _
  .exact bA _
  .exact vh _ _ _ _ _ _
 .refine wH (bA _) ?_;split
  .exact fZ ‹_›
  .exact ke ‹_›
 .exact wH (Wt _ _ _ _ _) (bA _)
def Us(main:Bool)(g:Goroutine)(w:World)(listen:Bool):w.drawn<=wd (stepG p main g w listen):=by
 unfold stepG;split;split
 .exact Ya _ _ _
 .exact XR _ _ _ _ _ _
 .exact TI _ _ _ _ _
def sd(n:Nat):Stepped->Prop
 | .next m=>n<=m.world.drawn
 | .ended _ _=>True
def G5(gs:Array Goroutine)(rest:Rest)(w:World):sd w.drawn (look p gs rest w):=by
 unfold look;split
 .dsimp only
  repeat' split
  all_goals first|exact trivial|skip
  all_goals (have h:=fZ (p:=p) (w:=w) (by assumption);exact h)
 .exact trivial
def SL{rest:Rest}{cases:Array CommCase}{w w':World}(h:waitingAt rest cases w=some w'):w.drawn<=w'.drawn:=by unfold waitingAt at h;grind
def Xc(rest:Rest)(gs:Array Goroutine)(i:Nat)(g:Goroutine)(cases:Array CommCase)(b:Bool)(shape:CommShape)(w:World):sd w.drawn (communicate p rest gs i g cases b shape w).1:=by
 unfold communicate;dsimp only
 repeat' split
 all_goals first
  |exact trivial
  |exact bA _
  |exact SL ‹_›
  |(have h:=fZ (p:=p) (w:=w) (by assumption);first
     |exact h
     |(have h2:=ke (p:=p) ‹eM p (runtimePanic (RuntimeError.plain "send on closed channel")) _=Result.halt _ _›;exact cZ h h2)
     |(have h2:=fZ (p:=p) ‹eM p (choose (Question.extern "which waiting goroutine is the partner" _)) _=ud _ _›;exact cZ h h2))
def V3(w:World)(c:Nat):(drain w c).2.drawn=w.drawn:=by unfold drain;split<;>rfl
def EU(m:Machine)(k:Nat)(t:Timer)(a b:Nat):(retime m k t a b).2.world.drawn=m.world.drawn:=by
 unfold retime;cases t.chan with
 |none=>rfl
 |some c=>exact V3 _ _
def Tq{m m':Machine}{v:Addr}(h:timerOp.opened m v=some m'):m'.world.drawn=m.world.drawn:=by unfold timerOp.opened at h;grind
def FU{m m':Machine}{var:Addr}{f:Nat->Timer->Value×Machine}{v:Value}{n:Nat}(hf:∀k t,(f k t).2.world.drawn=n)(h:timerOp.named m var f= .ok (v,m')):m'.world.drawn=n:=by unfold timerOp.named at h;grind
def SP{m m':Machine}{op:TimerOp}{v:Value}(h:timerOp m op= .ok (v,m')):m'.world.drawn=m.world.drawn:=by
 unfold timerOp at h;split at h
 .split at h
  .cases h;rfl
  grind
 .exact FU (λk t=>EU _ _ _ _ _) h
 .split at h
  .rename_i ho;exact(FU (λk t=>EU _ _ _ _ _) h).trans (Tq ho)
  .cases h
 .cases h;rfl
def Wk(m:Machine)(i:Nat)(listen:Bool):sd m.world.drawn (runT p m i listen).1:=by
 unfold runT;generalize (m.gs.swapAt! i {(default:Goroutine)with status:= .finished})=q;obtain⟨g,gs⟩:=q;dsimp only;have hs:=Us (p:=p) (i==0) g m.world listen;generalize stepG p (i==0) g m.world listen=s at hs|-;cases s with
 |ended o w es=>exact trivial
 |comm g cases b shape w es=>
  have:=Xc (p:=p) m.rest gs i g cases b shape w;revert this;generalize (communicate p m.rest gs i g cases b shape w).1=r;intro h;cases r with
  |next m'=>exact cZ hs h
  |ended _ _=>exact trivial
 |go g w es=>exact hs
 |spawn g c w es=>exact hs
 |count g w es=>
  dsimp only;split
  .exact trivial
  .exact hs
 |alone g on w es=>exact hs
 |collect g w es=>
  have:=G5 (p:=p) (gs.setIfInBounds i g) m.rest w;dsimp only;revert this;generalize look p (gs.setIfInBounds i g) m.rest w=r;intro h;cases r with
  |next m'=>exact cZ hs h
  |ended _ _=>exact trivial
 |watch g w es=>exact hs
 |newcoro g c d w es=>exact hs
 |coroswitch g c exit w es=>
  dsimp only;split
  .exact hs
  .exact hs
  .exact trivial
 |timer g op w es=>
  dsimp only;split
  .rename_i h;exact cZ hs (xy (SP h).symm)
  .exact hs
  .exact trivial
  .exact trivial
def md(n:Nat):Move->Prop
 | .goroutine m _=>n<=m.world.drawn
 | .machine s _=>sd n s
def U6(m:Machine)(k:Nat):sd m.world.drawn (serve p m k):=by
 unfold serve;split
 .exact trivial
 .exact bA _
 .dsimp only;split
  .exact trivial
  .exact bA _
def Bf{a b:Nat}{x:Move}(h:a<=b)(hx:md b x):md a x:=by
 cases x with
 |goroutine m i=>exact cZ h hx
 |machine s ops=>cases s with
  |next m=>exact cZ h hx
  |ended _ _=>exact trivial
def zj(m:Machine):md m.world.drawn (askOn p m):=by
 unfold askOn;dsimp only
 repeat' split
 all_goals first
  |exact trivial
  |(have h:=fZ (p:=p) (w:=m.world) (by assumption);first
     |exact h
     |exact Bf h (U6 (p:=p) _ _)
     |exact cZ h (fZ (p:=p) (by assumption))
     |exact cZ h (cZ (fZ (p:=p) (by assumption)) (fZ (p:=p) (by assumption)))
     |exact cZ h (cZ (fZ (p:=p) (by assumption)) (cZ (fZ (p:=p) (by assumption)) (fZ (p:=p) (by assumption))))
     |(have h2:=fZ (p:=p) ‹eM p (choose (Question.extern "clock.wait" _)) _=ud _ _›;first
        |exact cZ h h2
        |(have h3:=fZ (p:=p) ‹eM p (choose (Question.sched _)) _=ud _ _›;first
           |exact cZ h (cZ h2 h3)
           |(have h4:=fZ (p:=p) ‹eM p (choose (Question.extern "sched.slice" _)) _=ud _ _›;exact cZ h (cZ h2 (cZ h3 h4))))))
  |skip
def JI(m:Machine):md m.world.drawn (ask p m):=by
 unfold ask;split
 .split
  .exact trivial
  .rename_i w1 h1;have h2:=G5 (p:=p) m.gs m.rest w1;have h1:=fZ h1;split
   .rename_i h3;rw[h3]at h2;exact Bf (cZ h1 h2) (zj _)
   .cases hl:look p m.gs m.rest w1 with
    |next m'=>grind
    |ended _ _=>exact trivial
  .rename_i h1;exact Bf (fZ h1) (zj _)
 .exact zj m
def Wz(m:Machine):md m.world.drawn (move p m):=by
 unfold move;split
 .split
  .exact bA _
  .exact trivial
 .split
  .split
   .exact bA _
   .exact JI _
  .exact JI _
def SQ{m m':Machine}(h:step p m= .next m'):m.world.drawn<=m'.world.drawn:=by
 have hm:=Wz (p:=p) m;unfold step stepT at h;cases hv:move p m with
 |goroutine m1 i=>
  rw[hv]at hm h;have:=Wk (p:=p) m1 i true;rw[h]at this;exact cZ hm this
 |machine s ops=>
  rw[hv]at hm h;dsimp only at h;rw[h]at hm;exact hm
def yP:∀(n:Nat) {m m':Machine},runN p n m= .next m'->m.world.drawn<=m'.world.drawn
 |0,m,m',h=>by cases h;omega
 |n+1,m,m',h=>by
  unfold runN at h;split at h
  .rename_i m1 h1;exact cZ (SQ h1) (yP n h)
  grind
def Dq{f:FuncId}{args:Array Value}{w:World}{R:Ending->World->Prop}(h:Calls p f args w R)(hn:∀w',¬R .outgrown w'):Calls p f args w λe w'=>R e w'/\w.drawn<=w'.drawn:=by
 intro cs;obtain⟨e,w',fr,h1,h2,h3⟩:=h cs;refine⟨e,w',fr,⟨h1,?_⟩,h2,h3⟩;cases e with
 |returned v=>obtain⟨n,hn⟩:=h2;exact yP n hn
 |panicked c=>obtain⟨n,hn⟩:=h2;exact yP n hn
 |outgrown=>grind
end
end Go.Proofs.YtdnhebjljnfjaaaGreat
namespace Go.Proofs
open Go.Shelf
def Tryz.sort192_ren:Go.Shelf.Ren:=⟨λ|6=>192|15=>109|14=>242|28=>181|29=>182|20=>265|21=>266|22=>267|23=>268|24=>269|25=>270|26=>271|27=>272|46=>280|47=>235|48=>236|49=>281|50=>282|57=>285|n=>n,λ|22=>43|24=>3|25=>107|3=>3|39=>164|0=>0|53=>190|55=>140|4=>4|46=>215|45=>214|50=>102|5=>5|9=>9|66=>255|70=>259|76=>275|77=>50|n=>n,λ|n=>n⟩
def Tryz.sort192:Go.Proofs.SlLaysF.n6 aG Tryz.sort192_ren:={
 mixed:=by kernel_rfl
 f6:=⟨Tryz.f192.name,by decide,Tryz.func192.trans (congrArg some (by kernel_rfl))⟩
 f14:=⟨Tryz.f242.name,by decide,Tryz.func242.trans (congrArg some (by kernel_rfl))⟩
 f15:=Tryz.func109.trans (congrArg some (by kernel_rfl))
 f20:=⟨Tryz.f265.name,by decide,Tryz.func265.trans (congrArg some (by kernel_rfl))⟩
 f21:=⟨Tryz.f266.name,by decide,Tryz.func266.trans (congrArg some (by kernel_rfl))⟩
 f22:=⟨Tryz.f267.name,by decide,Tryz.func267.trans (congrArg some (by kernel_rfl))⟩
 f23:=⟨Tryz.f268.name,by decide,Tryz.func268.trans (congrArg some (by kernel_rfl))⟩
 f24:=⟨Tryz.f269.name,by decide,Tryz.func269.trans (congrArg some (by kernel_rfl))⟩
 f25:=⟨Tryz.f270.name,by decide,Tryz.func270.trans (congrArg some (by kernel_rfl))⟩
 f26:=⟨Tryz.f271.name,by decide,Tryz.func271.trans (congrArg some (by kernel_rfl))⟩
 f27:=⟨Tryz.f272.name,by decide,Tryz.func272.trans (congrArg some (by kernel_rfl))⟩
 f28:=Tryz.func181.trans (congrArg some (by kernel_rfl))
 f29:=Tryz.func182.trans (congrArg some (by kernel_rfl))
 f46:=⟨Tryz.f280.name,by decide,Tryz.func280.trans (congrArg some (by kernel_rfl))⟩
 f47:=Tryz.func235.trans (congrArg some (by kernel_rfl))
 f48:=Tryz.func236.trans (congrArg some (by kernel_rfl))
 f49:=⟨Tryz.f281.name,by decide,Tryz.func281.trans (congrArg some (by kernel_rfl))⟩
 f50:=⟨Tryz.f282.name,by decide,Tryz.func282.trans (congrArg some (by kernel_rfl))⟩
 f57:=⟨Tryz.f285.name,by decide,Tryz.func285.trans (congrArg some (by kernel_rfl))⟩
 t0:=Tryz.underlying0
 a0:=Tryz.isAgg0
 z0:=Tryz.sizeOf0
 v0:=Tryz.zeroValue0
 t3:=nt
 a3:=uV
 z3:=xq
 v3:=Tryz.zeroValue3
 t4:=C8
 a4:=Tryz.isAgg4
 z4:=Tryz.sizeOf4
 v4:=Tryz.zeroValue4
 t5:=Tryz.underlying5
 a5:=Tryz.isAgg5
 z5:=Tryz.sizeOf5
 v5:=Tryz.zeroValue5
 t9:=Tryz.underlying9
 a9:=Tryz.isAgg9
 z9:=Tryz.sizeOf9
 v9:=Tryz.zeroValue9
 t22:=Tryz.underlying43
 a22:=Tryz.isAgg43
 z22:=Tryz.sizeOf43
 v22:=Tryz.zeroValue43
 a24:=uV
 z24:=xq
 t25:=Tryz.underlying107
 a25:=Tryz.isAgg107
 z25:=Tryz.sizeOf107
 v25:=Tryz.zeroValue107
 t39:=Qo
 a39:=Tryz.isAgg164
 z39:=Tryz.sizeOf164
 v39:=Qp
 t45:=Qq
 a45:=Tryz.isAgg214
 z45:=Tryz.sizeOf214
 v45:=Qr
 t46:=Qs
 a46:=Tryz.isAgg215
 z46:=Tryz.sizeOf215
 v46:=Qt
 t50:=Qu
 a50:=Tryz.isAgg102
 z50:=Tryz.sizeOf102
 v50:=Qv
 t53:=Qw
 a53:=Tryz.isAgg190
 z53:=Tryz.sizeOf190
 v53:=Qx
 t55:=Qy
 a55:=Tryz.isAgg140
 z55:=Tryz.sizeOf140
 v55:=Qz
 t66:=Q0
 a66:=Tryz.isAgg255
 z66:=Tryz.sizeOf255
 v66:=Q1
 t70:=Q3
 a70:=Tryz.isAgg259
 z70:=Tryz.sizeOf259
 v70:=Q4
 t76:=Q5
 a76:=Tryz.isAgg275
 z76:=Tryz.sizeOf275
 v76:=Q6
 t77:=Q7
 a77:=Tryz.isAgg50
 z77:=Tryz.sizeOf50
 v77:=Tryz.zeroValue50}
def Tryz.sort46_ren:Go.Shelf.Ren:=⟨λ|6=>46|15=>109|14=>108|28=>181|29=>182|20=>173|21=>174|22=>175|23=>176|24=>177|25=>178|26=>179|27=>180|46=>234|47=>235|48=>236|49=>237|50=>238|57=>263|n=>n,λ|22=>25|24=>60|25=>99|3=>3|39=>164|0=>0|53=>190|55=>140|4=>4|46=>215|45=>214|50=>102|5=>5|9=>9|66=>255|70=>259|76=>275|77=>50|n=>n,λ|n=>n⟩
def Tryz.sort46:Go.Proofs.SlLaysF0.n6 aG Tryz.sort46_ren:={
 mixed:=by kernel_rfl
 f6:=⟨Tryz.f46.name,by decide,Tryz.func46.trans (congrArg some (by kernel_rfl))⟩
 f14:=⟨Tryz.f108.name,by decide,Tryz.func108.trans (congrArg some (by kernel_rfl))⟩
 f15:=Tryz.func109.trans (congrArg some (by kernel_rfl))
 f20:=⟨Tryz.f173.name,by decide,Tryz.func173.trans (congrArg some (by kernel_rfl))⟩
 f21:=⟨Tryz.f174.name,by decide,Tryz.func174.trans (congrArg some (by kernel_rfl))⟩
 f22:=⟨Tryz.f175.name,by decide,Tryz.func175.trans (congrArg some (by kernel_rfl))⟩
 f23:=⟨Tryz.f176.name,by decide,Tryz.func176.trans (congrArg some (by kernel_rfl))⟩
 f24:=⟨Tryz.f177.name,by decide,Tryz.func177.trans (congrArg some (by kernel_rfl))⟩
 f25:=⟨Tryz.f178.name,by decide,Tryz.func178.trans (congrArg some (by kernel_rfl))⟩
 f26:=⟨Tryz.f179.name,by decide,Tryz.func179.trans (congrArg some (by kernel_rfl))⟩
 f27:=⟨Tryz.f180.name,by decide,Tryz.func180.trans (congrArg some (by kernel_rfl))⟩
 f28:=Tryz.func181.trans (congrArg some (by kernel_rfl))
 f29:=Tryz.func182.trans (congrArg some (by kernel_rfl))
 f46:=⟨Tryz.f234.name,by decide,Tryz.func234.trans (congrArg some (by kernel_rfl))⟩
 f47:=Tryz.func235.trans (congrArg some (by kernel_rfl))
 f48:=Tryz.func236.trans (congrArg some (by kernel_rfl))
 f49:=⟨Tryz.f237.name,by decide,Tryz.func237.trans (congrArg some (by kernel_rfl))⟩
 f50:=⟨Tryz.f238.name,by decide,Tryz.func238.trans (congrArg some (by kernel_rfl))⟩
 f57:=⟨Tryz.f263.name,by decide,Tryz.func263.trans (congrArg some (by kernel_rfl))⟩
 t0:=Tryz.underlying0
 a0:=Tryz.isAgg0
 z0:=Tryz.sizeOf0
 v0:=Tryz.zeroValue0
 t3:=nt
 a3:=uV
 z3:=xq
 v3:=Tryz.zeroValue3
 t4:=C8
 a4:=Tryz.isAgg4
 z4:=Tryz.sizeOf4
 v4:=Tryz.zeroValue4
 t5:=Tryz.underlying5
 a5:=Tryz.isAgg5
 z5:=Tryz.sizeOf5
 v5:=Tryz.zeroValue5
 t9:=Tryz.underlying9
 a9:=Tryz.isAgg9
 z9:=Tryz.sizeOf9
 v9:=Tryz.zeroValue9
 t22:=Tryz.underlying25
 a22:=Tryz.isAgg25
 z22:=Tryz.sizeOf25
 v22:=Tryz.zeroValue25
 t25:=Tryz.underlying99
 a25:=Tryz.isAgg99
 z25:=Tryz.sizeOf99
 v25:=Tryz.zeroValue99
 t39:=Qo
 a39:=Tryz.isAgg164
 z39:=Tryz.sizeOf164
 v39:=Qp
 t45:=Qq
 a45:=Tryz.isAgg214
 z45:=Tryz.sizeOf214
 v45:=Qr
 t46:=Qs
 a46:=Tryz.isAgg215
 z46:=Tryz.sizeOf215
 v46:=Qt
 t50:=Qu
 a50:=Tryz.isAgg102
 z50:=Tryz.sizeOf102
 v50:=Qv
 t53:=Qw
 a53:=Tryz.isAgg190
 z53:=Tryz.sizeOf190
 v53:=Qx
 t55:=Qy
 a55:=Tryz.isAgg140
 z55:=Tryz.sizeOf140
 v55:=Qz
 t66:=Q0
 a66:=Tryz.isAgg255
 z66:=Tryz.sizeOf255
 v66:=Q1
 t70:=Q3
 a70:=Tryz.isAgg259
 z70:=Tryz.sizeOf259
 v70:=Q4
 t76:=Q5
 a76:=Tryz.isAgg275
 z76:=Tryz.sizeOf275
 v76:=Q6
 t77:=Q7
 a77:=Tryz.isAgg50
 z77:=Tryz.sizeOf50
 v77:=Tryz.zeroValue50}
def Tryz.sort50_ren:Go.Shelf.Ren:=⟨λ|6=>50|15=>109|14=>113|28=>181|29=>182|20=>184|21=>185|22=>186|23=>187|24=>188|25=>189|26=>190|27=>191|46=>239|47=>235|48=>236|49=>240|50=>241|57=>264|n=>n,λ|22=>26|24=>45|25=>108|3=>3|39=>164|0=>0|53=>190|55=>140|4=>4|46=>215|45=>214|50=>102|5=>5|9=>9|66=>255|70=>259|76=>275|77=>50|n=>n,λ|n=>n⟩
def Tryz.sort50:Go.Proofs.SlLaysF0.n6 aG Tryz.sort50_ren:={
 mixed:=by kernel_rfl
 f6:=⟨Tryz.f50.name,by decide,Tryz.func50.trans (congrArg some (by kernel_rfl))⟩
 f14:=⟨Tryz.f113.name,by decide,Tryz.func113.trans (congrArg some (by kernel_rfl))⟩
 f15:=Tryz.func109.trans (congrArg some (by kernel_rfl))
 f20:=⟨Tryz.f184.name,by decide,Tryz.func184.trans (congrArg some (by kernel_rfl))⟩
 f21:=⟨Tryz.f185.name,by decide,Tryz.func185.trans (congrArg some (by kernel_rfl))⟩
 f22:=⟨Tryz.f186.name,by decide,Tryz.func186.trans (congrArg some (by kernel_rfl))⟩
 f23:=⟨Tryz.f187.name,by decide,Tryz.func187.trans (congrArg some (by kernel_rfl))⟩
 f24:=⟨Tryz.f188.name,by decide,Tryz.func188.trans (congrArg some (by kernel_rfl))⟩
 f25:=⟨Tryz.f189.name,by decide,Tryz.func189.trans (congrArg some (by kernel_rfl))⟩
 f26:=⟨Tryz.f190.name,by decide,Tryz.func190.trans (congrArg some (by kernel_rfl))⟩
 f27:=⟨Tryz.f191.name,by decide,Tryz.func191.trans (congrArg some (by kernel_rfl))⟩
 f28:=Tryz.func181.trans (congrArg some (by kernel_rfl))
 f29:=Tryz.func182.trans (congrArg some (by kernel_rfl))
 f46:=⟨Tryz.f239.name,by decide,Tryz.func239.trans (congrArg some (by kernel_rfl))⟩
 f47:=Tryz.func235.trans (congrArg some (by kernel_rfl))
 f48:=Tryz.func236.trans (congrArg some (by kernel_rfl))
 f49:=⟨Tryz.f240.name,by decide,Tryz.func240.trans (congrArg some (by kernel_rfl))⟩
 f50:=⟨Tryz.f241.name,by decide,Tryz.func241.trans (congrArg some (by kernel_rfl))⟩
 f57:=⟨Tryz.f264.name,by decide,Tryz.func264.trans (congrArg some (by kernel_rfl))⟩
 t0:=Tryz.underlying0
 a0:=Tryz.isAgg0
 z0:=Tryz.sizeOf0
 v0:=Tryz.zeroValue0
 t3:=nt
 a3:=uV
 z3:=xq
 v3:=Tryz.zeroValue3
 t4:=C8
 a4:=Tryz.isAgg4
 z4:=Tryz.sizeOf4
 v4:=Tryz.zeroValue4
 t5:=Tryz.underlying5
 a5:=Tryz.isAgg5
 z5:=Tryz.sizeOf5
 v5:=Tryz.zeroValue5
 t9:=Tryz.underlying9
 a9:=Tryz.isAgg9
 z9:=Tryz.sizeOf9
 v9:=Tryz.zeroValue9
 t22:=Tryz.underlying26
 a22:=Tryz.isAgg26
 z22:=Tryz.sizeOf26
 v22:=Tryz.zeroValue26
 t25:=Tryz.underlying108
 a25:=Tryz.isAgg108
 z25:=Tryz.sizeOf108
 v25:=Tryz.zeroValue108
 t39:=Qo
 a39:=Tryz.isAgg164
 z39:=Tryz.sizeOf164
 v39:=Qp
 t45:=Qq
 a45:=Tryz.isAgg214
 z45:=Tryz.sizeOf214
 v45:=Qr
 t46:=Qs
 a46:=Tryz.isAgg215
 z46:=Tryz.sizeOf215
 v46:=Qt
 t50:=Qu
 a50:=Tryz.isAgg102
 z50:=Tryz.sizeOf102
 v50:=Qv
 t53:=Qw
 a53:=Tryz.isAgg190
 z53:=Tryz.sizeOf190
 v53:=Qx
 t55:=Qy
 a55:=Tryz.isAgg140
 z55:=Tryz.sizeOf140
 v55:=Qz
 t66:=Q0
 a66:=Tryz.isAgg255
 z66:=Tryz.sizeOf255
 v66:=Q1
 t70:=Q3
 a70:=Tryz.isAgg259
 z70:=Tryz.sizeOf259
 v70:=Q4
 t76:=Q5
 a76:=Tryz.isAgg275
 z76:=Tryz.sizeOf275
 v76:=Q6
 t77:=Q7
 a77:=Tryz.isAgg50
 z77:=Tryz.sizeOf50
 v77:=Tryz.zeroValue50}
end Go.Proofs
namespace Go.Proofs.YtdnhebjljnfjaaaGreat
section
open Go.RowKit Go.Sort Go.Shelf Go.Lib
structure Lay(w w':World):Prop where
 below:Below w.heap.size w w'
 drawn:w.drawn<=w'.drawn
def Lay.grow{w w':World}(h:Lay w w'):∃q os,w'=xz (w.drewN q) os:=by
 obtain⟨p,hp⟩:=Ro h.below;refine⟨w'.drawn-w.drawn,p.os,?_⟩;have hd:=h.drawn;have hn:w'.drawn=p.n:=by rw[hp];rfl
 rw[hp];unfold grD xz World.drewN;grind
section
variable {α:Type} [Inhabited α]
def DE{enc:α->Value}{w:World}{g n:Nat}{d:Array α}{os:Array Obj}{cur:Array Value}{t:TypeId}(hb:w.heap[g]? =some (.cells cur t (0,0))):(sortWorld enc w g 0 n d os).heap[g]? =some (.cells (putCells enc 0 d cur) t (0,0)):=by have hlt:=(Array.getElem?_eq_some_iff.1 hb).1;unfold sortWorld xz putRow mapBlock;simp only[heap_ahead];rw[Array.getElem?_append_left (by grind),Array.getElem?_modify,if_pos rfl,hb];rfl
def DD{enc:α->Value}{w:World}{g n:Nat}{d:Array α}{os:Array Obj}:w.grownBy (sortWorld enc w g 0 n d os) (some g):=by
 refine⟨rfl,rfl,rfl,?_,?_⟩
 .unfold sortWorld xz putRow mapBlock;simp
 .intro k hk hne;unfold sortWorld xz putRow mapBlock;simp only[heap_ahead];grind
end
def qn(l:List Int):LT.I.enc l=l.map (PV.int .i64):=by show nc l=_;exact vF (λn=>PV.int .i64 n) l
def T7{C:bF}{w:World}{b c:Nat}{l:List Int}{arr:Array Value}{ty:TypeId}(hL:Lent C w b c ty 1 (LT.I.enc l) arr):Holds (c6 .i64) w b 0 l.toArray/\l.length<=arr.size:=by
 obtain⟨_,h2,_⟩:=hL.row (by decide);rw[qn,d6]at h2;refine⟨λj hj=> ?_,h2⟩;obtain⟨v,h3,_,h4⟩:=hL.cells j (.int .i64 l[j]) (by rw[qn,du,c7 hj];rfl);subst h4;refine⟨?_,?_⟩
 .rw[gX];refine(cell_of_row w b j arr ty (0,0) hL.blk).trans (h3.trans ?_);grind
 .simp[World.frozen?,hL.blk]
end
end Go.Proofs.YtdnhebjljnfjaaaGreat
