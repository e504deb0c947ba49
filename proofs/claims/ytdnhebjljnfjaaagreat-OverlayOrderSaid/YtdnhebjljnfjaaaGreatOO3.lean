/- Part 3 of what the statement stands on -/
import Derived.Test.YtdnhebjljnfjaaaGreatOO2
import Derived.ChangeKeysEq
import Derived.Lib.AppendZerosOnto
import Derived.Test.YtdnhebjljnfjaaaGreatRows
import Derived.ProofKit
import Derived.Carry
import Derived.SizedLaws
import Derived.Deep.SlicePairs
import Derived.Lib.SmallJoins
import Derived.Calls
import Derived.Shelf.SlSortCmp.NoneTotal
import Derived.Ground.SlsfProg
set_option linter.all false
set_option maxRecDepth 100000
set_option maxHeartbeats 8000000
open Nat renaming le_refl->az,zero_add->gc,lt_or_ge->jc,beq->ae,ne_of_beq_eq_false->f9,ne_of_gt->jh,zero_mul->yO,ble->iV,blt->dG,zero_le->cO,le_of_ble_eq_true->jJ,eq_of_beq_eq_true->bp,one_mul->oV,le_trans->ci,mod_lt->eO,gcd->cE,gcd_comm->DW,le_antisymm->oW,eq_zero_or_pos->oK,le_succ->Df,le_of_eq->yX
open List renaming getElem?_eq_none->eQ,mem_singleton->bM,take_length->jg,length_take->ew,mem_cons->bh,lookup_cons->dJ,mem_append->eK,take_left->vC,mem_map->cF,mem_filterMap->kF,mem_append_left->f7,map_map->gg,map_congr_left->lk,mem_append_right->fq,mem_cons_of_mem->dK,length_eq_zero_iff->ip,length->fg,map_cons->cV,length_map->eB,map_nil->lc,cons.injEq->mb,replicate->bS,getElem?_eq_getElem->dA,range->bO,take_add_one->qD,foldl_append->DU,take->ai,drop->bT,take_of_length_le->ir,range_succ->sA,map_append->d7,all_eq_true->dm,getElem_of_mem->iK,mem_range->dY,getElem_map->vF,getElem_range->vG,length_append->dh,all_eq_false->DX,any_eq_true->li,any_eq_false->DY,any->iu,mem_cons_self->eG,flatten->fG,getElem_mem->eR,drop_zero->mq
open Option renaming map_some->dn
open Classical renaming choose_spec->Rp
open Go.Sem renaming run->eZ,run_bind->bo,run_pure->cK
open Go.Proofs.Tryz renaming prog->aH,underlying53->Ro,isAgg3->vA,underlying3->sB,sizeOf3->yS,underlying4->Dg,underlying5->yY,underlying164->Rs,zeroValue164->Rt,underlying214->Ru,zeroValue214->Rv,underlying215->Rw,zeroValue215->Rx,underlying102->Ry,zeroValue102->Rz,underlying190->R0,zeroValue190->R3,underlying140->R4,zeroValue140->R6,underlying255->R7,zeroValue255->R8,underlying259->R9,zeroValue259->SA,underlying275->SB,zeroValue275->SC,underlying50->SD
open Go.Op renaming equalIn->jd
open Go.Program renaming fieldsOf->yT
open Go.Value renaming int->c9
open Go.Result renaming andThen_ok->b9,andThen->qA,ok->vI
open Bool renaming eq_iff_iff->lZ,not_true->yH,false_eq_true->oI,and_eq_true->cD,or_eq_true->jI
open Go.Instr renaming checkKey->u7
open Int renaming mul_nonneg->jG,natAbs->bm,tmod->dr,natAbs_tmod->DV,tdiv->bz,emod_add_mul_ediv->DZ,emod_nonneg->Da,emod_lt_of_pos->Db,lt_trichotomy->vH,mul_le_mul_of_nonneg_left->sF,mul_lt_mul_of_pos_right->Dc
open And renaming intro->c6
open Decidable renaming of_not_not->yW,not_not->mr
open Go.IntKind renaming i64->d6
open Go.RowKit
open Go.Proofs.YtdnhebjljnfjaaaGreat.Geo
open Go.Proofs.YtdnhebjljnfjaaaGreat.Geo renaming sub->aDd,cross->aDe,nth->aDa,bi->aDh,onP->aDi,bJ->aDj
namespace Go.Proofs.YtdnhebjljnfjaaaGreat
def frS(s:Nat)(cells:List PV)(x' y:AV):Prop:=x'= .any\/x'=y\/∃n k,y= .own s 0 n/\x'= .p (.sl n (cells.take k))
def frO(s:Nat)(cells:List PV)(o:Option Ob)(ob:Ob):Prop:=o=some ob\/∃ob0,o=some ob0/\ob.ty=ob0.ty/\ob.esz=ob0.esz/\¬(ob.esz=0/\ob.ty<=2)/\ob.cells.length=ob0.cells.length/\
 ∀(i:Nat) x,ob.cells[i]? =some x->∃y,ob0.cells[i]? =some y/\frS s cells x y
def frO.get{s:Nat}{cells:List PV}{o:Option Ob}{ob:Ob}(h:frO s cells o ob):∃ob0,o=some ob0/\ob.ty=ob0.ty/\ob.esz=ob0.esz:=by
 rcases h with h|⟨ob0,h1,h2,h3,_⟩
 .grind
 grind
def yn{F F':List AV}{L L':Sto}{N:Nat}{ty esz:Nat}(s:Nat)(cells:List PV)(hs:L s=some ⟨ty,esz,cells.map .p⟩)(hz:esz≠0)(hl:F'.length=F.length)
  (hF:∀t,t<F.length->frS s cells (F'.getD t .any) (F.getD t .any)) (hL:∀k ob,L' k=some ob->k≠s/\frO s cells (L k) ob):cZ F L N F' L' N:=by
 intro C0 B wI a w ⟨⟨ρ,s1,s2,s3⟩,s4,s5,s6,s7⟩;have hdead:∀k,L k=none->L' k=none:=by
  intro k hk;cases h:L' k with
  |none=>rfl
  |some ob=>obtain⟨ob0,h0,_⟩:=(hL k ob h).2.get;grind
 have hmono:∀b o v,ak C0 B w ρ L b o v->ak C0 B w ρ L' b o v:=λb o v ⟨e1,e2,e3⟩=>⟨e1,λk c h=>hdead k (e2 k c h),e3⟩;have hone:∀x' y v,frS s cells x' y->aU ρ (ak C0 B w ρ L) y v->aU ρ (ak C0 B w ρ L') x' v:=by
  rintro x' y v (rfl|rfl|⟨n,kt,rfl,rfl⟩) hv
  .unfold aU;trivial
  .exact aU.mono (λ_ _ h=>h) hmono _ v hv
  .unfold aU at hv|-;obtain⟨q,c,hρ,hcase⟩:=hv;obtain⟨q2,c2,hρ2,hob⟩:=s1.ob s _ hs;rw[hρ]at hρ2;cases hρ2;unfold a8;rcases hcase with⟨h1,h4,h5,_⟩|⟨b,o',c',h1,h4,h5,h6,h7⟩
   .subst h5;rcases hob with⟨_,⟨_,h8,_⟩|⟨h8,_⟩⟩|⟨b,arr,h8,_⟩
    .exact⟨none,0,h4,az _,λ_=>⟨rfl,by simp_all⟩,λad e=>by cases e⟩
    .grind
    grind
   .obtain⟨rfl,rfl⟩:=h7 rfl;rcases hob with⟨h8,_⟩|⟨b2,arr,h8,h9,h10⟩
    .grind
    .rw[h1]at h8;cases h8;refine⟨_,c',h4,h5,(λe=>by cases e),λad e=> ?_⟩;cases e;refine⟨λ_=>rfl,cj.take (cj.of _ _ _ λi x hi=> ?_) kt⟩;obtain⟨u,k1,k2,k3⟩:=h10.cells i (.p x) (by grind);unfold aU at k3;refine⟨u,⟨by rw[gc,h10.cell];exact k1,λk c2 hk=> ?_,.inl h9⟩,k2,a8.mono hmono x u k3⟩;cases h:L' k with
     |none=>rfl
     |some ob=>
      obtain⟨hne,h2⟩:=hL k ob h;obtain⟨ob0,h2,_⟩:=h2.get;exact absurd (s1.inj k s ob0 _ b c2 c' h2 hs hk (by rw[hρ,h1])) hne
 refine⟨⟨ρ,⟨?_,?_,?_⟩,s2,?_⟩,s4,s5,by rw[s6,hl],s7⟩
 .intro k ob hk;obtain⟨hne,h2|⟨ob0,h2,g1,g2,g3,g4,g5⟩⟩:=hL k ob hk
  .obtain⟨q,c,hρ,hcase⟩:=s1.ob k ob h2;refine⟨q,c,hρ,?_⟩;rcases hcase with⟨g1,g2⟩|⟨b,arr,g1,g2,g3⟩
   .refine .inl ⟨g1,?_⟩;rcases g2 with g2|⟨g2,g3⟩
    .exact .inl g2
    .exact .inr ⟨g2,g3.mono (λ_ _ h=>h) hmono λ_ _ _ _=>rfl⟩
   .refine .inr ⟨b,arr,g1,g2,⟨g3.blk,g3.box,g3.row,λi x hi=> ?_⟩⟩;obtain⟨v,m1,m2,m3⟩:=g3.cells i x hi;exact⟨v,m1,m2,aU.mono (λ_ _ h=>h) hmono _ v m3⟩
  .obtain⟨q,c,hρ,hcase⟩:=s1.ob k ob0 h2;refine⟨q,c,hρ,?_⟩;rcases hcase with⟨k1,⟨k2,k3,k4⟩|⟨k2,k3⟩⟩|⟨b,arr,k1,k2,k3⟩
   .grind
   .exfalso;refine g3 ⟨by omega,?_⟩;rw[g1];rcases k3 with⟨k3,_⟩|⟨k3,_⟩|⟨k3,_⟩<;>(rw[k3];decide)
   .refine .inr ⟨b,arr,k1,k2,⟨by rw[g1];exact k3.blk,λh=>by rw[g4];exact k3.box (by omega),λh=>by rw[g4,g2];exact k3.row (by omega),λi x hi=> ?_⟩⟩;obtain⟨y,y1,y2⟩:=g5 i x hi;obtain⟨v,m1,m2,m3⟩:=k3.cells i y y1;grind
 .intro k k' o o' b c c' h1 h2 h3 h4;obtain⟨o1,e1,_⟩:=(hL k o h1).2.get;obtain⟨o2,e2,_⟩:=(hL k' o' h2).2.get;exact s1.inj k k' o1 o2 b c c' e1 e2 h3 h4
 .intro k k' o o' c c' h1 h2 h3 h4 h5 h6 h7;obtain⟨o1,e1,a1,a2⟩:=(hL k o h1).2.get;obtain⟨o2,e2,b1,b2⟩:=(hL k' o' h2).2.get;refine s1.mpi k k' o1 o2 c c' e1 e2 (by omega) (by omega) h5 h6 ?_;unfold mW at h7|-;grind
 .intro t;rcases jc t F.length with h|h
  .grind
  .rw[List.getD_eq_getElem?_getD,eQ (by omega)];show aU _ _ .any _;unfold aU;trivial
noncomputable section
def uC(d:Nat)(F:Frm)(L:aJ):Option (List Prop×Frm×aJ):=match F.at d with
 | .ownx s n=>(match L.at s with
   |some (.arr _ ez cs)=>(match bJ (avs cs),ae ez 0 with
    |some _,false=>some ([],(d,.sl n cs)::F,(s,none)::L)
    |_,_=>none)
   |_=>none)
 | .own s _ n=>(match L.at s with
   |some (.row _ lt l)=>some ([n=l.length],(d,.lst lt l)::F,(s,none)::L)
   |_=>none)
 |_=>none
def wV{L:aJ}{s:Nat}{ob:SOb}(hs:L.at s=some ob)(hf:ob.flat=true){k:Nat}{o:Ob}(h:aJ.fn ((s,none)::L) k=some o):k≠aD s/\L.fn k=some o:=by have h1:=(bI.flat (σ:=L.at) (rd:=[]) (W:=[(s,none)]) λq hq=>by rw[bM.1 hq,hs];exact⟨hf,rfl⟩).2.2;rw[aJ.pd]at h1;have h2:aJ.fn ((s,none)::L)=aX L.fn [(aD s,none)] :=h1.symm;rw[h2]at h;unfold aX at h;grind
def HZ{n d t:Nat}{v:SV}{F:Frm}(ht:t<n):(Frm.av n ((d,v)::F)).getD t .any=if t=d then v.av else(F.av n).getD t .any:=by rw[Frm.fi ht,Frm.fi ht,Frm.cd];split<;>rfl
def TN{n N d:Nat}{F F':Frm}{L L':aJ}{ps:List Prop}(h:uC d F L=some (ps,F',L'))(hp:∀p∈ps,p):cZ (F.av n) L.fn N (F'.av n) L'.fn N:=by
 unfold uC at h;split at h
 .rename_i s m hd;split at h
  case h_2=>cases h
  rename_i ty ez cs hs;split at h<;>cases h;rename_i q hq hz;refine yn (aD s) q (ty:=ty) (esz:=ez) ?_ (f9 hz) (by rw[Frm.eH,Frm.eH]) ?_ λk ob hk=>⟨(wV hs rfl hk).1,.inl (wV hs rfl hk).2⟩
  .show Sg.a L.at (aD s)=_;rw[Sg.bW,hs,<-fR hq];rfl
  .intro t ht;rw[Frm.eH]at ht;rw[HZ ht];by_cases e:t=d
   .subst e;rw[if_pos rfl,Frm.fi ht,hd];exact .inr (.inr ⟨m,q.length,rfl,by show(match bJ (avs cs)with|some q=>AV.p (.sl m q)|none=> .any)=_;rw[hq,jg]⟩)
   .rw[if_neg e];exact .inr (.inl rfl)
 .rename_i s t0 m hd;split at h<;>cases h;rename_i ty lt l hs;have hm:m=l.length:=hp _ (by grind);refine yn (aD s) (lt.enc l) (ty:=ty) (esz:=lt.w) ?_ (jh lt.gn) (by rw[Frm.eH,Frm.eH]) ?_ λk ob hk=>⟨(wV hs rfl hk).1,.inl (wV hs rfl hk).2⟩
  .show Sg.a L.at (aD s)=_;rw[Sg.bW,hs];rfl
  .intro t ht;rw[Frm.eH]at ht;rw[HZ ht];by_cases e:t=d
   .subst e;rw[if_pos rfl,Frm.fi ht,hd];exact .inr (.inr ⟨m,(lt.enc l).length,rfl,by rw[jg,hm];rfl⟩)
   .rw[if_neg e];exact .inr (.inl rfl)
 .cases h
def Cq(L:aJ):SV->Option (List Prop×SV×Nat)
 | .ownx s n=>(match L.at s with
   |some (.arr _ ez cs)=>(match bJ (avs cs),ae ez 0 with
    |some _,false=>some ([],.sl n cs,s)
    |_,_=>none)
   |_=>none)
 | .own s _ n=>(match L.at s with
   |some (.row _ lt l)=>some ([n=l.length],.lst lt l,s)
   |_=>none)
 | .owns s _ 0 n=>(match L.at s with
   |some (.row _ lt l)=>some ([n<=l.length],.lst lt (l.take n),s)
   |_=>none)
 |_=>none
def VE{L:aJ}{v w:SV}{s:Nat}{ps:List Prop}(h:Cq L v=some (ps,w,s))(hp:∀p∈ps,p):∃ob,L.at s=some ob/\ob.flat=true/\∃ty esz,∃cells:List PV,∃n,ob.ob s=⟨ty,esz,cells.map .p⟩/\esz≠0/\v.av= .own (aD s) 0 n/\(∃kt,w.av= .p (.sl n (cells.take kt)))/\(∀ty cs,ob≠ .box ty cs):=by
 unfold Cq at h;split at h
 .rename_i s m;split at h
  case h_2=>cases h
  rename_i ty ez cs hs;split at h<;>cases h;rename_i q hq hz;exact⟨_,hs,rfl,ty,ez,q,m,by rw[<-fR hq];rfl,f9 hz,rfl,⟨q.length,by show(match bJ (avs cs)with|some q=>AV.p (.sl m q)|none=> .any)=_;rw[hq,jg]⟩,λ_ _=>nofun⟩
 .rename_i s t0 m;split at h<;>cases h;rename_i ty lt l hs;have hm:m=l.length:=hp _ (by grind);exact⟨_,hs,rfl,ty,lt.w,lt.enc l,m,rfl,jh lt.gn,rfl,⟨(lt.enc l).length,by rw[jg,hm];rfl⟩,λ_ _=>nofun⟩
 .rename_i s t0 m;split at h<;>cases h;rename_i ty lt l hs;have hm:m<=l.length:=hp _ (by grind);refine⟨_,hs,rfl,ty,lt.w,lt.enc l,m,rfl,jh lt.gn,?_,⟨m*lt.w,?_⟩,λ_ _=>nofun⟩
  .show AV.own (aD s) (0*_) m=_;rw[yO]
  .rw[lt.wide.take];show AV.p (.sl (l.take m).length _)=_;rw[ew,Nat.min_eq_left hm]
 .cases h
def uD(k i:Nat)(L:aJ):Option (List Prop×aJ):=match L.at k with
 |some (.box ty cs)=>(match cs[i]?,iV ty 2 with
  |some v,false=>(match Cq L v with
   |some (ps,w,s)=>some (ps,(k,some (.box ty (cs.set i w)))::(s,none)::L)
   |none=>none)
  |_,_=>none)
 |_=>none
def TO{n N k i:Nat}{F:Frm}{L L':aJ}{ps:List Prop}(h:uD k i L=some (ps,L'))(hp:∀p∈ps,p):cZ (F.av n) L.fn N (F.av n) L'.fn N:=by
 unfold uD at h;split at h
 case h_2=>cases h
 rename_i ty cs hk;split at h
 case h_2=>cases h
 rename_i v hv hty;split at h<;>cases h;rename_i w s hf;obtain⟨ob,e1,e2,tys,esz,cells,m,e3,e4,e5,e6,e7⟩:=VE hf hp;have hks:k≠s:=λe=>by grind
 have hty:¬ty<=2:=λhh=>by rw[Nat.ble_eq_true_of_le hh]at hty;cases hty
 have up:aJ.fn ((k,some (.box ty (cs.set i w)))::(s,none)::L)=aX L.fn [(aD k,some ((SOb.box ty (cs.set i w)).ob k)),(aD s,none)] :=by
  have h1:=(bI.flat (σ:=L.at) (rd:=[]) (W:=[(k,some (.box ty (cs.set i w))),(s,none)]) λq hq=>by
   rcases bh.1 hq with rfl|hq
   .rw[hk];exact⟨rfl,rfl⟩
   .rw[bM.1 hq,e1];exact⟨e2,rfl⟩).2.2
  rw[aJ.pd]at h1;exact h1.symm
 refine yn (aD s) cells (ty:=tys) (esz:=esz) ?_ e4 rfl (λt ht=> .inr (.inl rfl)) λj ob' hj=> ?_
 .show Sg.a L.at (aD s)=_;rw[Sg.bW,e1,dn,e3]
 .rw[up]at hj;unfold aX at hj;rw[dJ,dJ]at hj;by_cases h1:j=aD k
  .subst h1;rw[beq_iff_eq.2 rfl]at hj;cases hj;refine⟨λe=>hks (eL e),.inr ⟨(SOb.box ty cs).ob k,by show Sg.a L.at (aD k)=_;rw[Sg.bW,hk];rfl,rfl,rfl,?_,?_,?_⟩⟩
   .rintro⟨_,hh⟩;exact hty hh
   .show(avs (cs.set i w)).length=(avs cs).length;rw[fh,fh,List.length_set]
   .intro a x hx;have hx:(avs (cs.set i w))[a]? =some x:=hx;rw[wb,List.getElem?_set]at hx;by_cases ha:i=a
    .subst ha;rw[if_pos rfl,if_pos (by grind)]at hx;cases hx;exact⟨v.av,by show(avs cs)[i]? =_;rw[qo,hv];rfl,.inr (by grind)⟩
    .rw[if_neg ha]at hx;exact⟨x,hx,.inr (.inl rfl)⟩
  .rw[beq_eq_false_iff_ne.2 h1]at hj;by_cases h2:j=aD s
   .grind
   .rw[beq_eq_false_iff_ne.2 h2]at hj;exact⟨h2,.inl hj⟩
def T3{k i:Nat}{L L':aJ}{ps:List Prop}(h:uD k i L=some (ps,L')):∃q,L'=q++L:=by
 unfold uD at h;split at h
 case h_2=>cases h
 split at h
 case h_2=>cases h
 split at h<;>cases h;exact⟨[(_,_),(_,_)],rfl⟩
def CL(k:Nat):Nat->List SV->List (Nat×Nat)
 |_,[] =>[]
 |i,.lst _ _::r=>(k,i)::CL k (i+1) r
 |i,_::r=>CL k (i+1) r
def Cs:List (Nat×SOb)->List (Nat×Nat)
 |[] =>[]
 |(k,.box _ cs)::r=>CL k 0 cs++Cs r
 |_::r=>Cs r
def pn:List (Nat×Nat)->aJ->List Prop×aJ
 |[],L=>([],L)
 |d::ds,L=>match uD d.1 d.2 L with
  |some (ps,L')=>(match pn ds L' with|(qs,r)=>(ps++qs,r))
  |none=>pn ds L
def zA{n N:Nat}{F:Frm}:∀{ds:List (Nat×Nat)} {L L':aJ} {ps:List Prop},pn ds L=(ps,L')->(∀p∈ps,p)->cZ (F.av n) L.fn N (F.av n) L'.fn N
 |[],L,L',ps,h,_=>by cases h;exact cZ.rfl
 |d::ds,L,L',ps,h,hp=>by
  unfold pn at h;split at h
  .rename_i p1 L1 h1;split at h;rename_i qs r h2;cases h;have w1:=TO (n:=n) (N:=N) (F:=F) h1 λp hq=>hp p (by grind);have w2:=zA (n:=n) (N:=N) (F:=F) h2 λp hq=>hp p (by grind);exact λC0 B wI a w hst=>w2 C0 B wI a w (w1 C0 B wI a w hst)
  .exact zA h hp
def zS:∀{ds:List (Nat×Nat)} {L L':aJ} {ps:List Prop},pn ds L=(ps,L')->∃q,L'=q++L
 |[],L,L',ps,h=>by cases h;simp_all
 |d::ds,L,L',ps,h=>by
  unfold pn at h;split at h
  .rename_i p1 L1 h1;split at h;rename_i qs r h2;obtain⟨q,e2⟩:=T3 h1;obtain⟨q',e4⟩:=zS h2;grind
  .exact zS h
def Cr:Frm->List Nat
 |[] =>[]
 |(d,.lst _ _)::r=>d::Cr r
 |_::r=>Cr r
def pw:List Nat->Frm->aJ->List Prop×Frm×aJ
 |[],F,L=>([],F,L)
 |d::ds,F,L=>match uC d F L with
  |some (ps,F',L')=>(match pw ds F' L' with|(qs,r)=>(ps++qs,r))
  |none=>pw ds F L
def zR{n N:Nat}:∀{ds:List Nat} {F F':Frm} {L L':aJ} {ps:List Prop},pw ds F L=(ps,F',L')->(∀p∈ps,p)->cZ (F.av n) L.fn N (F'.av n) L'.fn N
 |[],F,F',L,L',ps,h,_=>by cases h;exact cZ.rfl
 |d::ds,F,F',L,L',ps,h,hp=>by
  unfold pw at h;split at h
  .rename_i p1 F1 L1 h1;split at h;rename_i qs r h2;cases h;have w1:=TN (n:=n) (N:=N) h1 λp hq=>hp p (by grind);have w2:=zR (n:=n) (N:=N) h2 λp hq=>hp p (by grind);exact λC0 B wI a w hst=>w2 C0 B wI a w (w1 C0 B wI a w hst)
  .exact zR h hp
def T1{d:Nat}{F F':Frm}{L L':aJ}{ps:List Prop}(h:uC d F L=some (ps,F',L')):(∃p,F'=p++F)/\∃q,L'=q++L:=by
 unfold uC at h;split at h
 .split at h
  case h_2=>cases h
  split at h<;>cases h;exact⟨⟨[_],rfl⟩,⟨[_],rfl⟩⟩
 .split at h<;>cases h;exact⟨⟨[_],rfl⟩,⟨[_],rfl⟩⟩
 .cases h
def AK:∀{ds:List Nat} {F F':Frm} {L L':aJ} {ps:List Prop},pw ds F L=(ps,F',L')->(∃p,F'=p++F)/\∃q,L'=q++L
 |[],F,F',L,L',ps,h=>by cases h;simp_all
 |d::ds,F,F',L,L',ps,h=>by
  unfold pw at h;split at h
  .rename_i p1 F1 L1 h1;split at h;rename_i qs r h2;obtain⟨⟨p,e1⟩,⟨q,e2⟩⟩:=T1 h1;obtain⟨⟨p',e3⟩,⟨q',e4⟩⟩:=AK h2;grind
  .exact AK h
end
noncomputable section
inductive Ann:Type 1
 |mk (Y:Type) (wit:Frm->aJ->Option Y) (rk:List Nat) (inv:Y->List Prop) (upd:Y->Frm) (obs:Y->List (Nat×SOb)) (mu:Y->Nat) (inner:Y->List (Nat×Ann))
def Ma:List (Nat×Ann)->Nat->Option Ann
 |[],_=>none
 |(k,a)::l,x=>match ae x k with|true=>some a|false=>Ma l x
def asg:Code->List Nat
 | .region _ ops _=>ops.toList.filterMap (·.dst)
 | .seq a b=>asg a++asg b
 | .cond _ t e=>asg t++asg e
 | .block _ c=>asg c
 | .loop c=>asg c
 | .scope c=>asg c
 |_=>[]
def nr:Code->Option Nat
 | .region id _ _=>some id
 | .seq a b=>(match nr a with|some k=>some k|none=>nr b)
 | .cond _ t e=>(match nr t with|some k=>some k|none=>nr e)
 | .block _ c=>nr c
 | .loop c=>nr c
 | .scope c=>nr c
 |_=>none
def CW(A:List (Nat×Ann))(c:Code)(j:Nat):Option Ann:=match nr c with
 |some k=>Ma A (k+j)
 |none=>none
def gr(N:Nat):List Nat->Nat
 |[] =>N
 |s::l=>(match dG (ncl s) (gr N l)with|true=>gr N l|false=>ncl s+1)
abbrev jV:=Exit->Frm->aJ->Nat->Fm
def CZ(X:Cx)(n:Nat)(raw:Nat->Nat->Bool)(id:Nat)(ops:List Oper)(draw:Bool)(F:Frm)(L:aJ)(N:Nat)(K:Frm->aJ->Fm):Fm:=match draw with
 |true=>(match X.P.follows .mixedOrders,rN ops (pY ops),dOk ops n with
  |true,true,true=>dj X n (raw id) N (ops.map (·.dst)) ops 0 F L [] λF L log=>(match nf (pY ops) log with|true=>K F L|false=> .stuck (id+100000))
  |_,_,_=> .stuck (id+200000))
 |false=>(match gOk ops with
  |true=>dj X n (raw id) N (ops.map (·.dst)) ops 0 F L [] λF L _=>K F L
  |false=> .stuck (id+300000))
def uh(n:Nat)(F:Frm)(L:aJ)(N:Nat)(rk:List Nat)(upd:Frm)(obs:List (Nat×SOb))(qs:List Prop)(F':Frm)(L':aJ):Fm:=match pw (Cr upd) F' L' with
 |(pz,F0,La)=>match pn (Cs obs) La with
  |(pb,L0)=>match pf NM 100 (Bb L0) F0 L0 with
   |(p0,F1,L1)=>(match cw (λq:Nat×SV=>mem ((F'.take (F'.length-F.length)).map (·.1)) q.1) (F1.take (F1.length-F'.length)),xP n L N (gr N rk) rk upd obs F1 L1 with
    |true,some ps=>needs (pz++(pb++(p0++(ps++qs)))) .tt
    |_,_=> .stuck 400000)
def exq{Y:Type}(w:Option Y)(f:Y->Fm):Fm:=match w with
 |some y=>f y
 |none=> .ex Y f
def zV{Y:Type}{w:Option Y}{f:Y->Fm}(h:(exq w f).holds):∃y,(f y).holds:=by
 cases w with
 |some y=>exact⟨y,h⟩
 |none=>exact h
def Jg(A:List (Nat×Ann))(c:Code):Nat->Option Nat
 |0=>none
 |k+1=>(match CW A c (30001+k)with|some _=>some (k+1)|none=>Jg A c k)
def unr(body:jV->Frm->aJ->Nat->Fm)(Q:jV):Nat->Frm->aJ->Nat->Fm
 |0,_,_,_=> .stuck 810000
 |k+1,F,L,N=>body (λe F' L' N'=>match e with| .normal=>unr body Q k F' L' N'|e=>Q e F' L' N') F L N
abbrev Inl:=Nat->List SV->Frm->Nat->aJ->Nat->(SV->aJ->Nat->Fm)->Fm
def xM:Inl:=λ_ _ _ _ _ _ _=> .stuck 990000
inductive Spl where
 |call (f:Nat) (args:List Operand)
 |isnil (t:TypeId) (x y:Operand)
 |clo (t:Nat) (args:List Operand)
def lK(X:Cx)(o:Oper):Option Spl:=match o.guard,o.op with
 |none,.call {callee:= .value (.func f),args, .. }=>(match X.inl f with|true=>some (.call f args.toList)|false=>none)
 |none,.call {callee:= .value (.tmp t),args, .. }=>(match X.inl 1000045 with|true=>some (.clo t args.toList)|false=>none)
 |none,.binOp .eql t x y _=>(match X.inl 1000044,cA 0 [] y with|true,.nil=>some (.isnil t x y)|_,_=>none)
 |_,_=>none
def uK(X:Cx):List Oper->Option (List Oper×Oper×Spl×List Oper)
 |[] =>none
 |o::l=>(match lK X o with
  |some s=>some ([],o,s,l)
  |none=>(match uK X l with
   |some (pre,q,s,post)=>some (o::pre,q,s,post)
   |none=>none))
def TY{X:Cx}{o:Oper}{f:Nat}{args:List Operand}(h:lK X o=some (.call f args)):∃c:Call,o.op= .call c/\c.callee= .value (.func f)/\c.args.toList=args:=by
 unfold lK at h;split at h
 .rename_i hg ho;split at h<;>cases h;exact⟨_,ho,rfl,rfl⟩
 .split at h<;>cases h
 .split at h<;>cases h
 .cases h
def UP{X:Cx}{o:Oper}{t:Nat}{args:List Operand}(h:lK X o=some (.clo t args)):∃c:Call,o.op= .call c/\c.callee= .value (.tmp t)/\c.args.toList=args:=by
 unfold lK at h;split at h
 .split at h<;>cases h
 .rename_i hg ho;split at h<;>cases h;exact⟨_,ho,rfl,rfl⟩
 .split at h<;>cases h
 .cases h
def UO{X:Cx}{o:Oper}{t:TypeId}{x y:Operand}(h:lK X o=some (.isnil t x y)):∃t',o.op= .binOp .eql t x y t':=by
 unfold lK at h;split at h
 .split at h<;>cases h
 .split at h<;>cases h
 .rename_i hg ho;split at h<;>cases h;exact⟨_,ho⟩
 .cases h
def yo{X:Cx}{o:Oper}{s:Spl}(h:lK X o=some s):o.guard=none:=by
 unfold lK at h;split at h
 .assumption
 .assumption
 .assumption
 .cases h
def vS{X:Cx}:∀{ops pre:List Oper} {o:Oper} {s:Spl} {post:List Oper},uK X ops=some (pre,o,s,post)->ops=pre++o::post/\lK X o=some s
 |[],_,_,_,_,h=>by cases h
 |x::l,pre,o,s,post,h=>by
  unfold uK at h;split at h
  .rename_i h1;cases h;exact⟨rfl,h1⟩
  .split at h
   .rename_i h1;cases h;obtain⟨e,h2⟩:=vS h1;exact⟨by rw[e];rfl,h2⟩
   .cases h
def rX(X:Cx)(I:Inl):Prop:=∀(f:Nat) (xs:List SV) (F:Frm) (n:Nat) (L:aJ) (N:Nat) (K:SV->aJ->Nat->Fm) (o:Oper) (c:Call) (fo:Operand) (caps:List AV),o.op= .call c->c.callee= .value fo->yF (dC (F.av n) fo) f caps->c.args.toList.map (dC (F.av n))++caps=avs xs->(I f xs F n L N K).holds->
 ce X.P o (F.av n) L.fn N λFA LA N'=>∃r L',r.ok/\FA=cJ (F.av n) o.dst r.av/\LA=L'.fn/\eC L L'/\(K r L' N').holds
def GL(X:Cx):rX X xM:=λ_ _ _ _ _ _ _ _ _ _ _ _ _ _ _ h=>h.elim
abbrev kB:=Nat->List Oper->Bool->Frm->aJ->Nat->(Frm->aJ->Nat->Fm)->Option Fm
def l8:kB:=λ_ _ _ _ _ _ _=>none
structure Inls where
 call:Inl
 hook:kB
def oD:Code->List (Nat×Array Oper×Bool)
 | .region id ops draw=>[(id,ops,draw)]
 | .seq a b=>oD a++oD b
 | .cond _ t e=>oD t++oD e
 | .block _ c=>oD c
 | .loop c=>oD c
 | .scope c=>oD c
 |_=>[]
def oA(X:Cx)(I:Inls)(n:Nat)(raw:Nat->Bool)(ds:List (Option Nat)):Nat->List Oper->Nat->Frm->aJ->Nat->(Frm->aJ->Nat->Fm)->Fm
 |0,ops,i,F,L,N,K=>dj X n raw N ds ops i F L [] λF L _=>K F L N
 |k+1,ops,i,F,L,N,K=>(match uK X ops with
  |some (pre,o,.call f args,post)=>dj X n raw N ds pre i F L [] λF L _=>I.call f (args.map (cA n F)) F n L (N+(i+pre.length)) λr L' N'=>oA X I n raw ds k post (i+(pre.length+1)) (dv n F o.dst r) L' N' K
  |some (pre,o,.clo t args,post)=>dj X n raw N ds pre i F L [] λF L _=>(match cA n F (.tmp t)with
   | .fn f [] caps=>I.call f (args.map (cA n F)++caps) F n L (N+(i+pre.length)) λr L' N'=>oA X I n raw ds k post (i+(pre.length+1)) (dv n F o.dst r) L' N' K
   |_=> .stuck 995001)
  |some (pre,o,.isnil t x y,post)=>dj X n raw N ds pre i F L [] λF L _=>(match cA n F x,cA n F y,(bu X.P t).isSome with
   | .lst _ l,.nil,true=> .both (.imp (l=[]) (oA X I n raw ds k post (i+(pre.length+1)) (dv n F o.dst (.lit true)) L (N+(i+pre.length)) K)) (oA X I n raw ds k post (i+(pre.length+1)) (dv n F o.dst (.lit false)) L (N+(i+pre.length)) K)
   |_,_,_=> .stuck 995000)
  |none=>dj X n raw N ds ops i F L [] λF L _=>K F L N)
def vc(X:Cx)(I:Inls)(n:Nat)(raw:Nat->Nat->Bool):Code->(Nat->Bool)->List (Nat×Ann)->jV->Frm->aJ->Nat->Fm
 | .skip,_,_,Q,F,L,N=>Q .normal F L N
 | .region id ops draw,_,_,Q,F,L,N=>(match I.hook id ops.toList draw F L N λF L N=>Q .normal F L N with
  |some f=>f
  |none=>(match draw,uK X ops.toList with
   |false,some _=>oA X I n (raw id) (ops.toList.map (·.dst)) 6 ops.toList 0 F L N λF L N=>Q .normal F L (N+ops.size)
   |_,_=>CZ X n raw id ops.toList draw F L N λF L=>Q .normal F L (N+ops.size)))
 | .seq a b,al,A,Q,F,L,N=>(match CW A b 10000 with
   |none=>vc X I n raw a al A (λe F L N=>match e with| .normal=>vc X I n raw b al A Q F L N|e=>Q e F L N) F L N
   |some (.mk Y wit rk inv upd obs _ inner)=>(match cw al (iG F rk N F)with
    |true=> .both
     (vc X I n raw a (mem (asg a)) A (λe F1 L1 N1=>match e with| .normal=>exq (wit F1 L1) λy=>uh n F L N rk (upd y) (obs y) (inv y) F1 L1|e=>Q e F1 L1 N1) F L N)
     (.all Y λy=>Co (inv y) (match cw (λq=>mem (asg a++iG F rk N F) q.1) (upd y)with
       |true=>vc X I n raw b al (inner y++A) Q (jB F (upd y) (asg a++iG F rk N F)) (gW L (obs y)) (gr N rk)
       |false=> .stuck 500000))
    |false=> .stuck 600000))
 | .cond c t e,al,A,Q,F,L,N=>(match cA n F c with
   | .lit true=>vc X I n raw t al A Q F L N
   | .lit false=>vc X I n raw e al A Q F L N
   | .prop p _=> .both (.imp p (vc X I n raw t al A Q F L N)) (.imp (¬p) (vc X I n raw e al A Q F L N))
   | .bool b=> .both (.imp (b=true) (vc X I n raw t al A Q F L N)) (.imp (b=false) (vc X I n raw e al A Q F L N))
   |_=> .stuck 700000)
 | .block id c,al,A,Q,F,L,N=>vc X I n raw c al A (λe F L N=>match e with| .exit id'=>(match ae id' id with|true=>Q .normal F L N|false=>Q (.exit id') F L N)|e=>Q e F L N) F L N
 | .loop c,al,A,Q,F,L,N=>(match CW A c 0 with
   |none=>(match Jg A c 6 with
    |some k=>unr (λQ F L N=>vc X I n raw c al A Q F L N) Q k F L N
    |none=> .stuck 800000)
   |some (.mk Y wit rk inv upd obs mu inner)=>(match cw al (iG F rk N F)with
    |true=> .both
     (exq (wit F L) λy=>uh n F L N rk (upd y) (obs y) (inv y) F L)
     (.all Y λx=>Co (inv x) (match cw (λq=>mem (asg c++iG F rk N F) q.1) (upd x)with
       |true=>vc X I n raw c (mem (asg c)) (inner x++A) (λe F1 L1 N1=>match e with| .normal=>exq (wit F1 L1) λy=>uh n F L N rk (upd y) (obs y) (inv y++[mu y<mu x]) F1 L1|e=>Q e F1 L1 N1) (jB F (upd x) (asg c++iG F rk N F)) (gW L (obs x)) (gr N rk)
       |false=> .stuck 500000))
    |false=> .stuck 600000))
 | .exit id,_,_,Q,F,L,N=>Q (.exit id) F L N
 | .ret,_,_,Q,F,L,N=>Q .ret F L N
 | .scope c,al,A,Q,F,L,N=>vc X I n raw c al A (λe F L N=>match e with| .goto _=> .stuck 910001|e=>Q e F L N) F L N
 | .label _,_,_,Q,F,L,N=>Q .normal F L N
 |_,_,_,_,_,_,_=> .stuck 900000
def eN.mono{n:Nat}{S T:Nat->Prop}{F:Frm}{L:aJ}{FA:List AV}{LA:Sto}{G H:Frm->aJ->Prop}(hS:∀d,S d->T d)(hG:∀F L,F.ok->G F L->H F L)(h:eN n S F L FA LA G):eN n T F L FA LA H:=by obtain⟨F',L',a,b,c,d,e,f⟩:=h;exact⟨F',L',a,b,c,d.mono hS,e,hG F' L' c f⟩
def least{p:Nat->Prop}(h:∃k,p k):∃k,p k/\∀j,p j->k<=j:=by
 obtain⟨k,hk⟩:=h;induction k using Nat.strongRecOn with
 |ind k ih=>
  grind
def FQ{F upd:Frm}{hav:List Nat}:Pre (λd=>d∈upd.map (·.1)\/d∈hav) F (jB F upd hav):=by refine⟨upd++(hav.map λd=>(d,SV.any)),by unfold jB;simp,λq hq=> ?_⟩;grind
def zQ{L:aJ}{obs:List (Nat×SOb)}:eC L (gW L obs):=⟨_,rfl⟩
def Gd{F upd:Frm}{hav:List Nat}(hF:F.ok)(hu:∀q∈upd,q.2.ok):(jB F upd hav).ok:=by
 intro t;unfold jB;rw[Frm.lw,Frm.lw];split
 .split
  .rename_i h;exact hu _ (rU h)
  .rw[KA];split<;>trivial
 .exact hF t
def IL{n:Nat}{F':Frm}:∀{upd:Frm} {ps:List Prop} {r:Rm},ri n F' upd=some (ps,r)->∀q∈upd,q.2.ok
 |[],ps,r,_,q,hq=>by cases hq
 |(d,v)::upd,ps,r,h,q,hq=>by
  unfold ri at h;split at h<;>cases h;rename_i p1 m1 p2 m2 h1 h2 h3 h4;rcases bh.1 hq with rfl|hq
  .exact SV.jt h2
  .exact IL h4 q hq
def A4{n:Nat}{F F' upd:Frm}{L L':aJ}{N N':Nat}{rk:List Nat}{obs:List (Nat×SOb)}{hav:List Nat}{qs:List Prop}(h:(uh n F L N rk upd obs qs F' L').holds)
  (hF:Pre (λd=>d∈hav) F F') (hbad:∀d∈iG F rk N F,d∈hav) (hL:eC L L'):
  cZ (F'.av n) L'.fn N' ((jB F upd hav).av n) (gW L obs).fn (gr N rk)/\(∀p∈qs,p)/\∀q∈upd,q.2.ok:=by
 unfold uh at h;split at h;rename_i pz F0 La hz;split at h;rename_i pb L0 hb;split at h;rename_i p0 F1 L1 h0;split at h
 .rename_i ps hc hm;have hp:=(jj h).1;obtain⟨⟨pa,ea1⟩,⟨qa,ea2⟩⟩:=zC h0;obtain⟨⟨pb',eb1⟩,⟨qb,eb2⟩⟩:=AK hz;obtain⟨qc,ec2⟩:=zS hb;obtain⟨p,e1⟩:∃p,F1=p++F':=by grind
  obtain⟨q,e2⟩:∃q,L1=q++L':=by grind
  have wz1:=zR (n:=n) (N:=N') hz λp hpp=>hp p (by grind);have wz2:=zA (n:=n) (N:=N') (F:=F0) hb λp hpp=>hp p (by grind);have wz:cZ (F'.av n) L'.fn N' (F0.av n) L0.fn N':=λC0 B wI a w hst=>wz2 C0 B wI a w (wz1 C0 B wI a w hst);have hp:∀p∈p0++(ps++qs),p:=λp hpp=>hp p (by grind);have hF1:Pre (λd=>d∈hav) F F1:=by
   obtain⟨pre,e3,hpre⟩:=hF;refine⟨p++pre,by grind,λr hr=> ?_⟩;rcases eK.1 hr with hr|hr
   .have:=dH hc r (by rw[e1,show(p++F').length-F'.length=p.length by simp,vC];exact hr);obtain⟨r',h1,h2⟩:=cF.1 ((mem_iff _ _).1 this);grind
   .grind
  have hL1:eC L L1:=by obtain⟨pre,e3⟩:=hL;exact⟨q++pre,by grind⟩
  have hps:∀p∈ps,p:=λp hpp=>hp p (by grind);refine⟨?_,λp hpp=>hp p (by grind),?_⟩
  .rcases yx (n:=n) h0 (λp hpp=>hp p (by grind)) N' with⟨_,f1,f2⟩|w
   .have:=FH (N':=N') hm hps hF1 hbad hL1;rw[f1,f2]at this;exact λC0 B wI a w' hst=>this C0 B wI a w' (wz C0 B wI a w' hst)
   .have:=FH (N':=NM) hm hps hF1 hbad hL1;exact λC0 B wI a w' hst=>this C0 B wI a w' (w C0 B wI a w' (wz C0 B wI a w' hst))
  unfold xP at hm;split at hm
  .cases hm
  .rename_i h1;exact IL h1
 .exact h.elim
def HD{X:Cx}(hX:X.Ok){n:Nat}{raw:Nat->Nat->Bool}{id:Nat}{ops:Array Oper}{draw:Bool}{F:Frm}{L:aJ}{N:Nat}{K:Frm->aJ->Fm}(hF:F.ok)(h:(CZ X n raw id ops.toList draw F L N K).holds):
  yD X.P draw ops.toList (F.av n) L.fn N λFA LA=>eN n (λd=>d∈asg (.region id ops draw)) F L FA LA λF' L'=>(K F' L').holds:=by
 have hd:∀o∈ops.toList,o.dst∈ops.toList.map (·.dst):=by grind
 have hS:∀d,some d∈ops.toList.map (·.dst)->d∈asg (.region id ops draw):=by intro d hd;obtain⟨o,ho,e⟩:=cF.1 hd;exact kF.2 ⟨o,ho,e⟩
 unfold CZ at h;split at h
 .split at h
  .rename_i h1 h2 h3;refine⟨_,h1,h2,by rw[Frm.eH];exact h3,?_⟩;refine eI ?_ (iM hX ops.toList 0 F L [] hd hF h);intro FA LA log ht;have hf:nf (pY ops.toList) log=true:=by
    obtain⟨_,_,_,_,_,_,_,hh⟩:=ht;split at hh
    .assumption
    .exact hh.elim
   refine⟨hf,ht.mono hS λF L _ hh=> ?_⟩;grind
  .exact h.elim
 .split at h
  .rename_i h1;exact⟨h1,eI (λ_ _ _ ht=>ht.mono hS λ_ _ _ h=>h) (iM hX ops.toList 0 F L [] hd hF h)⟩
  .exact h.elim
def wQ{X:Cx}(hX:X.Ok){I:Inls}(hI:rX X I.call){n:Nat}{raw:Nat->Bool}{ds:List (Option Nat)}{K:Frm->aJ->Nat->Fm}:∀(k:Nat) (ops:List Oper) (i:Nat) (F:Frm) (L:aJ) (N:Nat),(∀o∈ops,o.dst∈ds)->F.ok->(oA X I n raw ds k ops i F L N K).holds->
  kW X.P ds k ops i (F.av n) L.fn N λFA LA N'=>eN n (λd=>some d∈ds) F L FA LA λF' L'=>(K F' L' N').holds
 |0,ops,i,F,L,N,hd,hF,h=>iM hX ops i F L [] hd hF h
 |k+1,ops,i,F,L,N,hd,hF,h=>by
  unfold oA at h;split at h
  .rename_i pre o f args post hin;obtain⟨e1,e6⟩:=vS hin;have e2:=yo e6;obtain⟨c,e3,e4,e5⟩:=TY e6;refine .inr ⟨pre,o,post,e1,e2,eI ?_ (iM hX pre i F L [] (λo' ho=>hd o' (by rw[e1];exact f7 _ ho)) hF h)⟩;rintro FA LA log ⟨F',L',rfl,rfl,hF',hpre,hpreL,hh⟩;refine(hI f _ F' n L' _ _ o c (.func f) [] e3 e4 (.inr ⟨[],rfl,rfl⟩) ?_ hh).mono ?_
   .rw[e5,gC,gg,List.append_nil];exact lk λx _=>(eT x).symm
   .rintro FA LA N' ⟨r,L2,hr,rfl,rfl,hpl,hq⟩;have hg:=wQ hX hI k post (i+(pre.length+1)) _ _ _ (λo' ho=>hd o' (by rw[e1];exact fq _ (dK _ ho))) (nT hF' hr) hq;rw[iy];refine qO ?_ hg;intro FA LA N' ht;exact(ht.step (qT λt ht=>by rw[<-ht];exact hd o (by rw[e1];simp)) hpl).step hpre hpreL
  .rename_i pre o t args post hin;obtain⟨e1,e6⟩:=vS hin;have e2:=yo e6;obtain⟨c,e3,e4,e5⟩:=UP e6;refine .inr ⟨pre,o,post,e1,e2,eI ?_ (iM hX pre i F L [] (λo' ho=>hd o' (by rw[e1];exact f7 _ ho)) hF h)⟩;rintro FA LA log ⟨F',L',rfl,rfl,hF',hpre,hpreL,hh⟩;split at hh
   case h_2=>exact hh.elim
   rename_i f caps hf;refine(hI f _ F' n L' _ _ o c (.tmp t) (avs caps) e3 e4 (.inl ?_) ?_ hh).mono ?_
   .rw[<-eT,hf];rfl
   .rw[e5,lr];refine congrArg (λu=>u++avs caps) ?_;rw[gC,gg];exact lk λx _=>(eT x).symm
   .rintro FA LA N' ⟨r,L2,hr,rfl,rfl,hpl,hq⟩;have hg:=wQ hX hI k post (i+(pre.length+1)) _ _ _ (λo' ho=>hd o' (by rw[e1];exact fq _ (dK _ ho))) (nT hF' hr) hq;rw[iy];refine qO ?_ hg;intro FA LA N' ht;exact(ht.step (qT λt ht=>by rw[<-ht];exact hd o (by rw[e1];simp)) hpl).step hpre hpreL
  .rename_i pre o t x y post hin;obtain⟨e1,e6⟩:=vS hin;have e2:=yo e6;obtain⟨t',e3⟩:=UO e6;refine .inr ⟨pre,o,post,e1,e2,eI ?_ (iM hX pre i F L [] (λo' ho=>hd o' (by rw[e1];exact f7 _ ho)) hF h)⟩;rintro FA LA log ⟨F',L',rfl,rfl,hF',hpre,hpreL,hh⟩;split at hh
   case h_2=>exact hh.elim
   rename_i lt l hx hy ht;obtain⟨hh1,hh2⟩:=Fm.lq hh;have fin:∀r:SV,r.ok->(oA X I n raw ds k post (i+(pre.length+1)) (dv n F' o.dst r) L' (N+(i+pre.length)) K).holds->
     kW X.P ds k post (i+(pre.length+1)) (cJ (F'.av n) o.dst r.av) L'.fn (N+(i+pre.length)) λFA LA N'=>eN n (λd=>some d∈ds) F L FA LA λF' L'=>(K F' L' N').holds:=by
    intro r hr hq;have hg:=wQ hX hI k post (i+(pre.length+1)) _ _ _ (λo' ho=>hd o' (by rw[e1];exact fq _ (dK _ ho))) (nT hF' hr) hq;rw[iy];refine qO ?_ hg;intro FA LA N' ht;exact(ht.step (qT λt ht=>by rw[<-ht];exact hd o (by rw[e1];simp)) eC.rfl).step hpre hpreL
   refine WZ (m:=l.length) (cs:=lt.enc l) e3 ht (by rw[<-eT,hx];rfl) (by rw[<-eT,hy];rfl) (λhm _=> ?_) ?_
   .exact fin (.lit true) trivial ((hh1:l=[]->_) (ip.1 hm))
   .exact fin (.lit false) trivial hh2
  .exact .inl (iM hX ops i F L [] hd hF h)
def xd(X:Cx)(n:Nat)(H:kB)(r:Nat×Array Oper×Bool):Prop:=∀(F:Frm) (L:aJ) (N:Nat) (K:Frm->aJ->Nat->Fm) (f:Fm),H r.1 r.2.1.toList r.2.2 F L N K=some f->f.holds->F.ok->
 awp X.P (.region r.1 r.2.1 r.2.2) (λe FA LA N'=>e= .normal/\eN n (λd=>d∈asg (.region r.1 r.2.1 r.2.2)) F L FA LA λF' L'=>(K F' L' N').holds) (F.av n) L.fn N
def nk(X:Cx)(n:Nat)(H:kB)(c:Code):Prop:=∀r∈oD c,xd X n H r
def nF(X:Cx)(n:Nat)(c:Code):nk X n l8 c:=λ_ _ _ _ _ _ _ h=>by cases h
def zg{X:Cx}(hX:X.Ok){I:Inls}(hI:rX X I.call){n:Nat}{raw:Nat->Nat->Bool}:∀(c:Code),nk X n I.hook c->∀(al:Nat->Bool) (A:List (Nat×Ann)) (Q:jV) (F:Frm) (L:aJ) (N:Nat),(∀d∈asg c,al d=true)->F.ok->(vc X I n raw c al A Q F L N).holds->
  awp X.P c (λe FA LA N'=>eN n (λd=>al d=true) F L FA LA λF' L'=>(Q e F' L' N').holds) (F.av n) L.fn N:=by
 intro c;induction c with
 |skip=>intro hH al A Q F L N hal hF h;exact⟨F,L,rfl,rfl,hF,Pre.rfl,eC.rfl,h⟩
 |region id ops draw=>
  intro hH al A Q F L N hal hF h;unfold vc at h;split at h
  .rename_i f hf;have hS:∀d,d∈asg (.region id ops draw)->al d=true:=λd hd=>hal d hd;refine gw _ ?_ (hH _ (bM.2 rfl) F L N _ f hf h hF);rintro e FA LA N' ⟨rfl,ht⟩;exact ht.mono hS λ_ _ _ h=>h
  cases draw with
  |true=>
   have:=HD (draw:=true) hX hF h;left;obtain⟨anc,h1,h2,h3,h4⟩:=this;exact⟨anc,h1,h2,h3,eI (λF L log ⟨a,b⟩=>⟨a,b.mono hal λ_ _ _ h=>h⟩) h4⟩
  |false=>
  split at h
  .have hS:∀d,some d∈ops.toList.map (·.dst)->al d=true:=by intro d hd;obtain⟨o',ho,e⟩:=cF.1 hd;exact hal d (kF.2 ⟨o',ho,e⟩)
   refine .inr (.inl ⟨rfl,_,qO ?_ (wQ hX hI 6 ops.toList 0 F L N (by grind) hF h)⟩);intro FA LA N' ht;exact⟨_,_,_,cZ.rfl,ht.mono hS λ_ _ _ h=>h⟩
  .have:=HD (draw:=false) hX hF h;left;obtain⟨h1,h2⟩:=this;exact⟨h1,eI (λF L log b=>b.mono hal λ_ _ _ h=>h) h2⟩
 |seq a b iha ihb=>
  intro hH al A Q F L N hal hF h;have hala:∀d∈asg a,al d=true:=λd hd=>hal d (f7 _ hd);have halb:∀d∈asg b,al d=true:=λd hd=>hal d (fq _ hd);unfold vc at h;split at h
  .have h1:=iha (λr hr=>hH r (f7 _ hr)) al A _ F L N hala hF h;refine⟨λFA LA N'=>eN n (λd=>al d=true) F L FA LA λF' L'=>(vc X I n raw b al A Q F' L' N').holds,gw a ?_ h1,?_⟩
   .grind
   .rintro FA LA N' ⟨F',L',rfl,rfl,hF',hpre,hpreL,hh⟩;refine⟨_,_,_,cZ.rfl,gw b ?_ (ihb (λr hr=>hH r (fq _ hr)) al A Q F' L' N' halb hF' hh)⟩;intro e FA LA N' ht;exact ht.step hpre hpreL
  .rename_i Y wit rk inv upd obs mu inner hA;split at h
   case h_2=>exact h.elim
   rename_i hbad;have hbad:=dH hbad;obtain⟨h1,h2⟩:=Fm.lq h;have hmem:∀d,mem (asg a) d=true->d∈asg a:=λd=>(mem_iff d _).1;have h1:=iha (λr hr=>hH r (f7 _ hr)) (mem (asg a)) A _ F L N (λd hd=>(mem_iff _ _).2 hd) hF h1;refine Sy (λFA LA N'=>∃y,(∀p∈inv y,p)/\(∀q∈upd y,q.2.ok)/\FA=(jB F (upd y) (asg a++iG F rk N F)).av n/\LA=(gW L (obs y)).fn/\N'=gr N rk) (gw a ?_ h1) ?_
   .intro e FA LA N' ht;cases e
    case normal=>
     obtain⟨F',L',rfl,rfl,hF',hpre,hpreL,hh⟩:=ht;obtain⟨y,hh⟩:=zV hh;obtain⟨k1,k2,k3⟩:=A4 (N':=N') (hav:=asg a++iG F rk N F) hh (hpre.mono (by grind)) (by grind) hpreL;grind
    all_goals exact ht.mono (by grind) λ_ _ _ h=>h
   .rintro FA LA N' ⟨y,hy,hok,rfl,rfl,rfl⟩;have h2:=Eo ((h2:∀y:Y,Fm.holds _) y) hy;split at h2
    case h_2=>exact h2.elim
    rename_i hu;have hu:=dH hu;refine gw b ?_ (ihb (λr hr=>hH r (fq _ hr)) al (inner y++A) Q _ _ _ halb (Gd hF hok) h2);intro e FA LA N' ht;refine ht.step (FQ.mono ?_) zQ;rintro d (hd|hd)
    .obtain⟨q,hq,rfl⟩:=cF.1 hd;rcases eK.1 ((mem_iff _ _).1 (hu q hq))with hd|hd
     .grind
     grind
    grind
 |cond c t e iht ihe=>
  intro hH al A Q F L N hal hF h;have halt:∀d∈asg t,al d=true:=λd hd=>hal d (f7 _ hd);have hale:∀d∈asg e,al d=true:=λd hd=>hal d (fq _ hd);unfold vc at h;have ev:∀v,cA n F c=v->dC (F.av n) c=v.av:=λv hv=>by rw[<-eT,hv]
  split at h
  .rename_i hc;exact⟨true,ev _ hc,λ_=>iht (λr hr=>hH r (f7 _ hr)) al A Q F L N halt hF h,λhh=>by cases hh⟩
  .rename_i hc;exact⟨false,ev _ hc,(λhh=>by cases hh),λ_=>ihe (λr hr=>hH r (fq _ hr)) al A Q F L N hale hF h⟩
  .rename_i p d hc;obtain⟨h1,h2⟩:=Fm.lq h;refine⟨@decide p d,ev _ hc,λhh=>iht (λr hr=>hH r (f7 _ hr)) al A Q F L N halt hF ((h1:p->_) (by grind)),λhh=>ihe (λr hr=>hH r (fq _ hr)) al A Q F L N hale hF ((h2:¬p->_) (by grind))⟩
  .rename_i b hc;obtain⟨h1,h2⟩:=Fm.lq h;exact⟨b,ev _ hc,λhh=>iht (λr hr=>hH r (f7 _ hr)) al A Q F L N halt hF ((h1:b=true->_) hh),λhh=>ihe (λr hr=>hH r (fq _ hr)) al A Q F L N hale hF ((h2:b=false->_) hh)⟩
  .exact h.elim
 |block id c ih=>
  intro hH al A Q F L N hal hF h;have:=ih hH al A _ F L N hal hF h;refine gw c ?_ this;intro e FA LA N' ht;cases e
  case exit id'=>
   dsimp only at ht|-;cases hb:ae id' id with
   |true=>
    simp_all
   |false=>
    rw[if_neg (f9 hb)];grind
  all_goals exact ht
 |loop c ih=>
  intro hH al A Q F L N hal hF h;unfold vc at h;split at h
  .split at h
   case h_2=>exact h.elim
   rename_i k0 _
   let rep:Nat->List AV->Sto->Nat->Prop:=λk FA LA N'=>eN n (λd=>al d=true) F L FA LA λF' L'=>(unr (λQ F L N=>vc X I n raw c al A Q F L N) Q k F' L' N').holds
   have hmu:∃μ:List AV->Sto->Nat->Nat,∀FA LA N',(∃k,rep k FA LA N')->rep (μ FA LA N') FA LA N'/\∀k,rep k FA LA N'->μ FA LA N'<=k:=by
    have:∀FA LA N',∃k,(∃k,rep k FA LA N')->rep k FA LA N'/\∀j,rep j FA LA N'->k<=j:=by
     intro FA LA N';by_cases hh:∃k,rep k FA LA N'
     .obtain⟨k,h1,h2⟩:=least hh;exact⟨k,by grind⟩
     .simp_all
    exact⟨λFA LA N'=>Classical.choose (this FA LA N'),λFA LA N'=>Rp (this FA LA N')⟩
   obtain⟨μ,hμ⟩:=hmu;refine Fg (λFA LA N'=>∃k,rep k FA LA N') μ ⟨_,_,_,cZ.rfl,k0,⟨F,L,rfl,rfl,hF,Pre.rfl,eC.rfl,h⟩⟩ ?_;intro FA LA N' hr;have hk:=(hμ FA LA N' hr).1;generalize hkk:μ FA LA N'=k at hk|-;obtain⟨F',L',rfl,rfl,hF',hpre,hpreL,hh⟩:=hk;cases k with
   |zero=>exact hh.elim
   |succ k=>
    refine gw c ?_ (ih hH al A _ F' L' N' hal hF' hh);intro e FA LA N2 ht;have ht:=ht.step hpre hpreL;cases e
    case normal=>
     have hr2:rep k FA LA N2:=ht;exact⟨_,_,_,cZ.rfl,⟨k,hr2⟩,Nat.lt_succ_of_le ((hμ _ _ _ ⟨k,hr2⟩).2 k hr2)⟩
    all_goals exact ht
  rename_i Y wit rk inv upd obs mu inner hA;split at h
  case h_2=>exact h.elim
  rename_i hbad;have hbad:=dH hbad;obtain⟨h1,h2⟩:=Fm.lq h;obtain⟨y0,h1⟩:=zV h1;have hmem:∀d,mem (asg c) d=true->d∈asg c:=λd=>(mem_iff d _).1
  let hav:=asg c++iG F rk N F
  let rep:Y->List AV->Sto->Prop:=λy FA LA=>(∀p∈inv y,p)/\(∀q∈upd y,q.2.ok)/\FA=(jB F (upd y) hav).av n/\LA=(gW L (obs y)).fn
  obtain⟨k1,k2,k3⟩:=A4 (N':=N) (hav:=hav) h1 Pre.rfl (by grind) eC.rfl;have hmu:∃μ:List AV->Sto->Nat,∀FA LA,(∃y,rep y FA LA)->∃y,rep y FA LA/\mu y=μ FA LA/\∀z,rep z FA LA->μ FA LA<=mu z:=by
   have:∀FA LA,∃k,(∃y,rep y FA LA)->∃y,rep y FA LA/\mu y=k/\∀z,rep z FA LA->k<=mu z:=by
    intro FA LA;by_cases hh:∃y,rep y FA LA
    .obtain⟨y,hy⟩:=hh;obtain⟨k,⟨z,hz,e⟩,hk⟩:=least (p:=λk=>∃y,rep y FA LA/\mu y=k) ⟨_,y,hy,rfl⟩;exact⟨k,by grind⟩
    .exact⟨0,by grind⟩
   exact⟨λFA LA=>Classical.choose (this FA LA),λFA LA=>Rp (this FA LA)⟩
  obtain⟨μ,hμ⟩:=hmu;refine XK (λFA LA N'=>(∃y,rep y FA LA)/\N'=gr N rk) μ (by grind) ?_;rintro FA LA N' ⟨hr,rfl⟩;obtain⟨x,⟨hx,hok,rfl,rfl⟩,hmx,_⟩:=hμ FA LA hr;have h2:=Eo ((h2:∀x:Y,Fm.holds _) x) hx;split at h2
  case h_2=>exact h2.elim
  rename_i hu;have hu:=dH hu;have hpre0:Pre (λd=>d∈hav) F (jB F (upd x) hav):=by
   refine FQ.mono ?_;rintro d (hd|hd)
   .obtain⟨q,hq,rfl⟩:=cF.1 hd;exact(mem_iff _ _).1 (hu q hq)
   .exact hd
  refine gw c ?_ (ih hH (mem (asg c)) (inner x++A) _ _ _ _ (λd hd=>(mem_iff _ _).2 hd) (Gd hF hok) h2);intro e FA' LA' N' ht;have up:∀(G:Frm->aJ->Prop),eN n (λd=>mem (asg c) d=true) (jB F (upd x) hav) (gW L (obs x)) FA' LA' G->eN n (λd=>al d=true) F L FA' LA' G:=by
   intro G ht;refine(ht.mono (λd hd=>hal d (hmem d hd)) λ_ _ _ h=>h).step (hpre0.mono ?_) zQ;intro d hd;rcases eK.1 hd with hd|hd
   .exact hal d hd
   .grind
  cases e
  case normal=>
   obtain⟨F',L',rfl,rfl,hF',hpre,hpreL,hh⟩:=ht;obtain⟨y,hh⟩:=zV hh;obtain⟨k1,k2,k3⟩:=A4 (N':=N') (hav:=hav) hh (hpre0.trans (hpre.mono (by grind))) (by grind) (zQ.trans hpreL);have hry:rep y ((jB F (upd y) hav).av n) (gW L (obs y)).fn:=⟨λp h=>k2 p (by grind),k3,rfl,rfl⟩;refine⟨_,_,_,k1,by grind,?_⟩;obtain⟨z,_,ez,hz⟩:=hμ _ _ ⟨y,hry⟩;have g1:=hz y hry;have g2:mu y<mu x:=k2 _ (by grind);omega
  all_goals exact up _ ht
 |exit id=>intro hH al A Q F L N hal hF h;exact⟨F,L,rfl,rfl,hF,Pre.rfl,eC.rfl,h⟩
 |ret=>intro hH al A Q F L N hal hF h;exact⟨F,L,rfl,rfl,hF,Pre.rfl,eC.rfl,h⟩
 |rangeFunc f params x y _ _=>intro hH al A Q F L N hal hF h;exact h.elim
 |scope c ih=>
  intro hH al A Q F L N hal hF h;refine gw c ?_ (ih hH al A _ F L N hal hF h);intro e FA LA N' ht;cases e<;>first|exact ht|(obtain⟨_,_,_,_,_,_,_,hh⟩:=ht;exact hh.elim)
 |label l=>intro hH al A Q F L N hal hF h;exact⟨F,L,rfl,rfl,hF,Pre.rfl,eC.rfl,h⟩
 |goto l=>intro hH al A Q F L N hal hF h;exact h.elim
 |refuse s=>intro hH al A Q F L N hal hF h;exact h.elim
end
noncomputable section
def j4(P:Program)(n:Nat)(F:Frm)(σ:Sg):List ResultVar->Option (List SV)
 |[] =>some []
 | .tmp t::rs=>(match dG t n,j4 P n F σ rs with|true,some l=>some (F.at t::l)|_,_=>none)
 | .cell a t::rs=>(match dG a n,F.at a,j4 P n F σ rs with
   |true,.ptr s off,some l=>(match σ s with
    |some (.box _ cs)=>(match lL P t cs off with|some r=>some (r::l)|none=>none)
    |some (.arr _ _ cs)=>(match lL P t cs off with|some r=>some (r::l)|none=>none)
    |_=>none)
   |_,_,_=>none)
def kr{P:Program}{n:Nat}{F:Frm}{σ:Sg}:∀{rs:List ResultVar} {l:List SV} {K:List AV->Prop},j4 P n F σ rs=some l->K (avs l)->fV P rs (F.av n) σ.a K
 |[],l,K,h,hK=>by cases h;exact hK
 | .tmp t::rs,l,K,h,hK=>by
   unfold j4 at h;split at h<;>cases h;rename_i l' h1 h2;unfold fV;refine kr h2 ?_;rw[Frm.fi ((dc _ _).1 h1)];exact hK
 | .cell a t::rs,l,K,h,hK=>by
   unfold j4 at h;split at h
   case h_2=>cases h
   rename_i s off l' h1 h2 h3;unfold fV;rw[Frm.fi ((dc _ _).1 h1),h2];split at h
   .rename_i ty cs hs;split at h<;>cases h;rename_i r hr;exact⟨_,by rw[Sg.bW,hs];rfl,nL hr (kr h3 hK)⟩
   .rename_i ty ez cs hs;split at h<;>cases h;rename_i r hr;exact⟨_,by rw[Sg.bW,hs];rfl,nL hr (kr h3 hK)⟩
   .cases h
def lO:List SV->SV
 |[x] =>x
 |l=> .tup l
def x6(P:Program)(n:Nat)(rs:List ResultVar)(r:SV)(F:Frm)(L:aJ):Fm:=match j4 P n F L.at rs with
 |some l=>(match gI (fD 3 L.at) l with
  |some (ps,m)=>(match eqv 3 r (lO m)with
   |some (qs,[])=>needs (ps++qs) .tt
   |_=> .stuck 920000)
  |none=> .stuck 930000)
 |none=> .stuck 940000
def xk(P:Program)(n:Nat)(rs:List ResultVar)(r:SV):jV:=λe F L _=>match e with
 | .normal=>x6 P n rs r F L
 | .ret=>x6 P n rs r F L
 |_=> .stuck 910000
def Ag{P:Program}{n:Nat}{rs:List ResultVar}{r:SV}{q:PV}(hr:r.av= .p q){e:Exit}{F:Frm}{L:aJ}{N:Nat}(h:(xk P n rs r e F L N).holds):ra P rs q e (F.av n) L.fn N:=by
 have key:(x6 P n rs r F L).holds->fV P rs (F.av n) L.fn λl=>∃m,cM (cq 3 L.fn) l=some m/\jX m=q:=by
  intro h;unfold x6 at h;split at h
  case h_2=>exact h.elim
  rename_i l hl;split at h
  case h_2=>exact h.elim
  rename_i ps m hm;split at h
  case h_2=>exact h.elim
  rename_i qs he;have hp:=(jj h).1;have e2:Sg.a L.at=L.fn:=rfl;rw[<-e2];refine kr hl ?_;obtain⟨u,h1,h2⟩:=qh (λx ps y=>si) hm (λp hpp=>hp p (by grind));refine⟨u,h1,?_⟩;have h3:=qk (m:=λ_=>none) 3 r (lO m) qs [] he (λp hpp=>hp p (by grind)) (λq hq=>by cases hq);rw[hr]at h3;unfold dW at h3;have h4:(lO m).av= .p (jX u):=by
   cases m with
   |nil=>
    have:u=[] :=by have:=congrArg fg h2;simp[avs]at this;grind
    subst this;rfl
   |cons x m=>
    cases m with
    |nil=>
     cases u with
     |nil=>simp[avs]at h2
     |cons y u=>
      have h5:u=[] :=by have:=congrArg fg h2;simp only[avs,cV,List.length_cons,List.length_nil,eB]at this;grind
      subst h5;simp only[avs,cV,lc,mb,and_true]at h2;exact h2
    |cons y m=>
     have h5:(lO (x::y::m)).av=gq (avs (x::y::m)):=rfl;rw[h5,h2];unfold gq;rw[cW];cases u with
     |nil=>simp[avs]at h2
     |cons a u=>
      cases u with
      |nil=>simp[avs]at h2
      |cons b u=>rfl
  rw[h4]at h3;cases h3;rfl
 cases e<;>first|exact h.elim|exact key h
structure Ar(α:Type) where
 enc:α->SV
 dec:SV->Option α
 ok:∀s a,dec s=some a->s.av=(enc a).av
 pl:∀a,∃q,(enc a).av= .p q
structure Arl(α:Type) where
 enc:α->List SV
 dec:List SV->Option α
 ok:∀s a,dec s=some a->avs s=avs (enc a)
 pl:∀a,∃q:List PV,avs (enc a)=q.map .p
def a0:Arl Unit:=⟨λ_=>[],λl=>match l with|[] =>some ()|_=>none,by grind,λ_=>⟨[],rfl⟩⟩
def a1{α:Type}(A:Ar α):Arl α:=⟨λa=>[A.enc a],λl=>match l with|[x] =>A.dec x|_=>none,λs a h=>by
  match s,h with
  |[x],h=>simp only[avs,A.ok x a h],
 λa=>by obtain⟨q,h⟩:=A.pl a;exact⟨[q],by simp only[avs,h,cV,lc]⟩⟩
def ac{α β:Type}(A:Ar α)(B:Arl β):Arl (α×β):=⟨λa=>A.enc a.1::B.enc a.2,λl=>match l with
  |x::r=>(match A.dec x,B.dec r with|some a,some b=>some (a,b)|_,_=>none)
  |_=>none,λs a h=>by
  match s,h with
  |x::r,h=>
   dsimp only at h;split at h<;>cases h;rename_i a b h1 h2;simp only[avs,A.ok x a h1,B.ok r b h2],
 λa=>by obtain⟨q,h⟩:=A.pl a.1;obtain⟨r,k⟩:=B.pl a.2;exact⟨q::r,by simp only[avs,h,k,cV]⟩⟩
def aI:Ar Int:=⟨λn=> .int .i64 n,λs=>match s with| .int .i64 n=>some n|_=>none,by grind,λ_=>⟨_,rfl⟩⟩
def aN:Ar Nat:=⟨λn=> .int .i64 (n:Int),λs=>match s with| .int .i64 (.ofNat n)=>some n|_=>none,λ_ _ h=>by
 (split at h<;>cases h;rfl),λ_=>⟨_,rfl⟩⟩
def aB:Ar Bool:=⟨λb=> .bool b,uU,λ_ _ h=>tE h,λ_=>⟨_,rfl⟩⟩
def aV:Ar V:=⟨λv=> .agg [.int .i64 v.x,.int .i64 v.y],λs=>match s with| .agg [.int .i64 x,.int .i64 y] =>some ⟨x,y⟩|_=>none,by grind,λ_=>⟨_,rfl⟩⟩
def aS:Ar Geo.S:=⟨λs=> .agg [.int .i64 s.a.x,.int .i64 s.a.y,.int .i64 s.b.x,.int .i64 s.b.y],λs=>match s with| .agg [.int .i64 x,.int .i64 y,.int .i64 z,.int .i64 w] =>some ⟨⟨x,y⟩,⟨z,w⟩⟩|_=>none,by grind,λ_=>⟨_,rfl⟩⟩
def aT:Ar Pt:=⟨λp=> .agg [.int .i64 p.x,.int .i64 p.y,.int .i64 p.den],λs=>match s with| .agg [.int .i64 x,.int .i64 y,.int .i64 z] =>some ⟨x,y,z⟩|_=>none,by grind,λ_=>⟨_,rfl⟩⟩
def iR(t:LT)(s:SV):Option (List t.ty):=match s with
 | .lst t' l=>(match decEq t' t with| .isTrue h=>some (h▸l)| .isFalse _=>none)
 | .sl 0 [] =>some []
 | .sl n cs=>t.decs n cs
 |_=>none
def i7{t:LT}{s:SV}{l:List t.ty}(h:iR t s=some l):s.av= .p (.sl l.length (t.enc l)):=by
 unfold iR at h;split at h
 .split at h
  .rename_i e _;subst e;cases h;rfl
  .cases h
 .cases h;rfl
 .rename_i n cs _;obtain⟨e1,e2⟩:=LT.pO h;show(match bJ (avs cs)with|some q=>AV.p (.sl n q)|none=> .any)=_;rw[e2,cW,e1]
 .cases h
def aL(t:LT):Ar (List t.ty):=⟨λl=> .lst t l,iR t,λ_ _ h=>i7 h,λ_=>⟨_,rfl⟩⟩
def shD(s:SV):Option Shape:=match s with
 | .agg [r,h] =>(match iR .V r,iR .R h with|some o,some hs=>some ⟨o,hs⟩|_,_=>none)
 |_=>none
def Y6(s:SV)(a:Shape)(h:shD s=some a):s.av=(SV.agg [.lst .V a.outer,.lst .R a.holes]).av:=by
 unfold shD at h;split at h
 .split at h<;>cases h;rename_i o hs h1 h2;simp only[SV.av,avs,i7 h1,i7 h2]
 .cases h
def aSh:Ar Shape:=⟨λs=> .agg [.lst .V s.outer,.lst .R s.holes],shD,Y6,λ_=>⟨_,rfl⟩⟩
noncomputable def con{α:Type}(A:Arl α)(pre:α->List Prop)(res:α->SV):Con:=⟨α,A.dec,pre,.val false res⟩
def j9(l:List SV):Nat->Frm
 |k=>match l with
  |[] =>[]
  |x::l=>(k,x)::j9 l (k+1)
def BD:∀(l:List SV) (k t:Nat),(j9 l k).at t=if k<=t then(match l[t-k]? with|some x=>x|none=> .undef)else .undef
 |[],k,t=>by simp[j9,Frm.at]
 |x::l,k,t=>by
  unfold j9;rw[Frm.cd,BD l (k+1) t];grind
def AU{l:List SV}{n:Nat}(hn:l.length<=n):(j9 l 0).av n=avs l++bS (n-(avs l).length) .undef:=by
 apply List.ext_getElem?;intro i;unfold Frm.av;rw[List.getElem?_map];by_cases hi:i<n
 .rw[List.getElem?_range hi,dn,BD,if_pos (cO _),Nat.sub_zero];by_cases h2:i<l.length
  .rw[List.getElem?_append_left (by rw[fh];exact h2),qo,dA h2];rfl
  .rw[List.getElem?_append_right (by rw[fh];omega),List.getElem?_replicate,eQ (by omega),fh,if_pos (by omega)];rfl
 .rw[eQ (by simp;omega),eQ (by simp[fh];omega)];rfl
def wc{args:List SV}(hpe:∀v∈args,v.ape=false):(j9 args 0).ok:=by
 intro t;rw[BD,if_pos (cO _)];split
 .rename_i x hx;exact SV.jt (by grind)
 .trivial
def Jh:aJ.fn [] =λ_=>none:=by
 funext s
 rcases gR s with⟨x,rfl⟩|⟨x,a,rfl⟩|hno
 .exact Sg.bW _ x
 .exact Sg.co _ x a
 .exact Sg.fp _ hno
def au:Nat->Nat->Bool:=λ_ _=>false
structure InD:Type 1 where
 hook:kB
 raw:Nat->Nat->Bool
 ann:List SV->aJ->List (Nat×Ann)
def noD:Nat->InD:=λ_=>⟨l8,au,λ_ _=>[]⟩
def n8(X:Cx)(D:Nat->InD):Prop:=∀(f:Nat) (fn:Func) (c:Code),X.P.funcs[f]? =some fn->fn.body=some c->nk X fn.ntmps (D f).hook c
def JR(X:Cx):n8 X noD:=λ_ _ _ _ _=>nF _ _ _
def xw(X:Cx)(D:Nat->InD)(J:Inl):Inl:=λf xs F n L N K=>match fy X.P f,X.P.funcs[f]?,L.at 0 with
 |true,some fn,some (.box 0 (.undef::S))=>(match fn.body with
  |some c=>(match iV xs.length fn.ntmps,cw (λv:SV=>match v.ape with|true=>false|false=>true) xs with
   |true,true=>
    let fin:Frm->aJ->Nat->Fm:=λF' L' N'=>match cw (λq:Nat×Option SOb=>match ae q.1 0 with|true=>false|false=>true) (L'.take (L'.length-(L.length+1)))with
     |true=>(match j4 X.P fn.ntmps F' L'.at fn.results.toList with
      |some [] =>K .undef (L'.take (L'.length-(L.length+1))++L) N'
      |some [r] =>(match r.ape with|false=>K r (L'.take (L'.length-(L.length+1))++L) N'|true=> .stuck 991001)
      |_=> .stuck 991002)
     |false=> .stuck 991003
    vc X ⟨J,(D f).hook⟩ fn.ntmps (D f).raw c (λ_=>true) ((D f).ann xs L) (λe F' L' N'=>match e with
     | .normal=>fin F' L' N'
     | .ret=>fin F' L' N'
     |_=> .stuck 991004) (j9 xs 0) ((0,some (.box 0 (.undef::(S++(bO n).map F.at))))::L) N
   |_,_=> .stuck 991005)
  |none=> .stuck 991006)
 |_,_,_=> .stuck 991007
def G3{L:aJ}{pre:aJ}{s:Nat}(h:∀q∈pre,q.1≠s):aJ.at (pre++L) s=L.at s:=by
 induction pre with
 |nil=>rfl
 |cons q pre ih=>
  obtain⟨k,x⟩:=q;have hk:ae s k=false:=by
   cases hb:ae s k with
   |false=>rfl
   |true=>simp_all
  show(match ae s k with|true=>x|false=>aJ.at (pre++L) s)=_;grind
def D2{A B:aJ}{y:Nat}(h:aJ.at A y=aJ.at B y):∀pre:aJ,aJ.at (pre++A) y=aJ.at (pre++B) y
 |[] =>h
 |(k,x)::pre=>by
  show(match ae y k with|true=>x|false=>aJ.at (pre++A) y)=(match ae y k with|true=>x|false=>aJ.at (pre++B) y);rw[D2 h pre]
def HG{L:aJ}{cs T:List SV}(hL:L.at 0=some (.box 0 cs)):aJ.fn ((0,some (.box 0 T))::L)=aX L.fn [(du,some ⟨0,0,avs T⟩)] :=by have h:=(bI.flat (σ:=L.at) (rd:=[]) (W:=[(0,some (.box 0 T))]) λq hq=>by rw[bM.1 hq,hL];exact⟨rfl,rfl⟩).2.2;rw[aJ.pd]at h;have e:aD 0=du:=vU (by unfold NM;omega);unfold aJ.fn;rw[show aJ.at ((0,some (.box 0 T))::L)=aJ.at ([(0,some (SOb.box 0 T))] ++L)from rfl,<-h,<-e];rfl
def JD{L:aJ}{cs:List SV}(hL:L.at 0=some (.box 0 cs)):L.fn du=some ⟨0,0,avs cs⟩:=by have e:aD 0=du:=vU (by unfold NM;omega);rw[<-e];show Sg.a L.at (aD 0)=_;rw[Sg.bW,hL];rfl
def Vj(F:Frm)(n:Nat):avs ((bO n).map F.at)=F.av n:=by rw[gC,gg];rfl
def IB{X:Cx}(hX:X.Ok){D:Nat->InD}(hD:n8 X D){J:Inl}(hJ:rX X J):rX X (xw X D J):=by
 intro f xs F n L N K o c fo caps ho hc hclo hargs h;unfold xw at h;split at h
 case h_2=>exact h.elim
 rename_i fn S hok hf hL;split at h
 case h_2=>exact h.elim
 rename_i body hb;split at h
 case h_2=>exact h.elim
 rename_i hn hpe;have hn:=jJ hn;have hpe:∀v∈xs,v.ape=false:=λv hv=>by have:=dH hpe v hv;grind
 have hw:=zg hX (I:=⟨J,(D f).hook⟩) hJ body (hD f fn body hf hb) (λ_=>true) _ _ _ _ N (λ_ _=>rfl) (wc hpe) h;rw[AU hn,HG hL]at hw;have hT:avs (.undef::(S++(bO n).map F.at))= .undef::(avs S++F.av n):=by rw[XU,lr,Vj];rfl
 rw[hT]at hw;refine Wp (fid:=f) (A:=avs xs) (S:=avs S) (f:=fo) ho hc hclo hargs hok hf hb (by rw[JD hL];rfl) (gw body ?_ hw);rintro e FA LA N' ⟨F',L',rfl,rfl,hF',hpre,⟨pre,hpl⟩,hh⟩;have fin:(match cw (λq:Nat×Option SOb=>match ae q.1 0 with|true=>false|false=>true) (L'.take (L'.length-(L.length+1)))with
    |true=>(match j4 X.P fn.ntmps F' L'.at fn.results.toList with
     |some [] =>K .undef (L'.take (L'.length-(L.length+1))++L) N'
     |some [r] =>(match r.ape with|false=>K r (L'.take (L'.length-(L.length+1))++L) N'|true=> .stuck 991001)
     |_=> .stuck 991002)
    |false=> .stuck 991003).holds->
   fV X.P fn.results.toList (F'.av fn.ntmps) L'.fn λl=>∃S2 F2,L'.fn du=some ⟨0,0,.undef::(S2++F2)⟩/\S2.length=(avs S).length/\F2.length=(F.av n).length/\
    (λFA LA N'=>∃r L2,r.ok/\FA=cJ (F.av n) o.dst r.av/\LA=aJ.fn L2/\eC L L2/\(K r L2 N').holds) (cJ F2 o.dst (oE l)) (aX L'.fn [(du,some ⟨0,0,.undef::S2⟩)]) N':=by
  intro hh;split at hh
  case h_2=>exact hh.elim
  rename_i h0;have hat:L'.at 0=some (.box 0 (.undef::(S++(bO n).map F.at))):=by rw[hpl];have h1:=dH h0;rw[hpl,show(pre++(0,some (SOb.box 0 (.undef::(S++(bO n).map F.at))))::L).length-(L.length+1)=pre.length by simp,vC]at h1;rw[G3 λq hq e=>by have:=h1 q hq;simp_all];rfl
  have hst:L'.fn du=some ⟨0,0,.undef::(avs S++F.av n)⟩:=by rw[JD hat,hT]
  have hL2:aJ.fn ((0,some (.box 0 (.undef::S)))::L')=aX L'.fn [(du,some ⟨0,0,.undef::avs S⟩)] :=HG hat;have hpl2:eC L (L'.take (L'.length-(L.length+1))++L):=⟨_,rfl⟩;have hL3:aJ.fn (L'.take (L'.length-(L.length+1))++L)=aX L'.fn [(du,some ⟨0,0,.undef::avs S⟩)] :=by
   rw[<-hL2];refine congrArg Sg.a ?_
   funext y
   by_cases hy:y=0
   .subst hy;rw[G3 (λq hq e=>by have:=dH h0 q hq;rw[e]at this;cases this)];exact hL
   .have e1:aJ.at ((0,some (.box 0 (.undef::S)))::L') y=aJ.at L' y:=by show(match ae y 0 with|true=>_|false=>_)=_;rw[show ae y 0=false from by cases hb:ae y 0 with|false=>rfl|true=>exact absurd (bp hb) hy]
    rw[e1];have e2:L'=L'.take (L'.length-(L.length+1))++((0,some (.box 0 (.undef::(S++(bO n).map F.at))))::L):=by
     conv=>lhs;rw[hpl]
     rw[hpl,show(pre++(0,some (SOb.box 0 (.undef::(S++(bO n).map F.at))))::L).length-(L.length+1)=pre.length by simp,vC]
    conv=>rhs;rw[e2]
    refine D2 ?_ _;show aJ.at L y=(match ae y 0 with|true=>_|false=>aJ.at L y);rw[show ae y 0=false from by cases hb:ae y 0 with|false=>rfl|true=>exact absurd (bp hb) hy]
  split at hh
  .rename_i hr;exact kr hr ⟨avs S,F.av n,hst,rfl,rfl,.undef,_,trivial,rfl,hL3.symm,hpl2,hh⟩
  .rename_i r hr;split at hh
   .rename_i hrp;exact kr hr ⟨avs S,F.av n,hst,rfl,rfl,r,_,SV.jt hrp,rfl,hL3.symm,hpl2,hh⟩
   .exact hh.elim
  .exact hh.elim
 cases e<;>first|exact fin hh|exact hh.elim
def Cm(X:Cx)(D:Nat->InD):Inl:=xw X D (xw X D xM)
def YL{X:Cx}(hX:X.Ok){D:Nat->InD}(hD:n8 X D):rX X (Cm X D):=IB hX hD (IB hX hD (GL X))
def q8(X:Cx)(D:Nat->InD)(H:kB)(st:Bool)(raw:Nat->Nat->Bool)(f:Nat)(ann:List (Nat×Ann))(args:List SV)(post:Nat->List ResultVar->jV):Fm:=match fy X.P f,X.P.funcs[f]? with
 |true,some fn=>(match fn.body with
  |some c=>(match iV args.length fn.ntmps,cw (λv=>match v.ape with|true=>false|false=>true) args with
   |true,true=>(match st with
    |false=>vc X ⟨xM,H⟩ fn.ntmps raw c (λ_=>true) ann (post fn.ntmps fn.results.toList) (j9 args 0) [] 0
    |true=>vc X ⟨Cm X D,H⟩ fn.ntmps raw c (λ_=>true) ann (post fn.ntmps fn.results.toList) (j9 args 0) [(0,some (.box 0 [.undef]))] 1)
   |_,_=> .stuck 950000)
  |none=> .stuck 960000)
 |_,_=> .stuck 970000
def Bs(X:Cx)(st:Bool)(raw:Nat->Nat->Bool)(f:Nat)(ann:List (Nat×Ann))(args:List SV)(post:Nat->List ResultVar->jV):Fm:=q8 X noD l8 st raw f ann args post
def KD(X:Cx)(raw:Nat->Nat->Bool)(f:Nat)(ann:List (Nat×Ann))(args:List SV)(post:Nat->List ResultVar->jV):Fm:=Bs X false raw f ann args post
def NK(X:Cx)(raw:Nat->Nat->Bool)(f:Nat)(ann:List (Nat×Ann))(args:List SV)(r:SV):Fm:=KD X raw f ann args λn rs=>xk X.P n rs r
def Ze:aJ.fn [(0,some (.box 0 [.undef]))] =uY:=by
 have e:aD 0=du:=vU (by unfold NM;omega)
 funext s
 unfold uY;rcases gR s with⟨x,rfl⟩|⟨x,a,rfl⟩|hno
 .show Sg.a _ (aD x)=_;rw[Sg.bW];by_cases hx:x=0
  .subst hx;rw[if_pos e];rfl
  .rw[if_neg (λh=>hx (eL (h.trans e.symm)))];show Option.map _ (match ae x 0 with|true=>_|false=>none)=none;cases hb:ae x 0 with
   |true=>simp_all
   |false=>rfl
 .show Sg.a _ (inn x (a+1))=_;rw[Sg.co,if_neg (λh=>by have h:inn x (a+1)=aD 0:=h.trans e.symm;have:=(cI h).2;omega)];show Option.bind (match ae x 0 with|true=>_|false=>none) _=none;cases ae x 0<;>rfl
 .show Sg.a _ s=_;rw[Sg.fp _ hno,if_neg (λh=>hno 0 0 (h.trans e.symm))]
def vv{X:Cx}(hX:X.Ok){D:Nat->InD}(hD:n8 X D){H:kB}{st:Bool}{raw:Nat->Nat->Bool}{f:Nat}{ann:List (Nat×Ann)}{args:List SV}{post:Nat->List ResultVar->jV}{A:List PV}{Q:List ResultVar->jw}(hA:avs args=A.map .p)(hH:∀(fn:Func) (c:Code),X.P.funcs[f]? =some fn->fn.body=some c->nk X fn.ntmps H c)
  (hQ:∀n rs e (F:Frm) (L:aJ) N,(post n rs e F L N).holds->Q rs e (F.av n) L.fn N) (h:(q8 X D H st raw f ann args post).holds):
  fy X.P f=true/\∃fn c L0 N0,X.P.funcs[f]? =some fn/\fn.body=some c/\mF L0 N0/\awp X.P c (Q fn.results.toList) (A.map .p++bS (fn.ntmps-A.length) .undef) L0 N0:=by
 unfold q8 at h;split at h
 case h_2=>exact h.elim
 rename_i fn hok hf;split at h
 case h_2=>exact h.elim
 rename_i c hb;split at h
 case h_2=>exact h.elim
 rename_i hn hpe;have hn:=jJ hn;have hpe:∀v∈args,v.ape=false:=λv hv=>by have:=dH hpe v hv;grind
 have hal:(A.map AV.p).length=A.length:=by grind
 have hAF:A.map .p++bS (fn.ntmps-A.length) .undef=(j9 args 0).av fn.ntmps:=by rw[AU hn,hA,hal]
 split at h
 .refine⟨hok,fn,c,aJ.fn [],0,hf,hb,.inl ⟨Jh,rfl⟩,?_⟩;rw[hAF];refine gw c ?_ (zg hX (I:=⟨xM,H⟩) (GL X) c (hH fn c hf hb) (λ_=>true) ann _ _ [] 0 (λ_ _=>rfl) (wc hpe) h);rintro e FA LA N' ⟨F',L',rfl,rfl,_,_,_,hh⟩;grind
 .refine⟨hok,fn,c,aJ.fn [(0,some (.box 0 [.undef]))],1,hf,hb,.inr ⟨Ze,rfl⟩,?_⟩;rw[hAF];refine gw c ?_ (zg hX (I:=⟨Cm X D,H⟩) (YL hX hD) c (hH fn c hf hb) (λ_=>true) ann _ _ _ 1 (λ_ _=>rfl) (wc hpe) h);rintro e FA LA N' ⟨F',L',rfl,rfl,_,_,_,hh⟩;grind
def zf{X:Cx}(hX:X.Ok){st:Bool}{raw:Nat->Nat->Bool}{f:Nat}{ann:List (Nat×Ann)}{args:List SV}{post:Nat->List ResultVar->jV}{A:List PV}{Q:List ResultVar->jw}(hA:avs args=A.map .p)
  (hQ:∀n rs e (F:Frm) (L:aJ) N,(post n rs e F L N).holds->Q rs e (F.av n) L.fn N) (h:(Bs X st raw f ann args post).holds):
  fy X.P f=true/\∃fn c L0 N0,X.P.funcs[f]? =some fn/\fn.body=some c/\mF L0 N0/\awp X.P c (Q fn.results.toList) (A.map .p++bS (fn.ntmps-A.length) .undef) L0 N0:=
 vv hX (JR X) hA (λ_ _ _ _=>nF _ _ _) hQ h
def Vn{X:Cx}(hX:X.Ok){raw:Nat->Nat->Bool}{f:Nat}{ann:List (Nat×Ann)}{args:List SV}{r:SV}{A:List PV}{q:PV}(hA:avs args=A.map .p)(hq:r.av= .p q)(h:(NK X raw f ann args r).holds):Sat X.P false f A q:=by obtain⟨hok,fn,c,L0,N0,hf,hb,h0,hw⟩:=zf hX (st:=false) (Q:=λrs=>ra X.P rs q) hA (λn rs e F L N hh=>Ag hq hh) h;exact vT hok hf hb h0 hw
def x7(P:Program)(n:Nat)(rs:List ResultVar)(ty:Nat)(t:LT)(l:List t.ty)(ys:List SV)(F:Frm)(L:aJ):Fm:=match j4 P n F L.at rs with
 |some (v::r)=>(match lR (eqv 3) ys r with
  |some (qs,[])=>(match v with
   | .nil=>needs ((l=[])::qs) .tt
   | .own s _ k=>(match L.at s with
     |some (.row ty' t' l')=>(match ae ty' ty,decEq t' t with
      |true,.isTrue h=>needs ([(h▸l':List t.ty)=l,k=l'.length] ++qs) .tt
      |_,_=> .stuck 980001)
     |_=> .stuck 980002)
   |_=> .stuck 980003)
  |_=> .stuck 980004)
 |_=> .stuck 980005
def MM(P:Program)(ty:Nat)(t:LT)(l:List t.ty)(ys:List SV)(n:Nat)(rs:List ResultVar):jV:=λe F L _=>match e with
 | .normal=>x7 P n rs ty t l ys F L
 | .ret=>x7 P n rs ty t l ys F L
 |_=> .stuck 910000
def GD{m:Rf}:∀{q:List PV} {r:List AV},dM m (q.map .p) r->r=q.map .p
 |[],r,h=>by exact h
 |x::q,r,h=>by
  obtain⟨y,r',rfl,h1,h2⟩:=h;rw[h1,GD h2];rfl
def WK{P:Program}{n:Nat}{rs:List ResultVar}{ty:Nat}{t:LT}{l:List t.ty}{ys:List SV}{Y:List PV}(hY:avs ys=Y.map .p){e:Exit}{F:Frm}{L:aJ}{N:Nat}(h:(MM P ty t l ys n rs e F L N).holds):Ch P rs ty t.w (t.enc l) l.length Y e (F.av n) L.fn N:=by
 have key:(x7 P n rs ty t l ys F L).holds->fV P rs (F.av n) L.fn λlA=>(∃s,lA= .own s 0 l.length::Y.map .p/\L.fn s=some ⟨ty,t.w,(t.enc l).map .p⟩)\/(lA= .nil::Y.map .p/\l.length=0/\t.enc l=[]):=by
  intro h;unfold x7 at h;split at h
  case h_2=>exact h.elim
  rename_i v r hl;split at h
  case h_2=>exact h.elim
  rename_i qs he;have e2:Sg.a L.at=L.fn:=rfl;have hr:(∀p∈qs,p)->avs r=Y.map .p:=λhp=>by have:=nN (m:=λ_=>none) (qk 3) he hp (λq hq=>by cases hq);rw[hY]at this;exact GD this
  rw[<-e2];refine kr hl ?_;split at h
  .have hp:=(jj h).1;have hl0:l=[] :=hp _ (by grind);subst hl0;refine .inr ⟨?_,rfl,rfl⟩;show AV.nil::avs r=_;grind
  .rename_i s t2 k;split at h
   case h_2=>exact h.elim
   rename_i ty' t' l' hs;split at h
   case h_2=>exact h.elim
   rename_i h2 hty _;subst h2;have hp:=(jj h).1;have h3:l'=l:=hp _ (by grind);have h4:k=l'.length:=hp _ (by grind);subst h3;refine .inl ⟨aD s,?_,?_⟩
   .show AV.own (aD s) 0 k::avs r=_;grind
   .rw[Sg.bW,hs,<-bp hty];rfl
  .exact h.elim
 cases e<;>first|exact h.elim|exact key h
def Pu{α:Type}(A:Arl α)(pre:α->List Prop)(ty:Nat)(t:LT)(l:α->List t.ty)(ys:α->List SV):Con:=⟨α,A.dec,pre,.own ty t l ys⟩
def Yd{X:Cx}(hX:X.Ok){raw:Nat->Nat->Bool}{f:Nat}{α:Type}{A:Arl α}{pre:α->List Prop}{ty:Nat}{t:LT}{l:α->List t.ty}{ys:α->List SV}(ann:α->List (Nat×Ann))(hr:∀x,∃q:List PV,avs (ys x)=q.map .p)
  (h:∀x,kA (pre x)->(KD X raw f (ann x) (A.enc x) (MM X.P ty t (l x) (ys x))).holds):(Pu A pre ty t l ys).Ok X.P f:=by
 intro s x hd hp;obtain⟨B,hB⟩:=A.pl x;obtain⟨q,hq⟩:=hr x;obtain⟨hok,fn,c,L0,N0,hf,hb,h0,hw⟩:=zf hX (st:=false) (Q:=λrs=>Ch X.P rs ty t.w (t.enc (l x)) (l x).length q) hB (λn rs e F L N hh=>WK hq hh) (h x (fH.2 hp));exact⟨B,q,by rw[A.ok s x hd,hB],hq,TB hok (jh t.gn) hf hb h0 hw⟩
def bA{X:Cx}(hX:X.Ok){raw:Nat->Nat->Bool}{f:Nat}{α:Type}{A:Arl α}{pre:α->List Prop}{res:α->SV}(ann:α->List (Nat×Ann))(hr:∀x,∃q,(res x).av= .p q)(h:∀x,kA (pre x)->(NK X raw f (ann x) (A.enc x) (res x)).holds):(con A pre res).Ok X.P f:=by intro s x hd hp;obtain⟨B,hB⟩:=A.pl x;obtain⟨q,hq⟩:=hr x;exact⟨B,q,by rw[A.ok s x hd,hB],hq,Vn hX hB hq (h x (fH.2 hp))⟩
def tx(r:Rm):List Nat:=match r with
 |[] =>[]
 |(k,none)::r=>k::tx r
 |(_,some _)::r=>tx r
def CE(ns:List Nat)(r:Rm):Bool:=cw (λq:Nat×Option Nat=>match q.2 with
 |some k=>(match ae q.1 k,mem ns q.1 with|true,false=>true|_,_=>false)
 |none=>mem ns q.1) r
open Classical in
def idm(ns:List Nat):Rf:=λs=>if∃k∈ns,s=aD k then some none else some (some s)
def CN{ns:List Nat}{k:Nat}(h:mem ns k=false):idm ns (aD k)=some (some (aD k)):=by unfold idm;rw[if_neg];rintro⟨x,hx,e⟩;rw[eL e,(mem_iff x ns).2 hx]at h;cases h
def Jd(ns:List Nat)(x a:Nat):idm ns (inn x (a+1))=some (some (inn x (a+1))):=by unfold idm;rw[if_neg];rintro⟨y,hy,e⟩;have:=(cI e).2;omega
def F8{ns:List Nat}{r:Rm}(h:CE ns r=true):iO (idm ns) r:=by
 intro q hq;have h:=dH h q hq;obtain⟨s,o⟩:=q;cases o with
 |none=>
  exact if_pos ⟨s,(mem_iff s ns).1 h,rfl⟩
 |some k=>
  dsimp only at h;split at h
  .rename_i e1 e2;rw[<-bp e1];exact CN e2
  .cases h
def uE(ns:List Nat)(σ:Sg):aJ->Option (List Prop)
 |[] =>some []
 |(_,none)::_=>none
 |(k,some ob)::l=>match uE ns σ l with
  |none=>none
  |some ps=>(match mem ns k with
   |true=>(match ob with| .row _ _ c=>some ((c=[])::ps)|_=>none)
   |false=>(match σ k with
    |none=>none
    |some ob'=>(match rS ob ob' with
     |some (p,r)=>(match CE ns r with|true=>some (p++ps)|false=>none)
     |none=>(match xT [] k k ob ob' with
      |some p=>some (p++ps)
      |none=>none))))
def FU{ns:List Nat}{σ:Sg}:∀{l:aJ} {ps:List Prop},uE ns σ l=some ps->(∀p∈ps,p)->∀k o,(k,o)∈l->∃ob,o=some ob/\
  ((mem ns k=true/\∃ty t,ob= .row ty t [])\/(mem ns k=false/\∃ob',σ k=some ob'/\js (idm ns) (ob.ob k) (ob'.ob k)/\(ob.flat=true\/ob=ob')))
 |[],_,_,_,_,_,hk=>by cases hk
 |(_,none)::_,_,h,_,_,_,_=>by cases h
 |(k,some ob)::l,ps,h,hp,k1,o1,hk=>by
  unfold uE at h;split at h
  .cases h
  rename_i qs hqs;have ih:=FU hqs;split at h
  .split at h<;>cases h;rename_i ty t c;rcases bh.1 hk with e|hk
   .have:c=[] :=hp _ (by grind);grind
   grind
  .rename_i hm;split at h
   .cases h
   rename_i ob' hob';split at h
   .rename_i p r he;split at h<;>cases h;rename_i hs;rcases bh.1 hk with e|hk
    .cases e;exact⟨_,rfl,.inr ⟨hm,ob',hob',FT he (λq hq=>hp q (by grind)) (F8 hs) _ _,.inl (Er he)⟩⟩
    .exact ih (λp hpp=>hp p (by grind)) k1 o1 hk
   .split at h<;>cases h;rename_i p hf;rcases bh.1 hk with e|hk
    .cases e;obtain⟨_,_,e3,e4⟩:=Gj hf λq hq=>hp q (by grind);subst e3;refine⟨_,rfl,.inr ⟨hm,_,hob',ji _ k (λa=> ?_) (λs hs=>by rw[e4]at hs;cases hs),.inr rfl⟩⟩;cases a with
     |zero=>exact CN hm
     |succ a=>exact Jd ns k a
    .exact ih (λp hpp=>hp p (by grind)) k1 o1 hk
def T4{ns:List Nat}{L:aJ}{l:aJ}{ps:List Prop}(h:uE ns L.at l=some ps)(hp:∀p∈ps,p):uW (idm ns) (Sg.a (aJ.at l)) L.fn:=by
 have key:=FU h hp;constructor
 .intro s s' o h1 h2;unfold idm at h1 h2;split at h1<;>cases h1;split at h2<;>cases h2;rfl
 .intro s ob' hs;rcases gR s with⟨x,rfl⟩|⟨x,a,rfl⟩|hno
  .rw[Sg.bW]at hs;cases hx:aJ.at l x with
   |none=>grind
   |some ob=>
    rw[hx]at hs;cases hs;obtain⟨ob1,e,h1⟩:=key x (some ob) (aJ.rU hx);cases e;rcases h1 with⟨hm,ty,t,rfl⟩|⟨hm,ob2,h2,h3,_⟩
    .rw[show idm ns (aD x)=some none from if_pos ⟨x,(mem_iff x ns).1 hm,rfl⟩];exact⟨jh t.gn,by rfl⟩
    .rw[CN hm];exact⟨_,by show Sg.a L.at (aD x)=_;rw[Sg.bW,h2];rfl,h3⟩
  .rw[Sg.co]at hs;cases hx:aJ.at l x with
   |none=>grind
   |some ob=>
    rw[hx]at hs;obtain⟨ob1,e,h1⟩:=key x (some ob) (aJ.rU hx);cases e;have hs:ob.inner a=some ob':=hs;rw[Jd];rcases h1 with⟨hm,ty,t,rfl⟩|⟨hm,ob2,h2,h3,h4⟩
    .cases hs
    .rcases h4 with h4|h4
     .rw[SOb.vW h4]at hs;cases hs
     .subst h4;refine⟨ob',by show Sg.a L.at (inn x (a+1))=_;rw[Sg.co,h2];exact hs,rfl,rfl,?_⟩;cases ob with
      |fam ty ity t M ov=>
       have hs:(match ov.lookup a with|some _=>none|none=>(M[a]?).map λl=>(⟨ity,t.w,(t.enc l).map .p⟩:Ob))=some ob':=hs;cases ho:ov.lookup a with
       |some v=>grind
       |none=>
        rw[ho]at hs;cases hm:M[a]? with
        |none=>grind
        |some c=>rw[hm]at hs;cases hs;exact fX _ _
      |mf M=>
       have hs:(M[a]?).map (λq=>(⟨3,1,(LT.enc .I q.2).map .p⟩:Ob))=some ob':=hs;cases hm:M[a]? with
       |none=>rw[hm]at hs;cases hs
       |some c=>rw[hm]at hs;cases hs;exact fX _ _
      |_=>cases hs
  .rw[Sg.fp _ hno]at hs;cases hs
def Pa(l:List SV):Bool:=match l with
 |[_] =>true
 |[] =>false
 |l=>(match bJ (avs l)with|none=>true|some _=>false)
def x5(P:Program)(n:Nat)(rs:List ResultVar)(r:SV)(obs:aJ)(F:Frm)(L:aJ):Fm:=match j4 P n F L.at rs with
 |some l=>(match Pa l,eqv 3 r (lO l)with
  |true,some (ps,m)=>(match CE (tx m) m,uE (tx m) L.at obs with
   |true,some qs=>needs (ps++qs) .tt
   |_,_=> .stuck 990001)
  |_,_=> .stuck 990002)
 |none=> .stuck 990003
def PU(P:Program)(r:SV)(obs:aJ)(n:Nat)(rs:List ResultVar):jV:=λe F L _=>match e with
 | .normal=>x5 P n rs r obs F L
 | .ret=>x5 P n rs r obs F L
 |_=> .stuck 910000
def Xz{l:List SV}(h:Pa l=true):oE (avs l)=(lO l).av:=by
 match l,h with
 |[x],_=>rfl
 |x::y::r,h=>
  show AV.tup (avs (x::y::r))=gq (avs (x::y::r));have h:(match bJ (avs (x::y::r))with|none=>true|some _=>false)=true:=h;unfold gq;grind
def Xr{P:Program}{n:Nat}{rs:List ResultVar}{r:SV}{obs:aJ}{e:Exit}{F:Frm}{L:aJ}{N:Nat}(h:(PU P r obs n rs e F L N).holds):Cg P rs r.av (Sg.a (aJ.at obs)) e (F.av n) L.fn N:=by
 have key:(x5 P n rs r obs F L).holds->fV P rs (F.av n) L.fn λl=>∃m:Rf,uW m (Sg.a (aJ.at obs)) L.fn/\dW m r.av (oE l):=by
  intro h;unfold x5 at h;split at h
  case h_2=>exact h.elim
  rename_i l hl;split at h
  case h_2=>exact h.elim
  rename_i ps m h1 he;split at h
  case h_2=>exact h.elim
  rename_i qs hs hq;have hp:=(jj h).1;rw[show L.fn=Sg.a L.at from rfl];refine kr hl ⟨idm (tx m),T4 hq λp hpp=>hp p (by grind),?_⟩;rw[Xz h1];exact qk 3 r (lO l) ps m he (λp hpp=>hp p (by grind)) (F8 hs)
 cases e<;>first|exact h.elim|exact key h
def Pr{α:Type}(A:Arl α)(pre:α->List Prop)(res:α->SV)(obs:α->aJ):Con:=⟨α,A.dec,pre,.tree res obs⟩
def Yc{X:Cx}(hX:X.Ok){st:Bool}{raw:Nat->Nat->Bool}{f:Nat}{α:Type}{A:Arl α}{pre:α->List Prop}{res:α->SV}{obs:α->aJ}(ann:α->List (Nat×Ann))
  (h:∀x,kA (pre x)->(Bs X st raw f (ann x) (A.enc x) (PU X.P (res x) (obs x))).holds):(Pr A pre res obs).Ok X.P f:=by
 intro s x hd hp;obtain⟨B,hB⟩:=A.pl x;obtain⟨hok,fn,c,L0,N0,hf,hb,h0,hw⟩:=zf hX (Q:=λrs=>Cg X.P rs (res x).av (Sg.a (aJ.at (obs x)))) hB (λn rs e F L N hh=>Xr hh) (h x (fH.2 hp));exact⟨B,by rw[A.ok s x hd,hB],TA hok hf hb h0 hw⟩
def aw{p q:Prop}(h:p=q)(hq:q):p:=h▸hq
def ap:List (Nat×Con)->Tab->Tab
 |[],T,f=>T f
 |(k,c)::l,T,f=>match ae f k with|true=>some c|false=>ap l T f
def NJ(P:Program):List (Nat×Con)->Prop
 |[] =>True
 |q::l=>q.2.Ok P q.1/\NJ P l
def aq{P:Program}{T:Tab}(hT:T.Ok P):∀{l:List (Nat×Con)},NJ P l->(ap l T).Ok P
 |[],_=>hT
 |(k,c)::l,h=>by
  intro f d hd;unfold ap at hd;split at hd
  .rename_i e;cases hd;rw[bp e];exact h.1
  .exact aq hT h.2 f d hd
def xi:Tab:=λ_=>none
def Xb{P:Program}:xi.Ok P:=λ_ _ h=>by cases h
end
noncomputable section
def aAO(N:Nat)(a b c d:Int)(w:World):eZ aH (jd (N+1+1) 53 (.agg #[.int .i64 a,.int .i64 b]) (.agg #[.int .i64 c,.int .i64 d])) w= .ok (a==c&&b==d) w:=by
 have hS:aH.underlying 53=some (.struct (aH.fieldsOf 53)):=by kernel_rfl
 have hp:aH.stoodInHeld 53=false:=by kernel_rfl
 rw[run_equalIn_agg w (N+1) 53 _ _ hS hp];simp only[yT,Ro]
 go_simp
 grind
def aAR(a b c d a' b' c' d':Int)(w:World)(N:Nat):eZ aH (jd (N+1+1+1) 57 (.agg #[.int .i64 a,.int .i64 b,.int .i64 c,.int .i64 d]) (.agg #[.int .i64 a',.int .i64 b',.int .i64 c',.int .i64 d'])) w= .ok ((a==a'&&b==b')&&(c==c'&&d==d')) w:=by
 have hS6:aH.underlying 57=some (.struct (aH.fieldsOf 57)):=by kernel_rfl
 have hp6:aH.stoodInHeld 57=false:=by kernel_rfl
 rw[run_equalIn_agg w (N+1+1) 57 _ _ hS6 hp6];unfold yT;rw[Tryz.underlying57];have a44:=Tryz.isAgg53;have z44:=Tryz.sizeOf53;have p1:∀a b c d:Int,(part 53 #[c9 .i64 a,c9 .i64 b,c9 .i64 c,c9 .i64 d] 0).run aH w= .ok (.agg #[.int .i64 a,.int .i64 b]) w:=by intro a b c d;simp[part,a44,z44]
 have p2:∀a b c d:Int,(part 53 #[c9 .i64 a,c9 .i64 b,c9 .i64 c,c9 .i64 d] 2).run aH w= .ok (.agg #[.int .i64 c,.int .i64 d]) w:=by intro a b c d;simp[part,a44,z44]
 have hE:=aAO N;unfold Op.eqFields;unfold Op.eqFields;unfold Op.eqFields;rw[if_pos (by decide)];simp only[bo,p1,b9,hE];cases h1:(a==a')<;>cases h2:(b==b')<;>simp[hE,p2,bo,b9];grind
def Gr:pZ aH 57 4:=by
 intro xs ys x y w hx hy;match xs,ys,hx,hy with
 |[a,b,c,d],[a',b',c',d'],_,_=>
  have h1:=aAR a b c d a' b' c' d' w 9997;have e:(([a,b,c,d] :List Int)==[a',b',c',d'])=((a==a'&&b==b')&&(c==c'&&d==d')):=by rw[lZ];simp[and_assoc]
  refine⟨?_,?_⟩
  .simp only[eqGuard,bo];simp[qA];rw[run_eql_struct,h1];simp_all
  .unfold bne;rw[e];simp[eqGuard];rw[run_neq_struct,h1];simp_all
def aAQ(N:Nat)(a b c a' b' c':Int)(w:World):eZ aH (jd (N+1+1) 60 (.agg #[.int .i64 a,.int .i64 b,.int .i64 c]) (.agg #[.int .i64 a',.int .i64 b',.int .i64 c'])) w= .ok (a==a'&&(b==b'&&c==c')) w:=by
 have hS:aH.underlying 60=some (.struct (aH.fieldsOf 60)):=by kernel_rfl
 have hp:aH.stoodInHeld 60=false:=by kernel_rfl
 rw[run_equalIn_agg w (N+1) 60 _ _ hS hp];simp only[yT,Tryz.underlying60]
 go_simp
 grind
def Gq:pZ aH 60 3:=by
 intro xs ys x y w hx hy;match xs,ys,hx,hy with
 |[a,b,c],[a',b',c'],_,_=>
  have h1:=aAQ 9998 a b c a' b' c' w;have e:(([a,b,c] :List Int)==[a',b',c'])=(a==a'&&(b==b'&&c==c')):=by rw[lZ];simp
  refine⟨?_,?_⟩
  .simp only[eqGuard,bo];simp[qA];rw[run_eql_struct,h1];simp_all
  .unfold bne;rw[e];simp[eqGuard];rw[run_neq_struct,h1];simp_all
noncomputable def ltL:List (Nat×LT)->Nat->Option LT
 |[],_=>none
 |(k,x)::l,t=>match ae t k with|true=>some x|false=>ltL l t
def u67:aH.underlying 104=some (.array 2 3):=by kernel_rfl
def rK(w:World)(xs:Array Value)(i:Nat)(a:Value)(h:xs[i]? =some a):(part 3 xs i).run aH w= .ok a w:=by have a3:=vA;simp[part,a3,h]
def ZN:MKey aH 104 2:=by
 have hu3:aH.underlying 3=some (.int .i64):=by kernel_rfl
 obtain⟨i3,hi3⟩:=info_of_underlying hu3;have c3:aH.cellsOf 3=1:=by kernel_rfl
 have two:∀{xs:List Int},xs.length=2->∃a b,xs=[a,b] :=λ{xs} h=>by
  match xs,h with
  |[a,b],_=>grind
 refine⟨?_,?_,⟨_,u67,λa b=>rfl⟩⟩
 .intro w em xs hx;obtain⟨a,b,rfl⟩:=two hx;show(u7 em (9999+1) 104 (.agg #[.int .i64 a,.int .i64 b])).run _ w=_;have p0:=rK w #[c9 .i64 a,.int .i64 b] 0 (.int .i64 a) rfl;have p1:=rK w #[c9 .i64 a,.int .i64 b] 1 (.int .i64 b) rfl;have ck:∀a:Int,(u7 em 9999 3 (.int .i64 a)).run aH w= .ok () w:=by intro a;show(u7 em (9998+1) 3 (.int .i64 a)).run _ w=_;generalize 9998=N;simp only[u7,bo,run_underlying hu3,b9,cK]
  rw[u7];simp only[bo,run_underlying u67,b9];simp only[Std.Legacy.Range.forIn_eq_forIn_range',Std.Legacy.Range.size,Nat.sub_zero,Nat.add_one_sub_one,Nat.div_one];simp only[show List.range' 0 2=[0,1]from rfl,List.forIn_cons,List.forIn_nil,bo,run_sizeOf w hi3,b9,c3,p0,p1,ck,cK,yO,oV]
 .intro w xs ys hx hy;obtain⟨a,b,rfl⟩:=two hx;obtain⟨c,d,rfl⟩:=two hy;have p0:=rK w #[c9 .i64 a,.int .i64 b] 0 (.int .i64 a) rfl;have p1:=rK w #[c9 .i64 a,.int .i64 b] 1 (.int .i64 b) rfl;have q0:=rK w #[c9 .i64 c,.int .i64 d] 0 (.int .i64 c) rfl;have q1:=rK w #[c9 .i64 c,.int .i64 d] 1 (.int .i64 d) rfl;have e1:∀a b:Int,(jd 9999 3 (.int .i64 a) (.int .i64 b)).run aH w= .ok (a==b) w:=λa b=>run_equalIn_int w 9998 3 _ _ a b hu3;show(jd (9999+1) 104 (.agg #[.int .i64 a,.int .i64 b]) (.agg #[.int .i64 c,.int .i64 d])).run _ w=_;rw[run_equalIn_array w 9999 _ _ u67 hi3,c3,show bO 2=[0,1]from rfl];simp only[Op.eqItems,bo,yO,oV,p0,q0,e1,b9];by_cases h1:a=c
  .subst h1;simp only[beq_self_eq_true,yH,oI,if_false,bo];by_cases h2:b=d
   .simp_all
   simp_all
  simp_all
noncomputable def cx(T:Tab):Cx:=⟨aH,T,ltL [(53,.V),(57,.S),(64,.R),(3,.I),(2,.I),(1,.I),(4,.B),(60,.T),(25,.U),(45,.E),(49,.F),(43,.Q)],[(53,2),(57,4),(60,3)],λ_=>false,λ_=>false⟩
def a7{T:Tab}(h:T.Ok aH):(cx T).Ok:=⟨h,λt m hm=>by
 rcases bh.1 hm with h|hm
 .cases h;exact Gs
 rcases bh.1 hm with h|h
 .cases h;exact Gr
 .rw[bM]at h;cases h;exact Gq,λt ht=>by cases ht⟩
noncomputable def np(F:Frm)(d:Nat):Option Nat:=match F.at d with
 | .int _ v=>some v.toNat
 |_=>none
noncomputable def MZ(F:Frm)(d:Nat):Option Int:=match F.at d with
 | .int _ v=>some v
 |_=>none
noncomputable def Pj(F:Frm)(d e:Nat):Option (Int×Int):=match MZ F d,MZ F e with
 |some x,some y=>some (x,y)
 |_,_=>none
noncomputable def lp(key d n:Nat)(I:Nat->List Prop)(rk:List Nat)(upd:Nat->Frm)(obs:Nat->List (Nat×SOb))(inner:Nat->List (Nat×Ann):=λ_=>[]):Nat×Ann:=
 (key,.mk Nat (λF _=>np F d) rk (λk=>(k<=n)::I k) (λk=>(d,.int .i64 (k:Int))::upd k) obs (λk=>n-k) inner)
noncomputable def cnt(key d n:Nat)(I:Nat->Prop)(inner:Nat->List (Nat×Ann):=λ_=>[]):Nat×Ann:=lp key d n (λk=>[I k]) [] (λ_=>[]) (λ_=>[]) inner
noncomputable def jb(key d:Nat)(b:Bool):Nat×Ann:=(key+10000,.mk Unit (λ_ _=>some ()) [] (λ_=>[]) (λ_=>[(d,.bool b)]) (λ_=>[]) (λ_=>0) (λ_=>[]))
noncomputable def jP(key:Nat)(I:List Prop):Nat×Ann:=(key+10000,.mk Unit (λ_ _=>some ()) [] (λ_=>I) (λ_=>[]) (λ_=>[]) (λ_=>0) (λ_=>[]))
noncomputable def jU(key:Nat)(u:Frm):Nat×Ann:=(key+10000,.mk Unit (λ_ _=>some ()) [] (λ_=>[]) (λ_=>u) (λ_=>[]) (λ_=>0) (λ_=>[]))
noncomputable def jN(key d:Nat)(I:Nat->List Prop)(inner:Nat->List (Nat×Ann):=λ_=>[]):Nat×Ann:=(key+10000,.mk Nat (λF _=>np F d) [] I (λk=>[(d,.int .i64 (k:Int))]) (λ_=>[]) (λ_=>0) inner)
noncomputable def lU(key k:Nat):Nat×Ann:=(key+30000+k,.mk Unit (λ_ _=>none) [] (λ_=>[]) (λ_=>[]) (λ_=>[]) (λ_=>0) (λ_=>[]))
noncomputable def af(q:Nat->Prop)(k:Nat):Prop:=∀j,j<k->q j
def nb{b:Bool}(h:(!b)=false):b=true:=by grind
def nb'{b:Bool}(h:(!b)=true):b=false:=by grind
theorem d8(q:Nat->Prop):af q 0:=λj h=>by grind
theorem b8{q:Nat->Prop}{k:Nat}(h:af q k)(hk:q k):af q (k+1):=λj hj=>by
 rcases jc j k with h1|h1
 .exact h j h1
 grind
def KG:xi.Ok aH:=Xb
end
attribute [grind =] aG ix
attribute [grind ←] d8 b8
def iN{x y A B:Int}(hx: -A<=x/\x<=A)(hy: -B<=y/\y<=B): -(A*B)<=x*y/\x*y<=A*B:=by have h1:0<=(A-x)*(B-y):=jG (by omega) (by omega);have h2:0<=(A+x)*(B+y):=jG (by omega) (by omega);have h3:0<=(A-x)*(B+y):=jG (by omega) (by omega);have h4:0<=(A+x)*(B-y):=jG (by omega) (by omega);grind
def bd(M:Int)(v:V):Prop:=(-M<=v.x/\v.x<=M)/\ -M<=v.y/\v.y<=M
def uV{m M:Int}{v:V}(h:bR v m=true)(hm:m<=M:=by decide):bd M v:=by unfold bR at h;unfold bd;grind
def bd.mono{m M:Int}{v:V}(h:bd m v)(hm:m<=M:=by decide):bd M v:=by unfold bd at*;omega
def qV{M:Int}{a b:V}(ha:bd M a)(hb:bd M b):(-(M*M)<=a.x*b.y/\a.x*b.y<=M*M)/\ -(M*M)<=a.y*b.x/\a.y*b.x<=M*M:=⟨iN ha.1 hb.2,iN ha.2 hb.1⟩
def jp{m:Int}{a b:V}(ha:bd m a)(hb:bd m b):bd (m+m) (aDd a b):=by unfold bd aDd at*;grind
def Y8(n:Int): -1<=sgn n/\sgn n<=1:=by unfold sgn;grind
def cl{x:Int}(h: -9000000000000000000<=x/\x<=9000000000000000000):aG x:=by unfold aG;omega
noncomputable def Q0:Con:=con (ac aV (a1 aV)) (λ(_,_)=>[]) (λ(a,b)=> .bool (bV a b)
 )
def aCy:Q0.Ok aH 171:=bA (a7 KG) (raw:=au) (λ(_,_)=>[]) (λ(_,_)=>⟨_,rfl⟩) λ(a,b) _=>aw (q:=(a.y<b.y->true=bV a b)/\
 (¬a.y<b.y->(a.y=b.y->decide (a.x<b.x)=bV a b)/\
  (¬a.y=b.y->false=bV a b))) (by kernel_rfl) (by
  unfold bV;grind)
noncomputable def O1:Tab:=ap [(171,Q0)] xi
def LZ:O1.Ok aH:=aq KG ⟨aCy,trivial⟩
noncomputable def c80:Con:=con (a1 aI) (λ_=>[]) (λn=> .int .i64 (sgn n)
 )
def k80:c80.Ok aH 129:=bA (a7 LZ) (raw:=au) (λ_=>[]) (λ_=>⟨_,rfl⟩) λn _=>aw (q:=(0<n->1=sgn n)/\
 (¬0<n->(n<0-> -1=sgn n)/\
  (¬n<0->0=sgn n))) (by kernel_rfl) (by
  unfold sgn;grind)
noncomputable def t80:Tab:=ap [(129,c80)] O1
def aBc:t80.Ok aH:=aq LZ ⟨k80,trivial⟩
noncomputable def t79:Tab:=t80
def NZ:t79.Ok aH:=aBc
noncomputable def c35:Con:=con (ac aV (a1 aI)) (λ(_,m)=>[0<=m,m<=1000000000000]) (λ(a,m)=> .bool (bR a m)
 )
def k35:c35.Ok aH 20:=bA (a7 NZ) (raw:=au) (λ(_,_)=>[]) (λ(_,_)=>⟨_,rfl⟩) λ(a,m) hp=>aw (q:=aG (0-m)/\(0-m<=a.x->(a.x<=m->aG (0-m)/\(0-m<=a.y->decide (a.y<=m)=bR a m)/\
   (¬0-m<=a.y->false=bR a m))/\
  (¬a.x<=m->false=bR a m))/\
 (¬0-m<=a.x->false=bR a m)) (by kernel_rfl) (by change 0<=m/\m<=1000000000000 at hp;unfold bR;have:= @aG;grind[aG])
noncomputable def t35:Tab:=ap [(20,c35)] t79
def OA:t35.Ok aH:=aq NZ ⟨k35,trivial⟩
noncomputable def c98:Con:=con (a1 aS) (λ_=>[]) (λs=> .bool (bQ s)
 )
def k98:c98.Ok aH 68:=bA (a7 OA) (raw:=au) (λ_=>[]) (λ_=>⟨_,rfl⟩) λs _=>aw (q:=(0:Int)<=4000/\(4000:Int)<=1000000000000/\(bR s.a 4000=true->(0:Int)<=4000/\(4000:Int)<=1000000000000/\bR s.b 4000=bQ s)/\
 (bR s.a 4000=false->false=bQ s)) (by kernel_rfl) (by unfold bQ;grind)
noncomputable def t98:Tab:=ap [(68,c98)] t35
def NN:t98.Ok aH:=aq OA ⟨k98,trivial⟩
noncomputable def RP:Con:=con (a1 aV) (λ_=>[]) (λv=>(aT).enc (bP v)
 )
def aCU:RP.Ok aH 23:=bA (a7 NN) (raw:=au) (λ_=>[]) (λ_=>⟨_,rfl⟩) λv _=>aw (q:=v.x=(bP v).x/\v.y=(bP v).y/\1=(bP v).den) (by kernel_rfl) (by exact⟨rfl,rfl,rfl⟩)
noncomputable def PM:Tab:=ap [(23,RP)] t98
def MC:PM.Ok aH:=aq NN ⟨aCU,trivial⟩
noncomputable def Q5:Con:=con (ac aV (a1 aV)) (λ(a,b)=>[bd 2000000000 a,bd 2000000000 b]) (λ(a,b)=> .int .i64 (aDe a b)
 )
def aCD:Q5.Ok aH 130:=bA (a7 MC) (raw:=au) (λ(_,_)=>[]) (λ(_,_)=>⟨_,rfl⟩) λ(a,b) hp=>aw (q:=aG (a.x*b.y)/\aG (a.y*b.x)/\aG (a.x*b.y-a.y*b.x)/\a.x*b.y-a.y*b.x=aDe a b) (by kernel_rfl) (by change bd 2000000000 a/\bd 2000000000 b at hp;have:=qV hp.1 hp.2;exact⟨cl (by omega),cl (by omega),cl (by omega),rfl⟩)
noncomputable def O6:Tab:=ap [(130,Q5)] PM
def Le:O6.Ok aH:=aq MC ⟨aCD,trivial⟩
noncomputable def Q4:Con:=con (ac aV (a1 aV)) (λ(a,b)=>[bd 1000000000 a,bd 1000000000 b]) (λ(a,b)=>aV.enc (aDd a b)
 )
def aCC:Q4.Ok aH 131:=bA (a7 Le) (raw:=au) (λ(_,_)=>[]) (λ(_,_)=>⟨_,rfl⟩) λ(a,b) hp=>aw (q:=aG (a.x-b.x)/\aG (a.y-b.y)/\a.x-b.x=(aDd a b).x/\a.y-b.y=(aDd a b).y) (by kernel_rfl) (by change bd 1000000000 a/\bd 1000000000 b at hp;unfold bd at hp;exact⟨cl (by omega),cl (by omega),rfl,rfl⟩)
noncomputable def O5:Tab:=ap [(131,Q4)] O6
def Ld:O5.Ok aH:=aq Le ⟨aCC,trivial⟩
def kP{s:S}(h:(!bQ s)=false){M:Int}(hM:4000<=M:=by decide):bd M s.a/\bd M s.b:=by unfold bQ at h;simp only[Bool.not_eq_false',cD]at h;exact⟨uV h.1 hM,uV h.2 hM⟩
def Jc{s:S}{p:V}{M:Int}(h1:bd M s.a/\bd M s.b)(h:fE s p=true):bd M p:=by unfold fE at h;unfold bd at*;grind
def v6(s:S)(p:V): -1<=fL s p/\fL s p<=1:=by
 unfold fL bZ;split
 .omega
 .exact Y8 _
noncomputable def c70:Con:=con (ac aV (ac aV (a1 aV))) (λ(a,b,c)=>[bd 1000000000 a,bd 1000000000 b,bd 1000000000 c]) (λ(a,b,c)=> .int .i64 (bZ a b c)
 )
def k70:c70.Ok aH 69:=bA (a7 Ld) (raw:=au) (λ(_,_,_)=>[]) (λ(_,_,_)=>⟨_,rfl⟩) λ(a,b,c) hp=>aw (q:=bd 1000000000 b/\bd 1000000000 a/\bd 1000000000 c/\bd 1000000000 a/\bd 2000000000 (aDd b a)/\bd 2000000000 (aDd c a)/\sgn (aDe (aDd b a) (aDd c a))=bZ a b c) (by kernel_rfl) (by change bd 1000000000 a/\bd 1000000000 b/\bd 1000000000 c at hp;exact⟨hp.2.1,hp.1,hp.2.2,hp.1,jp hp.2.1 hp.1,jp hp.2.2 hp.1,rfl⟩)
noncomputable def t70:Tab:=ap [(69,c70)] O5
def Nl:t70.Ok aH:=aq Ld ⟨k70,trivial⟩
noncomputable def RT:Con:=con (ac aS (a1 aV)) (λ(_,_)=>[]) (λ(s,p)=> .int .i64 (fL s p)
 )
def aCY:RT.Ok aH 140:=bA (a7 Nl) (raw:=au) (λ(_,_)=>[]) (λ(_,_)=>⟨_,rfl⟩) λ(s,p) _=>aw (q:=((!bQ s)=true->0=fL s p)/\
 ((!bQ s)=false->(0:Int)<=4000/\(4000:Int)<=1000000000000/\((!bR p 4000)=true->0=fL s p)/\
  ((!bR p 4000)=false->bd 1000000000 s.a/\bd 1000000000 s.b/\bd 1000000000 p/\bZ s.a s.b p=fL s p))) (by kernel_rfl) (by
  unfold fL;refine⟨λh=>by rw[h];rfl,λh=>⟨by decide,by decide,λh2=>by grind,λh2=>⟨(kP h).1,(kP h).2,uV (by simpa using h2),by grind⟩⟩⟩)
noncomputable def PQ:Tab:=ap [(140,RT)] t70
def MH:PQ.Ok aH:=aq Nl ⟨aCY,trivial⟩
noncomputable def Qp:Con:=con (ac aS (a1 aV)) (λ(_,_)=>[]) (λ(s,p)=> .bool (onS s p))
def aCn:Qp.Ok aH 21:=bA (a7 MH) (raw:=au) (λ(s,p)=>[jb 4 5 (fE s p)]
  ) (λ(_,_)=>⟨_,rfl⟩) λ(s,p) _=>aw (q:=((!bQ s)=true->false=onS s p)/\
 ((!bQ s)=false->((Min.min s.a.x s.b.x<=p.x->(p.x<=Max.max s.a.x s.b.x->(Min.min s.a.y s.b.y<=p.y->decide (p.y<=Max.max s.a.y s.b.y)=fE s p)/\
     (¬Min.min s.a.y s.b.y<=p.y->false=fE s p))/\
    (¬p.x<=Max.max s.a.x s.b.x->false=fE s p))/\
   (¬Min.min s.a.x s.b.x<=p.x->false=fE s p))/\
  (∀y:Unit,(fE s p=true->bd 1000000000 s.a/\bd 1000000000 s.b/\bd 1000000000 p/\decide (bZ s.a s.b p=0)=onS s p)/\
   (fE s p=false->false=onS s p)))) (by kernel_rfl) (by
  refine⟨λh=>by unfold onS;grind,λh=>⟨by unfold fE;grind,λ_=>⟨λh2=>⟨(kP h).1,(kP h).2,Jc (kP h) h2,by unfold onS;grind⟩,λh2=>by unfold onS;rw[h2];simp⟩⟩⟩)
noncomputable def Oo:Tab:=ap [(21,Qp)] PQ
def LK:Oo.Ok aH:=aq MH ⟨aCn,trivial⟩
def so(l:List V)(k:Nat):List V:=jn (l.take k)
def qso(l:List V)(k j:Nat):Prop:=bV (aDa (so l k) j) (aDa l k)=true
def cm(s t:S)(k:Nat):List V:=([s.a,s.b,t.a,t.b].take k).filter λp=>onS s p&&onS t p
def Ad{l:List V}{k:Nat}(h:k<l.length):so l (k+1)=iC (so l k) (aDa l k):=by unfold so jn;rw[qD,dA h,DU,nth_eq h];rfl
def zN{p:V}:∀{l:List V} {k:Nat},k<=l.length->(∀j,j<k->bV (aDa l j) p=true)->(k<l.length->¬bV (aDa l k) p=true)->
  iC l p=if k<l.length/\aDa l k=p then l else l.take k++p::l.drop k
 |[],k,h1,_,_=>by simp at h1;subst h1;rfl
 |q::r,0,_,_,h3=>by
  have h3:¬bV q p=true:=h3 (by simp);unfold iC;rw[if_neg h3];show(if q=p then q::r else p::q::r)=if 0<(q::r).length/\q=p then q::r else p::q::r;simp
 |q::r,k+1,h1,h2,h3=>by
  have h0:bV q p=true:=h2 0 (by omega);unfold iC;rw[if_pos h0,zN (l:=r) (k:=k) (by grind) (λj hj=>h2 (j+1) (by omega)) (λhk=>h3 (by grind))];show(q::if _ then _ else _)=if k+1<(q::r).length/\aDa r k=p then q::r else q::(r.take k++p::r.drop k);grind
def Wn(l:List V)(p:V):(iC l p).length<=l.length+1:=by
 induction l with
 |nil=>simp[iC]
 |cons q r ih=>unfold iC;grind
def JE{l:List V}{k y:Nat}(hk:k<l.length)(h1:y<=(so l k).length)(h2:af (qso l k) y)(h3:y<(so l k).length->¬qso l k y)(h4:¬(y<(so l k).length/\aDa (so l k) y=aDa l k)):
  ([] :List V)++ai y (bT 0 (so l k))++[aDa l k] ++ai ((so l k).length-y) (bT y (so l k))=so l (k+1):=by
 have e:ai ((so l k).length-y) (bT y (so l k))=bT y (so l k):=ir (by simp);rw[Ad hk,zN h1 h2 h3,if_neg h4,e];simp
def HK{l:List V}{k y:Nat}(hk:k<l.length)(h1:y<=(so l k).length)(h2:af (qso l k) y)(h3:y<(so l k).length->¬qso l k y)(h4:y<(so l k).length)(h5:aDa (so l k) y=aDa l k):so l k=so l (k+1):=by rw[Ad hk,zN h1 h2 h3,if_pos ⟨h4,h5⟩]
def Yh(s t:S){k:Nat}(h:k<4):cm s t (k+1)=if(onS s (aDa [s.a,s.b,t.a,t.b] k)&&onS t (aDa [s.a,s.b,t.a,t.b] k))=true then cm s t k++[aDa [s.a,s.b,t.a,t.b] k]else cm s t k:=by unfold cm;rw[qD,dA (show k<[s.a,s.b,t.a,t.b].length from h),List.filter_append,nth_eq (show k<[s.a,s.b,t.a,t.b].length from h)];grind
def Zo(s t:S)(k:Nat):(cm s t k).length<=4:=ci (List.length_filter_le _ _) (by simp;omega)
noncomputable def Qo:Con:=con (a1 (aL .V)) (λl=>[l.length<=1000]) (λl=> .lst .V (jn l))
def aCm:Qo.Ok aH 209:=bA (a7 LK) (raw:=au) (λl=>[lp 3 4 l.length (λk=>[(so l k).length<=k]) [900] (λk=>[(3,.own 900 .V (so l k).length)]) (λk=>[(900,.row 53 .V (so l k))]) λk=>[cnt 6 5 (so l k).length (af (qso l k)),jN 8 5 (λj=>[j<=(so l k).length,af (qso l k) j,j<(so l k).length->¬qso l k j]) λj=>[jP 9 [¬(j<(so l k).length/\aDa (so l k) j=aDa l k)]]]]
  ) (λ_=>⟨_,rfl⟩) λl hp=>aw (q:=(0=(0:Int)/\(so l 0).length=0/\so l 0=([] :List V)/\(0:Nat)<=l.length/\(so l 0).length<=0)/\
 (∀x:Nat,x<=l.length/\(so l x).length<=x->((x:Int)<l.length->((0=(0:Int)/\(0:Nat)<=(so l x).length/\af (qso l x) 0)/\
    (∀x_1:Nat,x_1<=(so l x).length/\af (qso l x) x_1->((x_1:Int)<(so l x).length->ix (x_1:Int) (so l x).length/\x_1<(so l x).length/\ix (x:Int) l.length/\(bV (aDa (so l x) x_1) (aDa l x)=true->aG ((x_1:Int)+1)/\(x_1:Int)+1=((x_1+1:Nat):Int)/\x_1+1<=(so l x).length/\af (qso l x) (x_1+1)/\(so l x).length-(x_1+1)<(so l x).length-x_1)/\
      (bV (aDa (so l x) x_1) (aDa l x)=false->(x_1:Int)=x_1/\x_1<=(so l x).length/\af (qso l x) x_1/\(x_1<(so l x).length->¬qso l x x_1)))/\
     (¬(x_1:Int)<(so l x).length->(x_1:Int)=x_1/\x_1<=(so l x).length/\af (qso l x) x_1/\(x_1<(so l x).length->¬qso l x x_1))))/\
   (∀y:Nat,y<=(so l x).length/\af (qso l x) y/\(y<(so l x).length->¬qso l x y)->(((y:Int)<(so l x).length->ix (y:Int) (so l x).length/\y<(so l x).length/\ix (x:Int) l.length/\((aDa (so l x) y)=(aDa l x)->aG ((x:Int)+1)/\(x:Int)+1=((x+1:Nat):Int)/\(so l x).length=(so l (x+1)).length/\so l x=so l (x+1)/\x+1<=l.length/\(so l (x+1)).length<=x+1/\l.length-(x+1)<l.length-x)/\
      (¬(aDa (so l x) y)=(aDa l x)->¬(y<(so l x).length/\aDa (so l x) y=aDa l x)))/\
     (¬(y:Int)<(so l x).length->¬(y<(so l x).length/\aDa (so l x) y=aDa l x)))/\
    (∀y_1:Unit,¬(y<(so l x).length/\aDa (so l x) y=aDa l x)->(0<=(y:Int)/\(y:Int)<=(so l x).length)/\0+y<=(so l x).length/\([] :List V).length+(ai y (bT 0 (so l x))).length<=1000000/\ix (x:Int) l.length/\(([] :List V)++ai y (bT 0 (so l x))).length=(([] :List V)++ai y (bT 0 (so l x))).length/\(([] :List V)++ai y (bT 0 (so l x))).length+[(aDa l x)].length<=1000000/\(0<=(y:Int)/\(y:Int)<=(so l x).length)/\(([] :List V)++ai y (bT 0 (so l x))++[(aDa l x)]).length=(([] :List V)++ai y (bT 0 (so l x))++[(aDa l x)]).length/\y+((so l x).length-y)<=(so l x).length/\(([] :List V)++ai y (bT 0 (so l x))++[(aDa l x)]).length+(ai ((so l x).length-y) (bT y (so l x))).length<=1000000/\aG ((x:Int)+1)/\(x:Int)+1=((x+1:Nat):Int)/\(([] :List V)++ai y (bT 0 (so l x))++[(aDa l x)] ++ai ((so l x).length-y) (bT y (so l x))).length=(so l (x+1)).length/\([] :List V)++ai y (bT 0 (so l x))++[(aDa l x)] ++ai ((so l x).length-y) (bT y (so l x))=so l (x+1)/\x+1<=l.length/\(so l (x+1)).length<=x+1/\l.length-(x+1)<l.length-x)))/\
  (¬(x:Int)<l.length->(so l x).length=(so l x).length/\so l x=jn l))) (by kernel_rfl) (by
  change l.length<=1000 at hp;have e0:so l 0=[] :=rfl;have e1:so l l.length=jn l:=by unfold so;rw[jg]
  have el:∀x,x<l.length->(so l x).length<=x->(so l (x+1)).length<=x+1:=by intro x h h2;rw[Ad h];exact ci (Wn _ _) (by omega)
  have e2:(so l 0).length=0:=rfl
  with_reducible ((repeat' first|apply c6|intro);all_goals repeat cases‹_/\_›)
  all_goals first|assumption|rfl|exact trivial|exact nb ‹_› |exact nb' ‹_› |omega|exact fK (by omega)|(unfold ix;omega)|(unfold aG;omega)|exact d8 _|exact b8 ‹_› ‹_› |(refine b8 ‹_› ?_;simp_all;done)|exact JE (by omega) ‹_› ‹_› ‹_› ‹_› |exact congrArg fg (JE (by omega) ‹_› ‹_› ‹_› ‹_›)|exact HK (by omega) ‹_› ‹_› ‹_› (by omega) ‹_› |exact congrArg fg (HK (by omega) ‹_› ‹_› ‹_› (by omega) ‹_›)|exact el _ (by omega) ‹_› |(unfold qso at*;simp_all;done)|grind)
noncomputable def On:Tab:=ap [(209,Qo)] Oo
def LJ:On.Ok aH:=aq LK ⟨aCm,trivial⟩
noncomputable def c99:Con:=con (ac aS (a1 aS)) (λ(_,_)=>[]) (λ(s,t)=> .lst .V (fJ s t))
def k99:c99.Ok aH 139:=bA (a7 LJ) (raw:=au) (λ(s,t)=>[lp 4 7 4 (λ_=>[]) [900,11] (λk=>[(6,.own 900 .V (cm s t k).length),(5,.own 11 .V 4)]) (λk=>[(900,.row 53 .V (cm s t k)),(11,.row 53 .V [s.a,s.b,t.a,t.b])]) λk=>[jb 7 34 (onS s (aDa [s.a,s.b,t.a,t.b] k)&&onS t (aDa [s.a,s.b,t.a,t.b] k))]]
  ) (λ(_,_)=>⟨_,rfl⟩) λ(s,t) _=>aw (q:=(0=(0:Int)/\(cm s t 0).length=0/\(4:Nat)=4/\cm s t 0=([] :List V)/\[s.a,s.b,t.a,t.b] =[s.a,s.b,t.a,t.b]/\(0:Nat)<=4)/\
 (∀x:Nat,x<=4->((x:Int)<4->(ix (x:Int) 4/\x<[s.a,s.b,t.a,t.b].length/\(onS s (aDa [s.a,s.b,t.a,t.b] x)=true->ix (x:Int) 4/\x<[s.a,s.b,t.a,t.b].length/\onS t (aDa [s.a,s.b,t.a,t.b] x)=(onS s (aDa [s.a,s.b,t.a,t.b] x)&&onS t (aDa [s.a,s.b,t.a,t.b] x)))/\
    (onS s (aDa [s.a,s.b,t.a,t.b] x)=false->false=(onS s (aDa [s.a,s.b,t.a,t.b] x)&&onS t (aDa [s.a,s.b,t.a,t.b] x))))/\
   (∀y:Unit,((onS s (aDa [s.a,s.b,t.a,t.b] x)&&onS t (aDa [s.a,s.b,t.a,t.b] x))=true->ix (x:Int) 4/\x<[s.a,s.b,t.a,t.b].length/\(cm s t x).length=(cm s t x).length/\(cm s t x).length+[(aDa [s.a,s.b,t.a,t.b] x)].length<=1000000/\aG ((x:Int)+1)/\(x:Int)+1=((x+1:Nat):Int)/\(cm s t x++[(aDa [s.a,s.b,t.a,t.b] x)]).length=(cm s t (x+1)).length/\(4:Nat)=4/\cm s t x++[(aDa [s.a,s.b,t.a,t.b] x)] =cm s t (x+1)/\[s.a,s.b,t.a,t.b] =[s.a,s.b,t.a,t.b]/\x+1<=4/\4-(x+1)<4-x)/\
    ((onS s (aDa [s.a,s.b,t.a,t.b] x)&&onS t (aDa [s.a,s.b,t.a,t.b] x))=false->aG ((x:Int)+1)/\(x:Int)+1=((x+1:Nat):Int)/\(cm s t x).length=(cm s t (x+1)).length/\(4:Nat)=4/\cm s t x=cm s t (x+1)/\[s.a,s.b,t.a,t.b] =[s.a,s.b,t.a,t.b]/\x+1<=4/\4-(x+1)<4-x)))/\
  (¬(x:Int)<4->(cm s t x).length=(cm s t x).length/\(cm s t x).length<=1000/\jn (cm s t x)=fJ s t))) (by kernel_rfl) (by
  have e0:cm s t 0=[] :=rfl;have e4:jn (cm s t 4)=fJ s t:=rfl;have es:=λk=> @Yh s t k;have el:=Zo s t
  with_reducible ((repeat' first|apply c6|intro);all_goals repeat cases‹_/\_›)
  all_goals grind)
noncomputable def t99:Tab:=ap [(139,c99)] On
def NL:t99.Ok aH:=aq LJ ⟨k99,trivial⟩
noncomputable def c32:Con:=con (ac aS (a1 aS)) (λ(_,_)=>[]) (λ(s,t)=> .int .i64 (dB s t)
 )
def k32:c32.Ok aH 78:=bA (a7 NL) (raw:=au) (λ(_,_)=>[]) (λ(_,_)=>⟨_,rfl⟩) λ(s,t) _=>aw (q:=((!bQ s)=true->0=dB s t)/\
 ((!bQ s)=false->((!bQ t)=true->0=dB s t)/\
  ((!bQ t)=false->(1<((fJ s t).length:Int)->3=dB s t)/\
   (¬1<((fJ s t).length:Int)->(((fJ s t).length:Int)=1->1=dB s t)/\
    (¬((fJ s t).length:Int)=1->aG (fL s t.a*fL s t.b)/\(fL s t.a*fL s t.b<0->aG (fL t s.a*fL t s.b)/\(fL t s.a*fL t s.b<0->2=dB s t)/\
      (¬fL t s.a*fL t s.b<0->0=dB s t))/\
     (¬fL s t.a*fL s t.b<0->0=dB s t)))))) (by kernel_rfl) (by
  have d1:=v6 s t.a;have d2:=v6 s t.b;have d3:=v6 t s.a;have d4:=v6 t s.b;have m1:=iN d1 d2;have m2:=iN d3 d4;unfold dB
  with_reducible ((repeat' first|apply c6|intro);all_goals repeat cases‹_/\_›)
  all_goals grind)
noncomputable def t32:Tab:=ap [(78,c32)] t99
def OC:t32.Ok aH:=aq NL ⟨k32,trivial⟩
def eg(r:bE)(k:Nat):List S:=(bO k).map (c8 r)
def YY(r:bE)(k:Nat):eg r k++[(⟨aDa r k,aDa r ((k+1) % r.length)⟩:S)] =eg r (k+1):=by unfold eg;rw[sA,d7];rfl
def Zi(r:bE)(k:Nat):(eg r k).length=k:=by unfold eg;simp
def ar(r:bE)(k:Nat):Int:=((bO k).map λi=>aDe (aDa r i) (nxt r i)).sum
def BE(r:bE)(k:Nat):ar r (k+1)=ar r k+aDe (aDa r k) (aDa r ((k+1) % r.length)):=by unfold ar;rw[sA,d7,List.sum_append];simp[nxt]
def nW{r:bE}(h:near r=true){i:Nat}(hi:i<r.length){M:Int}(hM:2000<=M:=by decide):bd M (aDa r i):=uV (wB h i hi) hM
def X4{r:bE}{i:Nat}(hi:i<r.length)(h:(!bR (aDa r i) 2000)=true):near r=false:=by
 cases hn:near r with
 |false=>rfl
 |true=>have:=wB hn i hi;grind
def Wb{r:bE}(h:af (λi=>bR (aDa r i) 2000=true) r.length):near r=true:=by unfold near;rw[dm];intro v hv;obtain⟨j,hj,rfl⟩:=iK hv;rw[<-nth_eq hj];exact h j hj
def CV{r:bE}(h:near r=true):∀k:Nat,k<=r.length-> -8000000*(k:Int)<=ar r k/\ar r k<=8000000*k
 |0,_=>by simp[ar]
 |k+1,hk=>by
  have ih:=CV h k (by omega);have:=qV (nW h (i:=k) (by omega) (M:=2000)) (nW h (i:=(k+1) % r.length) (eO _ (by omega)) (M:=2000));rw[BE];unfold aDe;omega
noncomputable def RR:Con:=con (a1 (aL .V)) (λr=>[r.length<=100000]) (λr=> .lst .S (aR r))
def aCW:RR.Ok aH 25:=bA (a7 OC) (raw:=au) (λr=>[lp 5 4 r.length (λ_=>[]) [900] (λk=>[(3,.own 900 .S (eg r k).length)]) (λk=>[(900,.row 57 .S (eg r k))])]
  ) (λ_=>⟨_,rfl⟩) λr hp=>aw (q:=((r.length:Int)<2->aR r=([] :List S))/\
 (¬(r.length:Int)<2->(0=(0:Int)/\(eg r 0).length=0/\eg r 0=([] :List S)/\(0:Nat)<=r.length)/\
  (∀x:Nat,x<=r.length->((x:Int)<r.length->ix (x:Int) r.length/\aG ((x:Int)+1)/\(r.length:Int)≠0/\ix (((x+1) % r.length:Nat):Int) r.length/\(eg r x).length=(eg r x).length/\(eg r x).length+[(⟨(aDa r x),(aDa r ((x+1) % r.length))⟩:S)].length<=1000000/\aG ((x:Int)+1)/\(x:Int)+1=((x+1:Nat):Int)/\(eg r x++[(⟨(aDa r x),(aDa r ((x+1) % r.length))⟩:S)]).length=(eg r (x+1)).length/\eg r x++[(⟨(aDa r x),(aDa r ((x+1) % r.length))⟩:S)] =eg r (x+1)/\x+1<=r.length/\r.length-(x+1)<r.length-x)/\
   (¬(x:Int)<r.length->(eg r x).length=(eg r x).length/\eg r x=aR r)))) (by kernel_rfl) (by
  change r.length<=100000 at hp;have e0:eg r 0=[] :=rfl;have es:=YY r;have el:=Zi r;have ee:aR r=if r.length<2 then []else eg r r.length:=rfl
  repeat' first|with_reducible apply c6|with_reducible intro
  all_goals repeat with_reducible cases‹_/\_›
  all_goals first|assumption|rfl|exact trivial|exact nb ‹_› |exact nb' ‹_› |omega|exact fK (by omega)|(unfold ix;omega)|(unfold aG;omega)|exact d8 _|exact b8 ‹_› ‹_› |(refine b8 ‹_› ?_;simp_all;done)|grind)
noncomputable def PO:Tab:=ap [(25,RR)] t32
def ME:PO.Ok aH:=aq OC ⟨aCW,trivial⟩
noncomputable def Qr:Con:=con (a1 (aL .V)) (λr=>[r.length<=100000]) (λr=> .bool (near r))
def aCp:Qr.Ok aH 77:=bA (a7 ME) (raw:=au) (λr=>[cnt 2 3 r.length (af λi=>bR (aDa r i) 2000=true)]
  ) (λ_=>⟨_,rfl⟩) λr hp=>aw (q:=(0=(0:Int)/\(0:Nat)<=r.length/\af (λi=>bR (aDa r i) 2000=true) 0)/\
 (∀x:Nat,x<=r.length/\af (λi=>bR (aDa r i) 2000=true) x->((x:Int)<r.length->ix (x:Int) r.length/\(0:Int)<=2000/\(2000:Int)<=1000000000000/\((!bR (aDa r x) 2000)=true->false=near r)/\
   ((!bR (aDa r x) 2000)=false->aG ((x:Int)+1)/\(x:Int)+1=((x+1:Nat):Int)/\x+1<=r.length/\af (λi=>bR (aDa r i) 2000=true) (x+1)/\r.length-(x+1)<r.length-x))/\
  (¬(x:Int)<r.length->true=near r))) (by kernel_rfl) (by
  change r.length<=100000 at hp;have e1:= @X4 r;have e2:= @Wb r
  repeat' first|with_reducible apply c6|with_reducible intro
  all_goals repeat with_reducible cases‹_/\_›
  all_goals first|assumption|rfl|exact trivial|exact nb ‹_› |exact nb' ‹_› |omega|exact fK (by omega)|(unfold ix;omega)|(unfold aG;omega)|exact d8 _|exact b8 ‹_› ‹_› |(refine b8 ‹_› ?_;simp_all;done)|exact(e2 (by rw[show r.length=_ from(by omega)];assumption)).symm|grind)
noncomputable def Ot:Tab:=ap [(77,Qr)] PO
def LN:Ot.Ok aH:=aq ME ⟨aCp,trivial⟩
noncomputable def RJ:Con:=con (a1 (aL .V)) (λr=>[near r=true,r.length<=100000]) (λr=> .int .i64 (gP r))
def aCP:RJ.Ok aH 79:=bA (a7 LN) (raw:=au) (λr=>[lp 3 4 r.length (λ_=>[]) [] (λk=>[(3,.int .i64 (ar r k))]) (λ_=>[])]
  ) (λ_=>⟨_,rfl⟩) λr hp=>aw (q:=(0=(0:Int)/\0=ar r 0/\(0:Nat)<=r.length)/\
 (∀x:Nat,x<=r.length->((x:Int)<r.length->ix (x:Int) r.length/\aG ((x:Int)+1)/\(r.length:Int)≠0/\ix (((x+1) % r.length:Nat):Int) r.length/\bd 2000000000 (aDa r x)/\bd 2000000000 (aDa r ((x+1) % r.length))/\aG (ar r x+aDe (aDa r x) (aDa r ((x+1) % r.length)))/\aG ((x:Int)+1)/\(x:Int)+1=((x+1:Nat):Int)/\ar r x+aDe (aDa r x) (aDa r ((x+1) % r.length))=ar r (x+1)/\x+1<=r.length/\r.length-(x+1)<r.length-x)/\
  (¬(x:Int)<r.length->ar r x=gP r))) (by kernel_rfl) (by
  change near r=true/\r.length<=100000 at hp;have e0:ar r r.length=gP r:=rfl;have es:=BE r;have eb:∀x,x<r.length->aG (ar r x+aDe (aDa r x) (aDa r ((x+1) % r.length))):=λx h=>by rw[<-es];exact cl (by have:=CV hp.1 (x+1) (by omega);omega)
  have en:=λi hi=> @nW r hp.1 i hi 2000000000
  repeat' first|with_reducible apply c6|with_reducible intro
  all_goals repeat with_reducible cases‹_/\_›
  all_goals first|assumption|rfl|exact trivial|exact nb ‹_› |exact nb' ‹_› |omega|exact fK (by omega)|(unfold ix;omega)|(unfold aG;omega)|exact d8 _|exact b8 ‹_› ‹_› |(refine b8 ‹_› ?_;simp_all;done)|exact eb _ (by omega)|exact en _ (by omega) (by decide)|exact en _ (eO _ (by omega)) (by decide)|(rw[es])|grind)
noncomputable def PH:Tab:=ap [(79,RJ)] Ot
def Lz:PH.Ok aH:=aq LN ⟨aCP,trivial⟩
noncomputable def QX:Con:=con (a1 aI) (λn=>[-9000000000000000000<=n,n<=9000000000000000000]) (λn=> .int .i64 (n.natAbs:Int)
 )
def aB4:QX.Ok aH 247:=bA (a7 Lz) (raw:=au) (λ_=>[]) (λ_=>⟨_,rfl⟩) λn hp=>aw (q:=(0<=n->n=bm n)/\
 (¬0<=n->aG (0-n)/\0-n=bm n)) (by kernel_rfl) (by
  change-9000000000000000000<=n/\n<=9000000000000000000 at hp
  repeat' first|with_reducible apply c6|with_reducible intro
  all_goals repeat with_reducible cases‹_/\_›
  all_goals first|assumption|rfl|exact trivial|exact nb ‹_› |exact nb' ‹_› |omega|exact fK (by omega)|(unfold ix;omega)|(unfold aG;omega)|exact d8 _|exact b8 ‹_› ‹_› |(refine b8 ‹_› ?_;simp_all;done)|grind)
noncomputable def OT:Tab:=ap [(247,QX)] PH
def Ku:OT.Ok aH:=aq Lz ⟨aB4,trivial⟩
noncomputable def QY:Con:=con (ac aI (a1 aI)) (λ(a,b)=>[0<=a,0<=b]) (λ(a,b)=> .int .i64 ((cE a.natAbs b.natAbs:Nat):Int))
def aB5:QY.Ok aH 246:=bA (a7 Ku) (raw:=au) (λ(a,b)=>[(1,.mk (Int×Int) (λF _=>Pj F 0 1) [] (λp=>[0<=p.1,0<=p.2,cE p.1.natAbs p.2.natAbs=cE a.natAbs b.natAbs]) (λp=>[(0,.int .i64 p.1),(1,.int .i64 p.2)]) (λ_=>[]) (λp=>p.2.natAbs) (λ_=>[]))]
  ) (λ(_,_)=>⟨_,rfl⟩) λ(a,b) hp=>aw (q:=(a=a/\b=b/\0<=a/\0<=b/\cE (bm a) (bm b)=cE (bm a) (bm b))/\
 (∀x:Prod Int Int,0<=x.1/\0<=x.2/\cE (bm x.1) (bm x.2)=cE (bm a) (bm b)->(¬x.2=0->x.2≠0/\x.2=x.2/\dr x.1 x.2=dr x.1 x.2/\0<=x.2/\0<=dr x.1 x.2/\cE (bm x.snd) (bm (dr x.1 x.2))=cE (bm a) (bm b)/\bm (dr x.1 x.2)<bm x.2)/\
  (¬(¬x.2=0)->x.1=cE (bm a) (bm b)))) (by kernel_rfl) (by
  change 0<=a/\0<=b at hp;have e1:∀x y:Int,0<=x->0<=y->cE y.natAbs (dr x y).natAbs=cE x.natAbs y.natAbs:=λx y _ _=>by rw[DV,DW,<-Nat.gcd_rec,DW]
  have e2:∀x y:Int,0<=x->¬y=0->(dr x y).natAbs<y.natAbs:=λx y _ h=>by rw[DV];exact eO _ (by omega)
  have e3:∀x y:Int,0<=x->0<=dr x y:=λx y h=>Int.tmod_nonneg _ h
  repeat' first|with_reducible apply c6|with_reducible intro
  all_goals repeat with_reducible cases‹_/\_›
  all_goals first|assumption|rfl|exact trivial|exact nb ‹_› |exact nb' ‹_› |omega|exact fK (by omega)|(unfold ix;omega)|(unfold aG;omega)|exact d8 _|exact b8 ‹_› ‹_› |(refine b8 ‹_› ?_;simp_all;done)|exact e3 _ _ ‹_› |exact e2 _ _ (by assumption) ‹_› |(rw[e1 _ _ (by assumption) (by assumption)];assumption)|(have h0:=yW ‹¬¬_›;simp_all;omega)|grind)
noncomputable def OU:Tab:=ap [(246,QY)] OT
def Kv:OU.Ok aH:=aq Ku ⟨aB5,trivial⟩
def PtB(p:Pt):Prop:=(1<=p.den/\p.den<=134217728)/\(-600000000000<=p.x/\p.x<=600000000000)/\(-600000000000<=p.y/\p.y<=600000000000)
def PtB.of{p:Pt}(h:dE p=true):PtB p:=by unfold dE di bR at h;simp only[cD,decide_eq_true_eq]at h;unfold PtB;omega
def PtB.off{p:Pt}(hp:PtB p){v:V}(hv:bd 10000 v):(-1400000000000<=v.x*p.den/\v.x*p.den<=1400000000000)/\(-1400000000000<=v.y*p.den/\v.y*p.den<=1400000000000):=by have h1:=iN (x:=v.x) (y:=p.den) (A:=10000) (B:=134217728) (by unfold bd at hv;omega) (by unfold PtB at hp;omega);have h2:=iN (x:=v.y) (y:=p.den) (A:=10000) (B:=134217728) (by unfold bd at hv;omega) (by unfold PtB at hp;omega);omega
noncomputable def Qq:Con:=con (a1 aT) (λ_=>[]) (λp=> .bool (dE p))
def aCo:Qq.Ok aH 230:=bA (a7 Kv) (raw:=au) (λp=>[jb 2 42 (!di p 4000)]
  ) (λ_=>⟨_,rfl⟩) λp _=>aw (q:=((p.den<1->true=(!di p 4000))/\
  (¬p.den<1->(134217728<p.den->true=(!di p 4000))/\
   (¬134217728<p.den->aG (-4000*p.den)/\(p.x< -4000*p.den->true=(!di p 4000))/\
    (¬p.x< -4000*p.den->aG (4000*p.den)/\(4000*p.den<p.x->true=(!di p 4000))/\
     (¬4000*p.den<p.x->aG (-4000*p.den)/\(p.y< -4000*p.den->true=(!di p 4000))/\
      (¬p.y< -4000*p.den->aG (4000*p.den)/\decide (4000*p.den<p.y)=(!di p 4000)))))))/\
 (∀y:Unit,((!di p 4000)=true->false=dE p)/\
  ((!di p 4000)=false-> -9000000000000000000<=p.x/\p.x<=9000000000000000000/\ -9000000000000000000<=p.y/\p.y<=9000000000000000000/\0<=(bm p.x:Int)/\0<=(bm p.y:Int)/\0<=(cE (bm (bm p.x:Int)) (bm (bm p.y:Int)):Int)/\0<=p.den/\decide ((cE (bm (cE (bm (bm p.x:Int)) (bm (bm p.y:Int)):Int)) (bm p.den):Int)=1)=dE p))) (by kernel_rfl) (by
  unfold dE di bR;simp only[Int.natAbs_natCast]
  repeat' first|with_reducible apply c6|with_reducible intro
  all_goals repeat with_reducible cases‹_/\_›
  all_goals first|assumption|rfl|exact trivial|exact nb ‹_› |exact nb' ‹_› |omega|exact fK (by omega)|(unfold ix;omega)|(unfold aG;omega)|exact d8 _|exact b8 ‹_› ‹_› |(refine b8 ‹_› ?_;simp_all;done)|grind)
noncomputable def Oq:Tab:=ap [(230,Qq)] OU
def LM:Oq.Ok aH:=aq Kv ⟨aCo,trivial⟩
noncomputable def Qm:Con:=con (ac aV (ac aV (a1 aT))) (λ(a,b,p)=>[bd 10000 a,bd 10000 b,PtB p]) (λ(a,b,p)=> .int .i64 (sgn (fe ⟨a,b⟩ p))
 )
def aCj:Qm.Ok aH 200:=bA (a7 LM) (raw:=au) (λ(_,_,_)=>[]) (λ(_,_,_)=>⟨_,rfl⟩) λ(a,b,p) hp=>aw (q:=bd 1000000000 b/\bd 1000000000 a/\aG (a.y*p.den)/\aG (p.y-a.y*p.den)/\aG ((aDd b a).x*(p.y-a.y*p.den))/\aG (a.x*p.den)/\aG (p.x-a.x*p.den)/\aG ((aDd b a).y*(p.x-a.x*p.den))/\aG ((aDd b a).x*(p.y-a.y*p.den)-(aDd b a).y*(p.x-a.x*p.den))/\sgn ((aDd b a).x*(p.y-a.y*p.den)-(aDd b a).y*(p.x-a.x*p.den))=sgn (fe (⟨a,b⟩:S) p)) (by kernel_rfl) (by change bd 10000 a/\bd 10000 b/\PtB p at hp;have h1:=hp.2.2.off hp.1;have h2:=jp hp.2.1 hp.1;have h3:=hp.2.2;unfold PtB at h3;have m1:=iN (A:=20000) (B:=2000000000000) h2.1 (y:=p.y-a.y*p.den) (by omega);have m2:=iN (A:=20000) (B:=2000000000000) h2.2 (y:=p.x-a.x*p.den) (by omega);exact⟨hp.2.1.mono,hp.1.mono,cl (by omega),cl (by omega),cl (by omega),cl (by omega),cl (by omega),cl (by omega),cl (by omega),rfl⟩)
noncomputable def Ol:Tab:=ap [(200,Qm)] Oq
def LH:Ol.Ok aH:=aq LM ⟨aCj,trivial⟩
def inR(s:S)(p:Pt):Bool:=decide (min s.a.x s.b.x*p.den<=p.x)&&decide (p.x<=max s.a.x s.b.x*p.den)&&decide (min s.a.y s.b.y*p.den<=p.y)&&decide (p.y<=max s.a.y s.b.y*p.den)
noncomputable def Qn:Con:=con (ac aS (a1 aT)) (λ(s,p)=>[bd 10000 s.a,bd 10000 s.b,PtB p]) (λ(s,p)=> .bool (onR s p))
def aCk:Qn.Ok aH 231:=bA (a7 LH) (raw:=au) (λ(s,p)=>[jb 2 5 (inR s p)]
  ) (λ(_,_)=>⟨_,rfl⟩) λ(s,p) hp=>aw (q:=(aG (Min.min s.a.x s.b.x*p.den)/\(Min.min s.a.x s.b.x*p.den<=p.x->aG (Max.max s.a.x s.b.x*p.den)/\(p.x<=Max.max s.a.x s.b.x*p.den->aG (Min.min s.a.y s.b.y*p.den)/\(Min.min s.a.y s.b.y*p.den<=p.y->aG (Max.max s.a.y s.b.y*p.den)/\decide (p.y<=Max.max s.a.y s.b.y*p.den)=inR s p)/\
    (¬Min.min s.a.y s.b.y*p.den<=p.y->false=inR s p))/\
   (¬p.x<=Max.max s.a.x s.b.x*p.den->false=inR s p))/\
  (¬Min.min s.a.x s.b.x*p.den<=p.x->false=inR s p))/\
 (∀y:Unit,(inR s p=true->bd 10000 s.a/\bd 10000 s.b/\PtB p/\decide (sgn (fe s p)=0)=onR s p)/\
  (inR s p=false->false=onR s p))) (by kernel_rfl) (by
  change bd 10000 s.a/\bd 10000 s.b/\PtB p at hp;have h1:=hp.2.2.off (v:=⟨min s.a.x s.b.x,min s.a.y s.b.y⟩) (by unfold bd at*;grind);have h2:=hp.2.2.off (v:=⟨max s.a.x s.b.x,max s.a.y s.b.y⟩) (by unfold bd at*;grind);dsimp only at h1 h2;have e:onR s p=(inR s p&&sgn (fe s p)==0):=rfl;unfold inR at*
  repeat' first|with_reducible apply c6|with_reducible intro
  all_goals repeat with_reducible cases‹_/\_›
  all_goals first|assumption|rfl|exact trivial|exact nb ‹_› |exact nb' ‹_› |omega|exact fK (by omega)|(unfold ix;omega)|(unfold aG;omega)|exact d8 _|exact b8 ‹_› ‹_› |(refine b8 ‹_› ?_;simp_all;done)|grind)
noncomputable def Om:Tab:=ap [(231,Qn)] Ol
def LI:Om.Ok aH:=aq LH ⟨aCk,trivial⟩
def gF(r:bE)(i k:Nat):Bool:=if k=i+1\/(i=0/\k=r.length-1)then dB (c8 r i) (c8 r k)==1 else dB (c8 r i) (c8 r k)==0
def vR(r:bE):dO r=true↔3<=r.length/\r.length<=40/\near r=true/\(∀i,i<r.length->bZ (aDa r i) (aDa r ((i+1) % r.length)) (aDa r ((i+2) % r.length))≠0)/\(∀i k,i<k->k<r.length->gF r i k=true)/\0<gP r:=by
 unfold dO;simp only[cD,decide_eq_true_eq,dm,dY,bne_iff_ne,jI];constructor
 .rintro⟨⟨⟨⟨⟨h1,h2⟩,h3⟩,h4⟩,h5⟩,h6⟩;refine⟨h1,h2,h3,h4,λi k hik hk=> ?_,h6⟩;rcases h5 i (by omega) k hk with h|h
  .omega
  .exact h
 .rintro⟨h1,h2,h3,h4,h5,h6⟩;refine⟨⟨⟨⟨⟨h1,h2⟩,h3⟩,h4⟩,λi hi k hk=> ?_⟩,h6⟩;by_cases h:k<=i
  .exact .inl h
  .exact .inr (h5 i k (by omega) hk)
def sK(r:bE)(h:2<=r.length):(aR r).length=r.length:=by unfold aR;grind
def sP{r:bE}{i:Nat}(h:2<=r.length)(hi:i<r.length):aK (aR r) i=c8 r i:=by rw[l6 (by rw[sK r h];exact hi)];simp only[aR,if_neg (show¬r.length<2 by omega),vF,vG]
def uc(p:Pt)(l:List S):Bool:=l.foldl (λb s=>b !=iD s p) false
def Un{p:Pt}{l:List S}{k:Nat}(h:k<l.length):uc p (l.take (k+1))=(uc p (l.take k) !=iD (aK l k) p):=by unfold uc;rw[qD,dA h,DU,l6 h];rfl
def Fz{p:Pt}:∀{l:List S} {k:Nat} (ins:Bool),k<l.length->(∀j,j<k->onR (aK l j) p=false)->onR (aK l k) p=true->jr p l ins=1
 |[],k,ins,h,_,_=>by simp at h
 |s::l,0,ins,h,_,h2=>by
  unfold jr;rw[show onR s p=true from h2];rfl
 |s::l,k+1,ins,h,h1,h2=>by
  unfold jr;rw[show onR s p=false from h1 0 (by omega)];exact Fz (l:=l) (k:=k) _ (by simpa using h) (λj hj=>h1 (j+1) (by omega)) h2
def FB{p:Pt}:∀{l:List S} (ins:Bool),(∀j,j<l.length->onR (aK l j) p=false)->jr p l ins=if l.foldl (λb s=>b !=iD s p) ins=true then 2 else 0
 |[],ins,_=>rfl
 |s::l,ins,h1=>by
  unfold jr;rw[show onR s p=false from h1 0 (by simp)];exact FB (l:=l) _ (λj hj=>h1 (j+1) (by grind))
def pr(r:bE)(p:Pt)(k:Nat):Bool:=uc p ((aR r).take k)
def IM{r:bE}(h:dO r=true){j:Nat}(hj:j<(aR r).length):bd 2000 (aK (aR r) j).a/\bd 2000 (aK (aR r) j).b:=by obtain⟨h1,h2,h3,_⟩:=(vR r).1 h;rw[sK r (by omega)]at hj;rw[sP (by omega) hj];exact⟨nW h3 hj,nW h3 (eO _ (by omega))⟩
def nxR(r:bE)(i k:Nat):Bool:=decide (k=i+1\/(i=0/\k=r.length-1))
abbrev nE(r:bE)(i:Nat):S:=aK (aR r) i
def upR(e:S)(p:Pt):Bool:=decide (e.a.y*p.den<=p.y)&&decide (p.y<e.b.y*p.den)
def dnR(e:S)(p:Pt):Bool:=decide (e.b.y*p.den<=p.y)&&decide (p.y<e.a.y*p.den)
def tp(r:bE)(i:Nat):Prop:=bZ (aDa r i) (aDa r ((i+1) % r.length)) (aDa r ((i+2) % r.length))≠0
noncomputable def c91:Con:=con (a1 (aL .V)) (λr=>[r.length<=100000]) (λr=> .bool (dO r))
def k91:c91.Ok aH 24:=bA (a7 LI) (raw:=au) (λr=>[jP 4 [3<=r.length,r.length<=40,near r=true],cnt 5 4 r.length (af (tp r)),cnt 11 6 r.length (af λi=>∀k,i<k->k<r.length->gF r i k=true) λi=>[(14,.mk Nat (λF _=>np F 7) [] (λk=>[i<k,k<=r.length,∀j,i<j->j<k->gF r i j=true]) (λk=>[(7,.int .i64 (k:Int))]) (λ_=>[]) (λk=>r.length-k) λk=>[jb 17 8 (nxR r i k),jb 19 97 (!gF r i k)])]]
  ) (λ_=>⟨_,rfl⟩) λr hp=>aw (q:=(((r.length:Int)<3->false=dO r)/\
  (¬(r.length:Int)<3->(40<(r.length:Int)->false=dO r)/\
   (¬40<(r.length:Int)->r.length<=100000/\((!near r)=true->false=dO r)/\
    ((!near r)=false->(3:Nat)<=r.length/\r.length<=40/\near r=true))))/\
 (∀y:Unit,(3:Nat)<=r.length/\r.length<=40/\near r=true->(0=(0:Int)/\(0:Nat)<=r.length/\af (tp r) 0)/\
  (∀x:Nat,x<=r.length/\af (tp r) x->((x:Int)<r.length->ix (x:Int) r.length/\aG ((x:Int)+1)/\(r.length:Int)≠0/\ix (((x+1) % r.length:Nat):Int) r.length/\aG ((x:Int)+2)/\(r.length:Int)≠0/\ix (((x+2) % r.length:Nat):Int) r.length/\bd 1000000000 (aDa r x)/\bd 1000000000 (aDa r ((x+1) % r.length))/\bd 1000000000 (aDa r ((x+2) % r.length))/\(bZ (aDa r x) (aDa r ((x+1) % r.length)) (aDa r ((x+2) % r.length))=0->false=dO r)/\
    (¬bZ (aDa r x) (aDa r ((x+1) % r.length)) (aDa r ((x+2) % r.length))=0->aG ((x:Int)+1)/\(x:Int)+1=((x+1:Nat):Int)/\x+1<=r.length/\af (tp r) (x+1)/\r.length-(x+1)<r.length-x))/\
   (¬(x:Int)<r.length->r.length<=100000/\(0=(0:Int)/\(0:Nat)<=r.length/\af (λi=>∀k:Nat,i<k->k<r.length->gF r i k=true) 0)/\
    (∀x_1:Nat,x_1<=r.length/\af (λi=>∀k:Nat,i<k->k<r.length->gF r i k=true) x_1->((x_1:Int)<r.length->aG ((x_1:Int)+1)/\((x_1:Int)+1=((x_1+1:Nat):Int)/\x_1<x_1+1/\x_1+1<=r.length/\(∀j:Nat,x_1<j->j<x_1+1->gF r x_1 j=true))/\
      (∀x_2:Nat,x_1<x_2/\x_2<=r.length/\(∀j:Nat,x_1<j->j<x_2->gF r x_1 j=true)->((x_2:Int)<r.length->(aG ((x_1:Int)+1)/\((x_2:Int)=x_1+1->true=nxR r x_1 x_2)/\
         (¬(x_2:Int)=x_1+1->((x_1:Int)=0->aG ((r.length:Int)-1)/\decide ((x_2:Int)=r.length-1)=nxR r x_1 x_2)/\
          (¬(x_1:Int)=0->false=nxR r x_1 x_2)))/\
        (∀y_1:Unit,ix (x_1:Int) (aR r).length/\ix (x_2:Int) (aR r).length/\((nxR r x_1 x_2=true->(¬dB (aK (aR r) x_1) (aK (aR r) x_2)=1->true=(!gF r x_1 x_2))/\
           (¬(¬dB (aK (aR r) x_1) (aK (aR r) x_2)=1)->((!nxR r x_1 x_2)=true->decide (¬dB (aK (aR r) x_1) (aK (aR r) x_2)=0)=(!gF r x_1 x_2))/\
            ((!nxR r x_1 x_2)=false->false=(!gF r x_1 x_2))))/\
          (nxR r x_1 x_2=false->((!nxR r x_1 x_2)=true->decide (¬dB (aK (aR r) x_1) (aK (aR r) x_2)=0)=(!gF r x_1 x_2))/\
           ((!nxR r x_1 x_2)=false->false=(!gF r x_1 x_2))))/\
         (∀y_2:Unit,((!gF r x_1 x_2)=true->false=dO r)/\
          ((!gF r x_1 x_2)=false->aG ((x_2:Int)+1)/\(x_2:Int)+1=((x_2+1:Nat):Int)/\x_1<x_2+1/\x_2+1<=r.length/\(∀j:Nat,x_1<j->j<x_2+1->gF r x_1 j=true)/\r.length-(x_2+1)<r.length-x_2))))/\
       (¬(x_2:Int)<r.length->aG ((x_1:Int)+1)/\(x_1:Int)+1=((x_1+1:Nat):Int)/\x_1+1<=r.length/\af (λi=>∀k:Nat,i<k->k<r.length->gF r i k=true) (x_1+1)/\r.length-(x_1+1)<r.length-x_1)))/\
     (¬(x_1:Int)<r.length->near r=true/\r.length<=100000/\decide (0<gP r)=dO r)))))) (by kernel_rfl) (by
  change r.length<=100000 at hp;have iff:=vR r;have hf:(dO r=true->False)->false=dO r:=λh=>by grind
  have el:3<=r.length->(aR r).length=r.length:=λh=>sK r (by omega);have en:near r=true->∀i,i<r.length->bd 1000000000 (aDa r i):=λh i hi=>nW h hi;have hp':3<=r.length->∀i k,i<k->k<r.length->gF r i k=if nxR r i k=true then dB (aK (aR r) i) (aK (aR r) k)==1 else dB (aK (aR r) i) (aK (aR r) k)==0:=λh i k h1 h2=>by unfold gF nxR;rw[sP (by omega) (by omega),sP (by omega) (by omega)];grind
  have hE:3<=r.length->r.length<=40->near r=true->∀x y:Nat,¬(x:Int)<r.length->¬(y:Int)<r.length->af (tp r) x->af (λi=>∀k:Nat,i<k->k<r.length->gF r i k=true) y->decide (0<gP r)=dO r:=λh1 h2 h3 x y hx hy h4 h5=>by rw[lZ,iff,decide_eq_true_eq];exact⟨λh=>⟨h1,h2,h3,λi hi=>h4 i (by omega),λi k hi hk=>h5 i (by omega) k hi hk,h⟩,λh=>h.2.2.2.2.2⟩
  repeat' first|with_reducible apply c6|with_reducible intro
  all_goals repeat with_reducible cases‹_/\_›
  all_goals first|assumption|rfl|exact trivial|exact nb ‹_› |exact nb' ‹_› |omega|exact fK (by omega)|(unfold ix;omega)|(unfold aG;omega)|exact d8 _|exact b8 ‹_› ‹_› |(refine b8 ‹_› ?_;simp_all;done)|exact en ‹_› _ (by omega)|exact en ‹_› _ (eO _ (by omega))|(rw[el ‹_›];exact uA (by omega))|exact hE ‹_› ‹_› ‹_› _ _ ‹_› ‹_› ‹_› ‹_› |(refine hf λh=> ?_;have h:=iff.1 h;first|omega|(exact h.2.2.2.1 _ (by omega) ‹_=0›)|(have h2:=h.2.2.2.2.1 _ _ ‹_› (by omega);simp_all;done)|(simp_all;done))|(refine b8 ‹_› ?_;grind)|(unfold nxR;exact(decide_eq_true (by omega)).symm)|(unfold nxR;exact(decide_eq_false (by omega)).symm)|(unfold nxR;exact decide_eq_decide.2 (by omega))|(rw[hp' ‹_› _ _ ‹_› (by omega),‹nxR _ _ _=_›];grind)|(intro j h1 h2;omega)|grind)
noncomputable def t91:Tab:=ap [(24,c91)] Om
def NU:t91.Ok aH:=aq LI ⟨k91,trivial⟩
noncomputable def RQ:Con:=con (ac (aL .V) (a1 aT)) (λ(r,_)=>[r.length<=100000]) (λ(r,p)=> .int .i64 (dQ r p))
def aCV:RQ.Ok aH 168:=bA (a7 NU) (raw:=au) (λ(r,p)=>[jP 3 [dO r=true,dE p=true],lp 6 7 (aR r).length (λk=>[af (λj=>onR (nE r j) p=false) k]) [] (λk=>[(6,.bool (pr r p k))]) (λ_=>[]) λk=>[(10012,.mk Unit (λ_ _=>some ()) [] (λ_=>[]) (λ_=>[(10,.bool (upR (nE r k) p)),(11,.bool (dnR (nE r k) p))]) (λ_=>[]) (λ_=>0) λ_=>[]),jb 13 97 (iD (nE r k) p)]]
  ) (λ(_,_)=>⟨_,rfl⟩) λ(r,p) hp=>aw (q:=(r.length<=100000/\((!dO r)=true->0=dQ r p)/\
  ((!dO r)=false->((!dE p)=true->0=dQ r p)/\
   ((!dE p)=false->dO r=true/\dE p=true)))/\
 (∀y:Unit,dO r=true/\dE p=true->r.length<=100000/\(0=(0:Int)/\false=pr r p 0/\(0:Nat)<=(aR r).length/\af (λj=>onR (nE r j) p=false) 0)/\
  (∀x:Nat,x<=(aR r).length/\af (λj=>onR (nE r j) p=false) x->((x:Int)<(aR r).length->ix (x:Int) (aR r).length/\bd 10000 (nE r x).a/\bd 10000 (nE r x).b/\PtB p/\(onR (nE r x) p=true->1=dQ r p)/\
    (onR (nE r x) p=false->ix (x:Int) (aR r).length/\ix (x:Int) (aR r).length/\(aG ((nE r x).a.y*p.den)/\((nE r x).a.y*p.den<=p.y->aG ((nE r x).b.y*p.den)/\aG ((nE r x).b.y*p.den)/\((nE r x).b.y*p.den<=p.y->aG ((nE r x).a.y*p.den)/\decide (p.y<(nE r x).b.y*p.den)=upR (nE r x) p/\decide (p.y<(nE r x).a.y*p.den)=dnR (nE r x) p)/\
       (¬(nE r x).b.y*p.den<=p.y->decide (p.y<(nE r x).b.y*p.den)=upR (nE r x) p/\false=dnR (nE r x) p))/\
      (¬(nE r x).a.y*p.den<=p.y->aG ((nE r x).b.y*p.den)/\((nE r x).b.y*p.den<=p.y->aG ((nE r x).a.y*p.den)/\false=upR (nE r x) p/\decide (p.y<(nE r x).a.y*p.den)=dnR (nE r x) p)/\
       (¬(nE r x).b.y*p.den<=p.y->false=upR (nE r x) p/\false=dnR (nE r x) p)))/\
     (∀y_1:Unit,((upR (nE r x) p=true->bd 10000 (nE r x).a/\bd 10000 (nE r x).b/\PtB p/\(0<sgn (fe (nE r x) p)->true=iD (nE r x) p)/\
        (¬0<sgn (fe (nE r x) p)->(dnR (nE r x) p=true->bd 10000 (nE r x).a/\bd 10000 (nE r x).b/\PtB p/\decide (sgn (fe (nE r x) p)<0)=iD (nE r x) p)/\
         (dnR (nE r x) p=false->false=iD (nE r x) p)))/\
       (upR (nE r x) p=false->(dnR (nE r x) p=true->bd 10000 (nE r x).a/\bd 10000 (nE r x).b/\PtB p/\decide (sgn (fe (nE r x) p)<0)=iD (nE r x) p)/\
        (dnR (nE r x) p=false->false=iD (nE r x) p)))/\
      (∀y_2:Unit,(iD (nE r x) p=true->aG ((x:Int)+1)/\(x:Int)+1=((x+1:Nat):Int)/\(!pr r p x)=pr r p (x+1)/\x+1<=(aR r).length/\af (λj=>onR (nE r j) p=false) (x+1)/\(aR r).length-(x+1)<(aR r).length-x)/\
       (iD (nE r x) p=false->aG ((x:Int)+1)/\(x:Int)+1=((x+1:Nat):Int)/\pr r p x=pr r p (x+1)/\x+1<=(aR r).length/\af (λj=>onR (nE r j) p=false) (x+1)/\(aR r).length-(x+1)<(aR r).length-x)))))/\
   (¬(x:Int)<(aR r).length->(pr r p x=true->2=dQ r p)/\
    (pr r p x=false->0=dQ r p))))) (by kernel_rfl) (by
  change r.length<=100000 at hp;have e0:pr r p 0=false:=rfl;have es:∀k,k<(aR r).length->pr r p (k+1)=(pr r p k !=iD (nE r k) p):=λk h=>Un h;have eh:∀e,iD e p=(upR e p&&decide (0<sgn (fe e p))||dnR e p&&decide (sgn (fe e p)<0)):=λe=>rfl;have hw0:dO r=false\/dE p=false->0=dQ r p:=λh=>by unfold dQ;grind
  have hw:dO r=true->dE p=true->dQ r p=jr p (aR r) false:=λh1 h2=>by unfold dQ;simp[h1,h2]
  have eb:dO r=true->∀j,j<(aR r).length->bd 2000 (nE r j).a/\bd 2000 (nE r j).b:=λh j hj=>IM h hj;have el:(aR r).length<=100000:=by unfold aR;split<;>simp<;>omega
  have ey:dO r=true->dE p=true->∀j,j<(aR r).length->aG ((nE r j).a.y*p.den)/\aG ((nE r j).b.y*p.den):=λh1 h2 j hj=>⟨cl (by have:=(PtB.of h2).off (eb h1 j hj).1.mono;omega),cl (by have:=(PtB.of h2).off (eb h1 j hj).2.mono;omega)⟩;have s1:∀j,j<(aR r).length->af (λj=>onR (nE r j) p=false) j->onR (nE r j) p=true->jr p (aR r) false=1:=λj h1 h2 h3=>Fz false h1 h2 h3;have s2:∀k:Nat,¬(k:Int)<(aR r).length->k<=(aR r).length->af (λj=>onR (nE r j) p=false) k->jr p (aR r) false=if pr r p k=true then 2 else 0:=λk h1 h2 h=>by
   obtain rfl:k=(aR r).length:=by omega
   rw[FB false h];unfold pr uc;grind
  repeat' first|with_reducible apply c6|with_reducible intro
  all_goals repeat with_reducible cases‹_/\_›
  all_goals first|assumption|rfl|exact trivial|exact nb ‹_› |exact nb' ‹_› |omega|exact fK (by omega)|(unfold ix;omega)|(unfold aG;omega)|exact d8 _|exact b8 ‹_› ‹_› |(refine b8 ‹_› ?_;simp_all;done)|exact(eb ‹_› _ (by omega)).1.mono|exact(eb ‹_› _ (by omega)).2.mono|exact(ey ‹_› ‹_› _ (by omega)).1|exact(ey ‹_› ‹_› _ (by omega)).2|exact PtB.of ‹_› |exact hw0 (.inl (nb' ‹_›))|exact hw0 (.inr (nb' ‹_›))|(rw[hw ‹_› ‹_›,s1 _ (by omega) ‹_› ‹_›])|(rw[hw ‹_› ‹_›,s2 _ ‹_› ‹_› ‹_›,‹pr _ _ _=_›];rfl)|(rw[es _ (by omega),‹iD _ _=_›];simp;done)|(rw[eh,‹upR _ _=_›,‹dnR _ _=_›];grind)|(rw[eh,‹upR _ _=_›];simp_all;done)|(unfold upR;simp_all;done)|(unfold dnR;simp_all;done)|grind)
noncomputable def PN:Tab:=ap [(168,RQ)] t91
def MD:PN.Ok aH:=aq NU ⟨aCV,trivial⟩
noncomputable def c36:Con:=con (ac (aL .V) (a1 aV)) (λ(r,_)=>[r.length<=100000]) (λ(r,v)=> .int .i64 (iY r v)
 )
def k36:c36.Ok aH 167:=bA (a7 MD) (raw:=au) (λ(_,_)=>[]) (λ(_,_)=>⟨_,rfl⟩) λ(r,v) hp=>aw (q:=(0:Int)<=8000/\(8000:Int)<=1000000000000/\((!bR v 8000)=true->0=iY r v)/\
 ((!bR v 8000)=false->r.length<=100000/\dQ r (bP v)=iY r v)) (by kernel_rfl) (by change r.length<=100000 at hp;unfold iY;grind)
noncomputable def t36:Tab:=ap [(167,c36)] PN
def aBk:t36.Ok aH:=aq MD ⟨k36,trivial⟩
noncomputable def t97:Tab:=t36
def NO:t97.Ok aH:=aBk
noncomputable def c96:Con:=con (ac aS (a1 aS)) (λ(s,t)=>[dB s t=1]) (λ(s,t)=> .tup [aT.enc (bP (aDa (fJ s t) 0)),.bool true]
 )
def k96:c96.Ok aH 121:=bA (a7 NO) (raw:=au) (λ(_,_)=>[]) (λ(_,_)=>⟨_,rfl⟩) λ(s,t) hp=>aw (q:=(dB s t=1->ix 0 (fJ s t).length/\(bP (aDa (fJ s t) 0)).x=(bP (aDa (fJ s t) 0)).x/\(bP (aDa (fJ s t) 0)).y=(bP (aDa (fJ s t) 0)).y/\(bP (aDa (fJ s t) 0)).den=(bP (aDa (fJ s t) 0)).den/\true=true)/\
 (¬dB s t=1->(dB s t=2->bd 1000000000 s.b/\bd 1000000000 s.a/\bd 1000000000 t.b/\bd 1000000000 t.a/\bd 2000000000 (aDd s.b s.a)/\bd 2000000000 (aDd t.b t.a)/\bd 1000000000 t.a/\bd 1000000000 s.a/\bd 2000000000 (aDd t.a s.a)/\bd 2000000000 (aDd t.b t.a)/\aG (s.a.x*aDe (aDd s.b s.a) (aDd t.b t.a))/\aG ((aDd s.b s.a).x*aDe (aDd t.a s.a) (aDd t.b t.a))/\aG (s.a.x*aDe (aDd s.b s.a) (aDd t.b t.a)+(aDd s.b s.a).x*aDe (aDd t.a s.a) (aDd t.b t.a))/\aG (s.a.y*aDe (aDd s.b s.a) (aDd t.b t.a))/\aG ((aDd s.b s.a).y*aDe (aDd t.a s.a) (aDd t.b t.a))/\aG (s.a.y*aDe (aDd s.b s.a) (aDd t.b t.a)+(aDd s.b s.a).y*aDe (aDd t.a s.a) (aDd t.b t.a))/\False)/\
  (¬dB s t=2->0=(bP (aDa (fJ s t) 0)).x/\0=(bP (aDa (fJ s t) 0)).y/\0=(bP (aDa (fJ s t) 0)).den/\false=true))) (by kernel_rfl) (by
  change dB s t=1 at hp;have hl:(fJ s t).length=1:=by unfold dB at hp;grind
  with_reducible ((repeat' first|apply c6|intro);all_goals repeat cases‹_/\_›)
  all_goals grind)
noncomputable def t96:Tab:=ap [(121,c96)] t97
def NP:t96.Ok aH:=aq NO ⟨k96,trivial⟩
def vV(r:bE):∀k,br r k<=k
 |0=>az _
 |k+1=>by unfold br;have:=vV r k;grind
def y8{r:bE}{k:Nat}(h:0<k):br r k<k:=Geo.y8 r k h
def YH(r:bE)(k:Nat):br r (k+1)=if bV (aDa r k) (aDa r (br r k))=true then k else br r k:=rfl
noncomputable def Q3:Con:=con (a1 (aL .V)) (λr=>[r.length<=100000]) (λr=> .lst .V (dV r))
def aCB:Q3.Ok aH 170:=bA (a7 NP) (raw:=au) (λr=>[lp 3 4 r.length (λ_=>[]) [] (λk=>[(3,.int .i64 (br r k))]) (λ_=>[])]
  ) (λ_=>⟨_,rfl⟩) λr hp=>aw (q:=(0=(0:Int)/\0=(br r 0:Int)/\(0:Nat)<=r.length)/\
 (∀x:Nat,x<=r.length->((x:Int)<r.length->ix (x:Int) r.length/\ix (br r x:Int) r.length/\(bV (aDa r x) (aDa r (br r x))=true->aG ((x:Int)+1)/\(x:Int)+1=((x+1:Nat):Int)/\(x:Int)=br r (x+1)/\x+1<=r.length/\r.length-(x+1)<r.length-x)/\
   (bV (aDa r x) (aDa r (br r x))=false->aG ((x:Int)+1)/\(x:Int)+1=((x+1:Nat):Int)/\(br r x:Int)=br r (x+1)/\x+1<=r.length/\r.length-(x+1)<r.length-x))/\
  (¬(x:Int)<r.length->(0<=(br r x:Int)/\(br r x:Int)<=r.length)/\([] :List V).length+(bT (br r x) r).length<=1000000/\(0<=(br r x:Int)/\(br r x:Int)<=r.length)/\(([] :List V)++bT (br r x) r).length=(([] :List V)++bT (br r x) r).length/\(([] :List V)++bT (br r x) r).length+(ai (br r x) r).length<=1000000/\(([] :List V)++bT (br r x) r++ai (br r x) r).length=(([] :List V)++bT (br r x) r++ai (br r x) r).length/\([] :List V)++bT (br r x) r++ai (br r x) r=dV r))) (by kernel_rfl) (by
  change r.length<=100000 at hp;have e0:br r 0=0:=rfl;have es:=YH r;have el:=vV r;have eb:([] :List V)++bT (br r r.length) r++ai (br r r.length) r=dV r:=rfl
  with_reducible ((repeat' first|apply c6|intro);all_goals repeat cases‹_/\_›)
  all_goals grind)
noncomputable def O4:Tab:=ap [(170,Q3)] t96
def aAc:O4.Ok aH:=aq NP ⟨aCB,trivial⟩
noncomputable def t71:Tab:=O4
def Nj:t71.Ok aH:=aAc
def Xm{a b:bE}{k:Nat}(h:¬aDa a k=aDa b k):false=(a==b):=by grind
def WG{a b:bE}(hl:(a.length:Int)=b.length){k:Nat}(hk:¬(k:Int)<a.length)(h:af (λj=>aDa a j=aDa b j) k):true=(a==b):=by symm;rw[beq_iff_eq];refine List.ext_getElem (by omega) λj h1 h2=> ?_;rw[<-nth_eq h1,<-nth_eq h2];exact h j (by omega)
noncomputable def c23:Con:=con (ac (aL .V) (a1 (aL .V))) (λ(a,_)=>[a.length<=1000000]) (λ(a,b)=> .bool (a==b))
def k23:c23.Ok aH 169:=bA (a7 Nj) (raw:=au) (λ(a,b)=>[cnt 4 5 a.length (af λj=>aDa a j=aDa b j)]
  ) (λ(_,_)=>⟨_,rfl⟩) λ(a,b) hp=>aw (q:=(¬(a.length:Int)=b.length->false=(a==b))/\
 (¬(¬(a.length:Int)=b.length)->(0=(0:Int)/\(0:Nat)<=a.length/\af (λj=>aDa a j=aDa b j) 0)/\
  (∀x:Nat,x<=a.length/\af (λj=>aDa a j=aDa b j) x->((x:Int)<a.length->ix (x:Int) a.length/\ix (x:Int) b.length/\(¬(aDa a x)=(aDa b x)->false=(a==b))/\
    (¬(¬(aDa a x)=(aDa b x))->aG ((x:Int)+1)/\(x:Int)+1=((x+1:Nat):Int)/\x+1<=a.length/\af (λj=>aDa a j=aDa b j) (x+1)/\a.length-(x+1)<a.length-x))/\
   (¬(x:Int)<a.length->true=(a==b))))) (by kernel_rfl) (by
  change a.length<=1000000 at hp
  with_reducible ((repeat' first|apply c6|intro);all_goals repeat cases‹_/\_›)
  all_goals first|rfl|exact Xm ‹¬aDa a _=_› |exact WG (by omega) ‹_› ‹_› |grind)
noncomputable def t23:Tab:=ap [(169,c23)] t71
def OF:t23.Ok aH:=aq Nj ⟨k23,trivial⟩
noncomputable def c76:Con:=con (ac (aL .V) (a1 (aL .V))) (λ(a,_)=>[a.length<=1000000]) (λ(a,b)=> .bool (a==b)
 )
def k76:c76.Ok aH 103:=bA (a7 OF) (raw:=au) (λ(_,_)=>[]) (λ(_,_)=>⟨_,rfl⟩) λ(a,b) hp=>aw (q:=a.length<=1000000/\(a==b)=(a==b)) (by kernel_rfl) (by change a.length<=1000000 at hp;grind)
noncomputable def t76:Tab:=ap [(103,c76)] t23
def Nd:t76.Ok aH:=aq OF ⟨k76,trivial⟩
def Fit(s:Shape):Prop:=s.outer.length<=1000/\s.holes.length<=900/\∀r∈s.holes,r.length<=1000
def Fit.rings{s:Shape}(hf:Fit s):∀r∈dL s,r.length<=1000:=by
 intro r hr;unfold dL at hr;rcases bh.1 hr with rfl|hr
 .exact hf.1
 .exact hf.2.2 r hr
def Fit.ring{s:Shape}(hf:Fit s){k:Nat}(hk:k<(dL s).length):(aZ (dL s) k).length<=1000:=hf.rings _ (sw hk)
def Fit.hole{s:Shape}(hf:Fit s){k:Nat}(hk:k<s.holes.length):(aZ s.holes k).length<=1000:=hf.2.2 _ (sw hk)
def Fit.rlen{s:Shape}(hf:Fit s):(dL s).length<=901:=by have:=hf.2.1;simp[dL];omega
def eS(s:Shape)(k:Nat):List S:=((dL s).take k).flatMap aR
def IN{s:Shape}{k:Nat}(h:k<(dL s).length):eS s k++aR (aZ (dL s) k)=eS s (k+1):=by unfold eS;rw[qD,dA h,List.flatMap_append,tQ h];simp
def AN(r:bE):(aR r).length<=r.length:=by unfold aR;grind
def Jk{s:Shape}(hf:Fit s):∀k,k<=(dL s).length->(eS s k).length<=1000*k
 |0,_=>by simp[eS]
 |k+1,h=>by
  rw[<-IN (by omega),dh];have:=Jk hf k (by omega);have:=AN (aZ (dL s) k);have:=hf.ring (k:=k) (by omega);omega
def Zj(s:Shape):eS s (dL s).length=Bg s:=by unfold eS;rw[jg];rfl
noncomputable def RS:Con:=con (a1 aSh) (λs=>[Fit s]) (λs=> .lst .R (dL s)
 )
def aCX:RS.Ok aH 102:=bA (a7 Nd) (raw:=au) (λ_=>[]) (λ_=>⟨_,rfl⟩) λs hp=>aw (q:=[s.outer].length+s.holes.length<=1000000/\([s.outer] ++s.holes).length=([s.outer] ++s.holes).length/\[s.outer] ++s.holes=dL s) (by kernel_rfl) (by change Fit s at hp;have h:=hp.2.1;exact⟨by simp;omega,rfl,rfl⟩)
noncomputable def PP:Tab:=ap [(102,RS)] t76
def MG:PP.Ok aH:=aq Nd ⟨aCX,trivial⟩
noncomputable def c33:Con:=con (a1 aSh) (λs=>[Fit s]) (λs=> .lst .S (Bg s))
def k33:c33.Ok aH 34:=bA (a7 MG) (raw:=au) (λs=>[lp 4 5 (dL s).length (λ_=>[]) [900] (λk=>[(3,.own 900 .S (eS s k).length)]) (λk=>[(900,.row 57 .S (eS s k))])]
  ) (λ_=>⟨_,rfl⟩) λs hp=>aw (q:=Fit s/\(0=(0:Int)/\(eS s 0).length=0/\eS s 0=([] :List S)/\(0:Nat)<=(dL s).length)/\
 (∀x:Nat,x<=(dL s).length->((x:Int)<(dL s).length->ix (x:Int) (dL s).length/\(aZ (dL s) x).length<=100000/\(eS s x).length=(eS s x).length/\(eS s x).length+(aR (aZ (dL s) x)).length<=1000000/\aG ((x:Int)+1)/\(x:Int)+1=((x+1:Nat):Int)/\(eS s x++aR (aZ (dL s) x)).length=(eS s (x+1)).length/\eS s x++aR (aZ (dL s) x)=eS s (x+1)/\x+1<=(dL s).length/\(dL s).length-(x+1)<(dL s).length-x)/\
  (¬(x:Int)<(dL s).length->(eS s x).length=(eS s x).length/\eS s x=Bg s))) (by kernel_rfl) (by
  change Fit s at hp;have e0:eS s 0=[] :=rfl;have ea:=Zj s;have er:=hp.rlen;have es:= @IN s;have eb:∀k,k<(dL s).length->(eS s k).length+(aR (aZ (dL s) k)).length<=1000000:=λk h=>by have:=Jk hp (k+1) (by omega);grind
  have ek:= @Fit.ring s hp
  with_reducible ((repeat' first|apply c6|intro);all_goals repeat cases‹_/\_›)
  all_goals grind)
noncomputable def t33:Tab:=ap [(34,c33)] PP
def OB:t33.Ok aH:=aq MG ⟨k33,trivial⟩
def ft(a b:bE)(al:Bool):Bool:=if al=true then og a b else jL a b
def Tt{a b:bE}{al:Bool}{j:Nat}(hj:j<a.length)(h:(iY b (aDa a j)==2)≠al):ft a b al= !al:=by
 unfold ft og jL;cases al with
 |true=>rw[if_pos rfl];exact DX.2 ⟨_,Hn hj,by simpa using h⟩
 |false=>rw[if_neg (by simp)];exact li.2 ⟨_,Hn hj,by simpa using h⟩
def TK{a b:bE}{al:Bool}(h:∀j,j<a.length->(iY b (aDa a j)==2)=al):ft a b al=al:=by
 unfold ft og jL;cases al with
 |true=>
  rw[if_pos rfl];refine dm.2 λx hx=> ?_;obtain⟨j,hj,rfl⟩:=iK hx;rw[<-nth_eq hj];exact h j hj
 |false=>
  rw[if_neg (by simp)];refine DY.2 λx hx=> ?_;obtain⟨j,hj,rfl⟩:=iK hx;rw[<-nth_eq hj,h j hj];simp
def hU(s:Shape)(i:Nat):Bool:=dO (aZ s.holes i)&& !gU (aZ s.holes i) s.outer&&og (aZ s.holes i) s.outer
def gT(s:Shape)(i k:Nat):Bool:= !gU (aZ s.holes i) (aZ s.holes k)&& !jL (aZ s.holes i) (aZ s.holes k)&& !jL (aZ s.holes k) (aZ s.holes i)
def gl(s:Shape)(k:Nat):Nat:=s.outer.length+((s.holes.take k).map fg).sum
def ER(s:Shape):gl s 0=s.outer.length:=by simp[gl]
def ES{s:Shape}{k:Nat}(h:k<s.holes.length):gl s (k+1)=gl s k+(aZ s.holes k).length:=by unfold gl;rw[qD,dA h,d7,List.sum_append,tQ h,<-Nat.add_assoc];rfl
def T8(s:Shape):gl s s.holes.length=iv s:=by unfold gl iv dL;grind
def VP{s:Shape}(hf:Fit s)(k:Nat)(hk:k<=s.holes.length):gl s k<=1000*(k+1):=by
 induction k with
 |zero=>have:=hf.1;rw[ER];omega
 |succ k ih=>
  rw[ES (by omega)];have h1:=ih (by omega);have h2:=hf.2.2 _ (sw (show k<s.holes.length by omega));omega
def sL(s:Shape):dZ s=true↔s.holes.length<=6/\dO s.outer=true/\(∀i,i<s.holes.length->hU s i=true/\∀k,k<i->gT s i k=true)/\iv s<=80:=by unfold dZ;simp only[cD,decide_eq_true_eq,dm,dY];unfold hU gT;grind
def Wh{a b:bE}{i j:Nat}(h:¬dB (aK (aR a) i) (aK (aR b) j)=0)(hi:i<(aR a).length)(hj:j<(aR b).length):true=gU a b:=by unfold gU;symm;exact li.2 ⟨_,sv hi,li.2 ⟨_,sv hj,by simpa using h⟩⟩
def re(a b:bE)(i:Nat):Prop:=∀j,j<(aR b).length->dB (aK (aR a) i) (aK (aR b) j)=0
def Wg{a b:bE}{k:Nat}(hk:¬(k:Int)<(aR a).length)(h:af (re a b) k):false=gU a b:=by unfold gU;symm;refine DY.2 λx hx=> ?_;obtain⟨i,hi,rfl⟩:=iK hx;rw[<-l6 hi,Bool.not_eq_true];refine DY.2 λy hy=> ?_;obtain⟨j,hj,rfl⟩:=iK hy;rw[<-l6 hj,h i (by omega) j hj];decide
def X3{a b:bE}{i k:Nat}(hk:¬(k:Int)<(aR b).length)(h:af (λj=>dB (aK (aR a) i) (aK (aR b) j)=0) k):re a b i:=λj hj=>h j (by omega)
noncomputable def RF:Con:=con (ac (aL .V) (a1 (aL .V))) (λ(a,b)=>[a.length<=100000,b.length<=100000]) (λ(a,b)=> .bool (gU a b))
def aCM:RF.Ok aH 99:=bA (a7 OB) (raw:=au) (λ(a,b)=>[cnt 3 7 (aR a).length (af (re a b)) λi=>[cnt 6 8 (aR b).length (af λj=>dB (aK (aR a) i) (aK (aR b) j)=0)]]
  ) (λ(_,_)=>⟨_,rfl⟩) λ(a,b) hp=>aw (q:=a.length<=100000/\b.length<=100000/\(0=(0:Int)/\(0:Nat)<=(aR a).length/\af (re a b) 0)/\
 (∀x:Nat,x<=(aR a).length/\af (re a b) x->((x:Int)<(aR a).length->(0=(0:Int)/\(0:Nat)<=(aR b).length/\af (λj=>dB (aK (aR a) x) (aK (aR b) j)=0) 0)/\
   (∀x_1:Nat,x_1<=(aR b).length/\af (λj=>dB (aK (aR a) x) (aK (aR b) j)=0) x_1->((x_1:Int)<(aR b).length->ix (x:Int) (aR a).length/\ix (x_1:Int) (aR b).length/\(¬dB (aK (aR a) x) (aK (aR b) x_1)=0->true=gU a b)/\
     (¬(¬dB (aK (aR a) x) (aK (aR b) x_1)=0)->aG ((x_1:Int)+1)/\(x_1:Int)+1=((x_1+1:Nat):Int)/\x_1+1<=(aR b).length/\af (λj=>dB (aK (aR a) x) (aK (aR b) j)=0) (x_1+1)/\(aR b).length-(x_1+1)<(aR b).length-x_1))/\
    (¬(x_1:Int)<(aR b).length->aG ((x:Int)+1)/\(x:Int)+1=((x+1:Nat):Int)/\x+1<=(aR a).length/\af (re a b) (x+1)/\(aR a).length-(x+1)<(aR a).length-x)))/\
  (¬(x:Int)<(aR a).length->false=gU a b))) (by kernel_rfl) (by
  change a.length<=100000/\b.length<=100000 at hp;have ha:=AN a;have hb:=AN b
  repeat' first|with_reducible apply c6|with_reducible intro
  all_goals repeat with_reducible cases‹_/\_›
  all_goals first|assumption|rfl|exact trivial|exact nb ‹_› |exact nb' ‹_› |omega|exact fK (by omega)|(unfold ix;omega)|(unfold aG;omega)|exact d8 _|exact b8 ‹_› ‹_› |(refine b8 ‹_› ?_;simp_all;done)|exact Wh ‹¬dB _ _=0› (by omega) (by omega)|exact Wg ‹_› ‹_› |exact b8 ‹_› (X3 ‹_› ‹_›)|(refine b8 ‹_› ?_;exact yW ‹¬¬_›)|grind)
noncomputable def PF:Tab:=ap [(99,RF)] t33
def Lt:PF.Ok aH:=aq OB ⟨aCM,trivial⟩
def inQ(a b:bE)(al:Bool)(j:Nat):Prop:=(iY b (aDa a j)==2)=al
noncomputable def RE:Con:=con (ac (aL .V) (ac (aL .V) (a1 aB))) (λ(a,b,_)=>[a.length<=100000,b.length<=100000]) (λ(a,b,al)=> .bool (ft a b al))
def aCL:RE.Ok aH 100:=bA (a7 Lt) (raw:=au) (λ(a,b,al)=>[cnt 2 7 a.length (af (inQ a b al))]
  ) (λ(_,_,_)=>⟨_,rfl⟩) λ(a,b,al) hp=>aw (q:=(0=(0:Int)/\(0:Nat)<=a.length/\af (inQ a b al) 0)/\
 (∀x:Nat,x<=a.length/\af (inQ a b al) x->((x:Int)<a.length->ix (x:Int) a.length/\b.length<=100000/\((decide (iY b (aDa a x)=2) !=al)=true->(!al)=ft a b al)/\
   ((decide (iY b (aDa a x)=2) !=al)=false->aG ((x:Int)+1)/\(x:Int)+1=((x+1:Nat):Int)/\x+1<=a.length/\af (inQ a b al) (x+1)/\a.length-(x+1)<a.length-x))/\
  (¬(x:Int)<a.length->al=ft a b al))) (by kernel_rfl) (by
  change a.length<=100000/\b.length<=100000 at hp;have c1:∀j:Nat,(decide (iY b (aDa a j)=2) !=al)=true->j<a.length->(!al)=ft a b al:=λj h hj=>(Tt hj (bne_iff_ne.1 h)).symm;have c2:∀j:Nat,(decide (iY b (aDa a j)=2) !=al)=false->inQ a b al j:=λj h=>bne_eq_false_iff_eq.1 h;have e2:∀k:Nat,¬(k:Int)<a.length->af (inQ a b al) k->ft a b al=al:=λk h1 h2=>TK λj hj=>h2 j (by omega)
  repeat' first|with_reducible apply c6|with_reducible intro
  all_goals repeat with_reducible cases‹_/\_›
  all_goals first|assumption|rfl|exact trivial|exact nb ‹_› |exact nb' ‹_› |omega|exact fK (by omega)|(unfold ix;omega)|(unfold aG;omega)|exact d8 _|exact b8 ‹_› ‹_› |(refine b8 ‹_› ?_;simp_all;done)|exact(e2 _ ‹_› ‹_›).symm|grind|exact b8 ‹_› (c2 _ ‹_›)|grind)
noncomputable def PE:Tab:=ap [(100,RE)] PF
def Lr:PE.Ok aH:=aq Lt ⟨aCL,trivial⟩
noncomputable def c58:Con:=con (a1 aSh) (λs=>[Fit s]) (λs=> .bool (dZ s))
def k58:c58.Ok aH 31:=bA (a7 Lr) (raw:=au) (λs=>[jP 3 [s.holes.length<=6,dO s.outer=true],lp 5 4 s.holes.length (λk=>[af (λi=>hU s i=true/\∀k,k<i->gT s i k=true) k]) [] (λk=>[(3,.int .i64 (gl s k:Int))]) (λ_=>[]) λi=>[jP 11 [hU s i=true],cnt 12 6 i (af λk=>gT s i k=true)]]
  ) (λ_=>⟨_,rfl⟩) λs hp=>aw (q:=((6<(s.holes.length:Int)->false=dZ s)/\
  (¬6<(s.holes.length:Int)->s.outer.length<=100000/\((!dO s.outer)=true->false=dZ s)/\
   ((!dO s.outer)=false->s.holes.length<=6/\dO s.outer=true)))/\
 (∀y:Unit,s.holes.length<=6/\dO s.outer=true->(0=(0:Int)/\(s.outer.length:Int)=gl s 0/\(0:Nat)<=s.holes.length/\af (λi=>hU s i=true/\(∀k:Nat,k<i->gT s i k=true)) 0)/\
  (∀x:Nat,x<=s.holes.length/\af (λi=>hU s i=true/\(∀k:Nat,k<i->gT s i k=true)) x->((x:Int)<s.holes.length->ix (x:Int) s.holes.length/\aG ((gl s x:Int)+(aZ s.holes x).length)/\((aZ s.holes x).length<=100000/\((!dO (aZ s.holes x))=true->false=dZ s)/\
     ((!dO (aZ s.holes x))=false->(aZ s.holes x).length<=100000/\s.outer.length<=100000/\(gU (aZ s.holes x) s.outer=true->false=dZ s)/\
      (gU (aZ s.holes x) s.outer=false->(aZ s.holes x).length<=100000/\s.outer.length<=100000/\((!ft (aZ s.holes x) s.outer true)=true->false=dZ s)/\
       ((!ft (aZ s.holes x) s.outer true)=false->hU s x=true))))/\
    (∀y_1:Unit,hU s x=true->(0=(0:Int)/\(0:Nat)<=x/\af (λk=>gT s x k=true) 0)/\
     (∀x_1:Nat,x_1<=x/\af (λk=>gT s x k=true) x_1->((x_1:Int)<x->ix (x_1:Int) s.holes.length/\(aZ s.holes x).length<=100000/\(aZ s.holes x_1).length<=100000/\(gU (aZ s.holes x) (aZ s.holes x_1)=true->false=dZ s)/\
       (gU (aZ s.holes x) (aZ s.holes x_1)=false->ix (x_1:Int) s.holes.length/\(aZ s.holes x).length<=100000/\(aZ s.holes x_1).length<=100000/\(ft (aZ s.holes x) (aZ s.holes x_1) false=true->false=dZ s)/\
        (ft (aZ s.holes x) (aZ s.holes x_1) false=false->ix (x_1:Int) s.holes.length/\(aZ s.holes x_1).length<=100000/\(aZ s.holes x).length<=100000/\(ft (aZ s.holes x_1) (aZ s.holes x) false=true->false=dZ s)/\
         (ft (aZ s.holes x_1) (aZ s.holes x) false=false->aG ((x_1:Int)+1)/\(x_1:Int)+1=((x_1+1:Nat):Int)/\x_1+1<=x/\af (λk=>gT s x k=true) (x_1+1)/\x-(x_1+1)<x-x_1))))/\
      (¬(x_1:Int)<x->aG ((x:Int)+1)/\(x:Int)+1=((x+1:Nat):Int)/\(gl s x:Int)+(aZ s.holes x).length=gl s (x+1)/\x+1<=s.holes.length/\af (λi=>hU s i=true/\(∀k:Nat,k<i->gT s i k=true)) (x+1)/\s.holes.length-(x+1)<s.holes.length-x))))/\
   (¬(x:Int)<s.holes.length->decide ((gl s x:Int)<=80)=dZ s)))) (by kernel_rfl) (by
  change Fit s at hp;have hf:(dZ s=true->False)->false=dZ s:=λh=>by grind
  have n1:∀i,hU s i=false->i<s.holes.length->false=dZ s:=λi h hi=>hf λhv=>by rw[(((sL s).1 hv).2.2.1 i hi).1]at h;cases h
  have n2:∀i k,gT s i k=false->k<i->i<s.holes.length->false=dZ s:=λi k h hk hi=>hf λhv=>by rw[(((sL s).1 hv).2.2.1 i hi).2 k hk]at h;cases h
  have a1:∀i,(!dO (aZ s.holes i))=true->i<s.holes.length->false=dZ s:=λi h=>n1 i (by unfold hU;grind);have a2:∀i,gU (aZ s.holes i) s.outer=true->i<s.holes.length->false=dZ s:=λi h=>n1 i (by unfold hU;rw[h];simp);have a3:∀i,(!ft (aZ s.holes i) s.outer true)=true->i<s.holes.length->false=dZ s:=λi h=>n1 i (by unfold hU;rw[show og (aZ s.holes i) s.outer=false from nb' h];simp);have a4:∀i,(!dO (aZ s.holes i))=false->gU (aZ s.holes i) s.outer=false->(!ft (aZ s.holes i) s.outer true)=false->hU s i=true:=λi h1 h2 h3=>by unfold hU;rw[nb h1,h2,show og (aZ s.holes i) s.outer=true from nb h3];rfl
  have b1:∀i k,gU (aZ s.holes i) (aZ s.holes k)=true->k<i->i<s.holes.length->false=dZ s:=λi k h=>n2 i k (by unfold gT;rw[h];rfl);have b2:∀i k,ft (aZ s.holes i) (aZ s.holes k) false=true->k<i->i<s.holes.length->false=dZ s:=λi k h=>n2 i k (by unfold gT;rw[show jL (aZ s.holes i) (aZ s.holes k)=true from h];simp);have b3:∀i k,ft (aZ s.holes k) (aZ s.holes i) false=true->k<i->i<s.holes.length->false=dZ s:=λi k h=>n2 i k (by unfold gT;rw[show jL (aZ s.holes k) (aZ s.holes i)=true from h];simp);have b4:∀i k,gU (aZ s.holes i) (aZ s.holes k)=false->ft (aZ s.holes i) (aZ s.holes k) false=false->ft (aZ s.holes k) (aZ s.holes i) false=false->gT s i k=true:=λi k h1 h2 h3=>by unfold gT;rw[h1,show jL (aZ s.holes i) (aZ s.holes k)=false from h2,show jL (aZ s.holes k) (aZ s.holes i)=false from h3];rfl
  have b5:∀i k:Nat,¬(k:Int)<i->af (λk=>gT s i k=true) k->∀k,k<i->gT s i k=true:=λi k h1 h2 j hj=>h2 j (by omega);have e0:=ER s;have es:∀k,k<s.holes.length->(gl s k:Int)+(aZ s.holes k).length=gl s (k+1):=λk h=>by rw[ES h];rfl
  have el:∀k,k<s.holes.length->aG ((gl s k:Int)+(aZ s.holes k).length):=λk h=>by rw[es k h];exact cl (by have:=VP hp (k+1) (by omega);have:=hp.2.1;omega)
  have ef:s.holes.length<=6->dO s.outer=true->∀k:Nat,¬(k:Int)<s.holes.length->k<=s.holes.length->af (λi=>hU s i=true/\∀k,k<i->gT s i k=true) k->decide ((gl s k:Int)<=80)=dZ s:=λh1 h2 k h3 h4 h5=>by
   obtain rfl:k=s.holes.length:=by omega
   rw[T8,lZ,sL,decide_eq_true_eq];exact⟨λh=>⟨h1,h2,h5,by omega⟩,λh=>by omega⟩
  have ho:=hp.1;have hh:= @Fit.hole s hp
  repeat' first|with_reducible apply c6|with_reducible intro
  all_goals repeat with_reducible cases‹_/\_›
  all_goals first|assumption|rfl|exact trivial|exact nb ‹_› |exact nb' ‹_› |omega|exact fK (by omega)|(unfold ix;omega)|(unfold aG;omega)|exact d8 _|exact b8 ‹_› ‹_› |(refine b8 ‹_› ?_;simp_all;done)|exact ci (hh (by omega)) (by decide)|exact el _ (by omega)|exact es _ (by omega)|exact ef ‹_› ‹_› _ ‹_› ‹_› ‹_› |exact a1 _ ‹_› (by omega)|exact a2 _ ‹_› (by omega)|exact a3 _ ‹_› (by omega)|exact a4 _ ‹_› ‹_› ‹_› |exact b1 _ _ ‹_› (by omega) (by omega)|exact b2 _ _ ‹_› (by omega) (by omega)|exact b3 _ _ ‹_› (by omega) (by omega)|exact b8 ‹_› (b4 _ _ ‹_› ‹_› ‹_›)|exact b8 ‹_› ⟨‹_›,b5 _ _ ‹_› ‹_›⟩|exact hf λh=>by have h:=(sL s).1 h;first|omega|grind|grind)
noncomputable def t58:Tab:=ap [(31,c58)] PE
def Nq:t58.Ok aH:=aq Lr ⟨k58,trivial⟩
def FP{p:Pt}{l:List bE}{w:Int}{k:Nat}(hk:k<l.length)(h:∀j,j<k->dQ (aZ l j) p≠2/\dQ (aZ l j) p≠1):mB p l w=if dQ (aZ l k) p=2 then 0 else if dQ (aZ l k) p=1 then 1 else mB p (l.drop (k+1)) w:=by
 induction l generalizing k with
 |nil=>simp at hk
 |cons r l ih=>
  cases k with
  |zero=>rfl
  |succ k=>
   have h0:=h 0 (by omega);have e:aZ (r::l) 0=r:=rfl;rw[e]at h0;have e1:mB p (r::l) w=(if dQ r p=2 then 0 else if dQ r p=1 then 1 else mB p l w):=rfl;rw[e1,if_neg h0.1,if_neg h0.2];exact ih (k:=k) (by grind) (λj hj=>h (j+1) (by omega))
def Tu{p:Pt}{l:List bE}{w:Int}(h:∀j,j<l.length->dQ (aZ l j) p≠2/\dQ (aZ l j) p≠1):mB p l w=w:=by
 induction l with
 |nil=>rfl
 |cons r l ih=>
  have h0:=h 0 (by simp);have e:aZ (r::l) 0=r:=rfl;rw[e]at h0;unfold mB;rw[if_neg h0.1,if_neg h0.2];exact ih (λj hj=>h (j+1) (by grind))
def IA{X:List bE}{h:bE}:∀{k:Nat},k<=X.length->(∀j,j<k->bV (aDa (aZ X j) 0) (aDa h 0)=true)->(k<X.length->bV (aDa (aZ X k) 0) (aDa h 0)=false)->lP X h=X.take k++[h] ++X.drop k:=by
 induction X with
 |nil=>intro k hk _ _;simp[lP]
 |cons q r ih=>
  intro k hk h1 h2;cases k with
  |zero=>
   unfold lP;rw[if_neg (by rw[show bV (aDa q 0) (aDa h 0)=false from h2 (by simp)];simp)];rfl
  |succ k=>
   unfold lP;rw[if_pos (show bV (aDa q 0) (aDa h 0)=true from h1 0 (by omega)),ih (k:=k) (by grind) (λj hj=>h1 (j+1) (by omega)) (λhh=>h2 (by grind))];rfl
def ba(s:Shape)(i:Nat):List bE:=uL ((s.holes.take i).map dV)
def D6{s:Shape}{i:Nat}(h:i<s.holes.length):ba s (i+1)=lP (ba s i) (dV (aZ s.holes i)):=by unfold ba uL;rw[qD,dA h,d7,DU,tQ h];rfl
def D7(s:Shape)(i:Nat):(ba s i).Perm ((s.holes.take i).map dV):=Tb _
def Sf(s:Shape)(i:Nat):(ba s i).length<=s.holes.length:=by rw[(D7 s i).length_eq,eB,ew];omega
def Ta{s:Shape}{i:Nat}{r:bE}(h:r∈ba s i):∃q∈s.holes,r=dV q:=by have:=(D7 s i).mem_iff.1 h;grind
def TZ{s:Shape}(hp:∀r∈s.holes,0<r.length){i j:Nat}(h:j<(ba s i).length):0<(aZ (ba s i) j).length:=by obtain⟨q,hq,e⟩:=Ta (sw h);rw[e,D1];exact hp q hq
def hQ(s:Shape)(p:Pt)(j:Nat):Prop:=dQ (aZ s.holes j) p≠2/\dQ (aZ s.holes j) p≠1
noncomputable def c73:Con:=con (ac aSh (a1 aT)) (λ(s,_)=>[Fit s]) (λ(s,p)=> .int .i64 (jm s p))
def k73:c73.Ok aH 101:=bA (a7 Nq) (raw:=au) (λ(s,p)=>[cnt 5 6 s.holes.length (af (hQ s p))]
  ) (λ(_,_)=>⟨_,rfl⟩) λ(s,p) hp=>aw (q:=Fit s/\((!dZ s)=true->0=jm s p)/\
 ((!dZ s)=false->s.outer.length<=100000/\(0=(0:Int)/\(0:Nat)<=s.holes.length/\af (hQ s p) 0)/\
  (∀x:Nat,x<=s.holes.length/\af (hQ s p) x->((x:Int)<s.holes.length->ix (x:Int) s.holes.length/\(aZ s.holes x).length<=100000/\(dQ (aZ s.holes x) p=2->0=jm s p)/\
    (¬dQ (aZ s.holes x) p=2->(dQ (aZ s.holes x) p=1->1=jm s p)/\
     (¬dQ (aZ s.holes x) p=1->aG ((x:Int)+1)/\(x:Int)+1=((x+1:Nat):Int)/\x+1<=s.holes.length/\af (hQ s p) (x+1)/\s.holes.length-(x+1)<s.holes.length-x)))/\
   (¬(x:Int)<s.holes.length->dQ s.outer p=jm s p)))) (by kernel_rfl) (by
  change Fit s at hp;have h0:(!dZ s)=true->0=jm s p:=λh=>by unfold jm;rw[if_pos h]
  have h1:(!dZ s)=false->jm s p=mB p s.holes (dQ s.outer p):=λh=>by unfold jm;grind
  have c1:∀k,af (hQ s p) k->dQ (aZ s.holes k) p=2->(!dZ s)=false->k<s.holes.length->0=jm s p:=λk h h2 h3 hk=>by rw[h1 h3,FP hk h,if_pos h2]
  have c2:∀k,af (hQ s p) k->¬dQ (aZ s.holes k) p=2->dQ (aZ s.holes k) p=1->(!dZ s)=false->k<s.holes.length->1=jm s p:=λk h h2 h3 h4 hk=>by rw[h1 h4,FP hk h,if_neg h2,if_pos h3]
  have c3:∀k:Nat,¬(k:Int)<s.holes.length->af (hQ s p) k->(!dZ s)=false->dQ s.outer p=jm s p:=λk hk h h2=>by rw[h1 h2,Tu λj hj=>h j (by omega)]
  have ho:=hp.1;have hl:=hp.2.1;have hh:= @Fit.hole s hp
  repeat' first|with_reducible apply c6|with_reducible intro
  all_goals repeat with_reducible cases‹_/\_›
  all_goals first|assumption|rfl|exact trivial|exact nb ‹_› |exact nb' ‹_› |omega|exact fK (by omega)|(unfold ix;omega)|(unfold aG;omega)|exact d8 _|exact b8 ‹_› ‹_› |(refine b8 ‹_› ?_;simp_all;done)|exact ci (hh (by omega)) (by decide)|exact h0 ‹_› |exact c1 _ ‹_› ‹_› ‹_› (by omega)|exact c2 _ ‹_› ‹_› ‹_› ‹_› (by omega)|exact c3 _ ‹_› ‹_› ‹_› |exact b8 ‹_› ⟨‹_›,‹_›⟩|grind)
noncomputable def t73:Tab:=ap [(101,c73)] t58
def aBf:t73.Ok aH:=aq Nq ⟨k73,trivial⟩
noncomputable def O3:Tab:=t73
def aAb:O3.Ok aH:=aBf
noncomputable def t74:Tab:=O3
def aBe:t74.Ok aH:=aAb
noncomputable def t27:Tab:=t74
def OD:t27.Ok aH:=aBe
def S7{s:Shape}(hv:dZ s=true):0<s.outer.length/\∀r∈s.holes,0<r.length:=by have h:=(sL s).1 hv;refine⟨by have:=((vR s.outer).1 h.2.1).1;omega,λr hr=> ?_⟩;obtain⟨i,hi,rfl⟩:=Wf hr;have h2:=(h.2.2.1 i hi).1;unfold hU at h2;simp only[BI]at h2;have:=((vR _).1 h2.1.1).1;omega
def VY(s:Shape):pW s=⟨dV s.outer,ba s s.holes.length⟩:=by unfold pW ba;grind
def qSU(s:Shape)(i j:Nat):Prop:=bV (aDa (aZ (ba s i) j) 0) (aDa (dV (aZ s.holes i)) 0)=true
def jSU(s:Shape)(i j:Nat):List bE:=(ba s i).take j++[dV (aZ s.holes i)] ++(ba s i).drop j
def Ja{s:Shape}{i j:Nat}(h:ba s (i+1)=jSU s i j):([] :List (List V))++ai j (bT 0 (ba s i))++[dV (aZ s.holes i)] ++ai ((ba s i).length-j) (bT j (ba s i))=ba s (i+1):=by have e:ai ((ba s i).length-j) (bT j (ba s i))=bT j (ba s i):=ir (by simp);rw[h,e];unfold jSU;simp
noncomputable def RC:Con:=con (a1 aSh) (λs=>[Fit s,0<s.outer.length,(∀r∈s.holes,0<r.length)]) (λs=> .agg [.lst .V (dV s.outer),.lst .R (ba s s.holes.length)])
def aCJ:RC.Ok aH 104:=bA (a7 OD) (raw:=au) (λs=>[lp 3 4 s.holes.length (λ_=>[]) [900] (λ_=>[]) (λk=>[(6,.box 81 [.lst .V (dV s.outer),.own 900 .R (ba s k).length]),(900,.row 64 .R (ba s k))]) λi=>[cnt 7 6 (ba s i).length (af (qSU s i)),jN 9 6 λj=>[j<=(ba s i).length,ba s (i+1)=jSU s i j]]]
  ) (λ_=>⟨_,rfl⟩) λs hp=>aw (q:=s.outer.length<=100000/\(0=(0:Int)/\dV s.outer=dV s.outer/\(ba s 0).length=0/\ba s 0=([] :List (List V))/\(0:Nat)<=s.holes.length)/\
 (∀x:Nat,x<=s.holes.length->((x:Int)<s.holes.length->ix (x:Int) s.holes.length/\(aZ s.holes x).length<=100000/\((0=(0:Int)/\(0:Nat)<=(ba s x).length/\af (qSU s x) 0)/\
    (∀x_1:Nat,x_1<=(ba s x).length/\af (qSU s x) x_1->((x_1:Int)<(ba s x).length->ix (x_1:Int) (ba s x).length/\x_1<(ba s x).length/\ix 0 (aZ (ba s x) x_1).length/\ix 0 (dV (aZ s.holes x)).length/\(bV (aDa (aZ (ba s x) x_1) 0) (aDa (dV (aZ s.holes x)) 0)=true->aG ((x_1:Int)+1)/\(x_1:Int)+1=((x_1+1:Nat):Int)/\x_1+1<=(ba s x).length/\af (qSU s x) (x_1+1)/\(ba s x).length-(x_1+1)<(ba s x).length-x_1)/\
      (bV (aDa (aZ (ba s x) x_1) 0) (aDa (dV (aZ s.holes x)) 0)=false->(x_1:Int)=x_1/\x_1<=(ba s x).length/\ba s (x+1)=jSU s x x_1))/\
     (¬(x_1:Int)<(ba s x).length->(x_1:Int)=x_1/\x_1<=(ba s x).length/\ba s (x+1)=jSU s x x_1)))/\
   (∀y:Nat,y<=(ba s x).length/\ba s (x+1)=jSU s x y->(0<=(y:Int)/\(y:Int)<=(ba s x).length)/\0+y<=(ba s x).length/\([] :List (List V)).length+(ai y (bT 0 (ba s x))).length<=1000000/\(([] :List (List V))++ai y (bT 0 (ba s x))).length=(([] :List (List V))++ai y (bT 0 (ba s x))).length/\(([] :List (List V))++ai y (bT 0 (ba s x))).length+[dV (aZ s.holes x)].length<=1000000/\(0<=(y:Int)/\(y:Int)<=(ba s x).length)/\(([] :List (List V))++ai y (bT 0 (ba s x))++[dV (aZ s.holes x)]).length=(([] :List (List V))++ai y (bT 0 (ba s x))++[dV (aZ s.holes x)]).length/\y+((ba s x).length-y)<=(ba s x).length/\(([] :List (List V))++ai y (bT 0 (ba s x))++[dV (aZ s.holes x)]).length+(ai ((ba s x).length-y) (bT y (ba s x))).length<=1000000/\aG ((x:Int)+1)/\(x:Int)+1=((x+1:Nat):Int)/\dV s.outer=dV s.outer/\(([] :List (List V))++ai y (bT 0 (ba s x))++[dV (aZ s.holes x)] ++ai ((ba s x).length-y) (bT y (ba s x))).length=(ba s (x+1)).length/\([] :List (List V))++ai y (bT 0 (ba s x))++[dV (aZ s.holes x)] ++ai ((ba s x).length-y) (bT y (ba s x))=ba s (x+1)/\x+1<=s.holes.length/\s.holes.length-(x+1)<s.holes.length-x))/\
  (¬(x:Int)<s.holes.length->(ba s x).length=(ba s x).length/\dV s.outer=dV s.outer/\ba s x=ba s s.holes.length))) (by kernel_rfl) (by
  change Fit s/\0<s.outer.length/\((∀r∈s.holes,0<r.length))at hp;obtain⟨hf,hpo,hph⟩:=hp;have h1:=hf.1;have h2:=hf.2.1;have hh:= @Fit.hole s hf;have i0:ba s 0=[] :=rfl;have hl:=Sf s;have kf:∀k:Nat,¬(k:Int)<s.holes.length->k<=s.holes.length->ba s k=ba s s.holes.length:=λk h1 h2=>by grind
  have kl:∀i j:Nat,(j:Int)<(ba s i).length->aG ((j:Int)+1):=λi j h=>cl (by grind);have hb:∀i,i<s.holes.length->ix 0 (dV (aZ s.holes i)).length:=λi h=>uA (by rw[D1];exact hph _ (sw h));have hq:∀i j,j<(ba s i).length->ix 0 (aZ (ba s i) j).length:=λi j h=>uA (TZ hph h);have hj1:∀i j:Nat,¬(j:Int)<(ba s i).length->j<=(ba s i).length->af (qSU s i) j->i<s.holes.length->ba s (i+1)=jSU s i j:=λi j h1 h2 h3 h=>by rw[D6 h];exact IA h2 h3 (λh=>by omega)
  have hj2:∀i j:Nat,bV (aDa (aZ (ba s i) j) 0) (aDa (dV (aZ s.holes i)) 0)=false->j<=(ba s i).length->af (qSU s i) j->i<s.holes.length->ba s (i+1)=jSU s i j:=λi j h1 h2 h3 h=>by rw[D6 h];exact IA h2 h3 (λ_=>h1)
  repeat' first|with_reducible apply c6|with_reducible intro
  all_goals repeat with_reducible cases‹_/\_›
  all_goals first|assumption|rfl|exact trivial|exact nb ‹_› |exact nb' ‹_› |omega|exact fK (by omega)|(unfold ix;omega)|(unfold aG;omega)|exact d8 _|exact b8 ‹_› ‹_› |(refine b8 ‹_› ?_;simp_all;done)|exact kf _ ‹_› ‹_› |exact kl _ _ ‹_› |exact ci (hh (by omega)) (by decide)|exact hb _ (by omega)|exact hq _ _ (by omega)|exact hj1 _ _ ‹_› ‹_› ‹_› (by omega)|exact hj2 _ _ ‹_› ‹_› ‹_› (by omega)|exact Ja ‹_› |exact congrArg fg (Ja ‹_›)|(simp;omega)|grind)
noncomputable def PC:Tab:=ap [(104,RC)] t27
def Lp:PC.Ok aH:=aq OD ⟨aCJ,trivial⟩
noncomputable def c59:Con:=con (a1 aSh) (λs=>[Fit s,dZ s=true]) (λs=>aSh.enc (pW s)
 )
def k59:c59.Ok aH 36:=bA (a7 Lp) (raw:=au) (λ_=>[]) (λ_=>⟨_,rfl⟩) λs hp=>aw (q:=Fit s/\((!dZ s)=true->(pW s).outer=([] :List V)/\(pW s).holes=([] :List (List V)))/\
 ((!dZ s)=false->Fit s/\(0:Nat)<s.outer.length/\(∀r:bE,r∈s.holes->(0:Nat)<r.length)/\dV s.outer=(pW s).outer/\ba s s.holes.length=(pW s).holes)) (by kernel_rfl) (by change Fit s/\dZ s=true at hp;have h:=S7 hp.2;have e:=VY s;grind)
noncomputable def t59:Tab:=ap [(36,c59)] PC
def aBj:t59.Ok aH:=aq Lp ⟨k59,trivial⟩
noncomputable def t18:Tab:=t59
def aBp:t18.Ok aH:=aBj
noncomputable def t31:Tab:=t18
def aBl:t31.Ok aH:=aBp
noncomputable def t69:Tab:=t31
def aBh:t69.Ok aH:=aBl
noncomputable def t75:Tab:=t69
def aBd:t75.Ok aH:=aBh
noncomputable def t72:Tab:=t75
def aBg:t72.Ok aH:=aBd
noncomputable def t20:Tab:=t72
def aBo:t20.Ok aH:=aBg
section
variable (s:Shape) (v:List V) (T:Geo.Tab)
end
section
variable {s:Shape} {v:List V} {T:Geo.Tab} {i j k:Nat}
end
noncomputable def t22:Tab:=t20
def aBn:t22.Ok aH:=aBo
def j7(s:Shape):Nat->Int
 |0=>s.outer.length
 |k+1=>d6.wrap (j7 s k+((aZ s.holes k).length:Int))
def p6(s:Shape):Bool:=decide (j7 s s.holes.length<=20)&&decide ((s.holes.length:Int)<=3)
def NI(s:Shape):Prop:=s.outer.length<=1000000000000000000/\s.holes.length<=1000000000000000000/\∀r∈s.holes,r.length<=1000000000000000000
noncomputable def t24:Tab:=t22
def aBm:t24.Ok aH:=aBn
noncomputable def t25:Tab:=t24
def OE:t25.Ok aH:=aBm
noncomputable def c16:Con:=con (a1 aSh) (λs=>[NI s]) (λs=> .bool (p6 s))
def k16:c16.Ok aH 33:=bA (a7 OE) (raw:=λr i=>ae r 5&&ae i 7) (λs=>[lp 3 4 s.holes.length (λ_=>[]) [] (λk=>[(3,.int .i64 (j7 s k))]) (λ_=>[])]
  ) (λ_=>⟨_,rfl⟩) λs hp=>aw (q:=(0=(0:Int)/\(s.outer.length:Int)=j7 s 0/\(0:Nat)<=s.holes.length)/\
 (∀x:Nat,x<=s.holes.length->((x:Int)<s.holes.length->ix (x:Int) s.holes.length/\aG ((x:Int)+1)/\(x:Int)+1=((x+1:Nat):Int)/\IntKind.wrap d6 (j7 s x+(aZ s.holes x).length)=j7 s (x+1)/\x+1<=s.holes.length/\s.holes.length-(x+1)<s.holes.length-x)/\
  (¬(x:Int)<s.holes.length->(j7 s x<=20->decide ((s.holes.length:Int)<=3)=p6 s)/\
   (¬j7 s x<=20->false=p6 s)))) (by kernel_rfl) (by
  change NI s at hp;have hh:=hp.2.1;have e1:∀k:Nat,¬(k:Int)<s.holes.length->k<=s.holes.length->j7 s k=j7 s s.holes.length:=λk h1 h2=>by grind
  have e2:∀k:Nat,j7 s k<=20->¬(k:Int)<s.holes.length->k<=s.holes.length->decide ((s.holes.length:Int)<=3)=p6 s:=λk h h1 h2=>by unfold p6;grind
  have e3:∀k:Nat,¬j7 s k<=20->¬(k:Int)<s.holes.length->k<=s.holes.length->false=p6 s:=λk h h1 h2=>by unfold p6;grind
  with_reducible ((repeat' first|apply c6|intro);all_goals repeat cases‹_/\_›)
  all_goals first|rfl|exact e2 _ ‹_› ‹_› ‹_› |grind)
noncomputable def t16:Tab:=ap [(33,c16)] t25
def Oj:t16.Ok aH:=aq OE ⟨k16,trivial⟩
noncomputable def Qf:Con:=con (a1 aI) (λ_=>[]) (λ_=> .bool false
 )
def aCc:Qf.Ok aH 114:=bA (a7 Oj) (raw:=au) (λ_=>[]) (λ_=>⟨_,rfl⟩) λx _=>aw (q:=decide (¬x=x)=false) (by kernel_rfl) (by grind)
noncomputable def Oc:Tab:=ap [(114,Qf)] t16
def LB:Oc.Ok aH:=aq Oj ⟨aCc,trivial⟩
noncomputable def RB:Con:=con (ac aI (a1 aI)) (λ(_,_)=>[]) (λ(x,y)=> .int .i64 (aDh x y)
 )
def aCI:RB.Ok aH 53:=bA (a7 LB) (raw:=au) (λ(_,_)=>[]) (λ(_,_)=>⟨_,rfl⟩) λ(x,y) _=>aw (q:=(false=true->(false=true->0=aDh x y)/\
  (false=false-> -1=aDh x y))/\
 (false=false->(false=true->1=aDh x y)/\
  (false=false->(x<y-> -1=aDh x y)/\
   (¬x<y->(y<x->1=aDh x y)/\
    (¬y<x->0=aDh x y))))) (by kernel_rfl) (by
  unfold aDh;grind)
noncomputable def PB:Tab:=ap [(53,RB)] Oc
def Lk:PB.Ok aH:=aq LB ⟨aCI,trivial⟩
def orU(l:List Int)(k:Nat):Prop:=∀j,j<k->aM l j=0
def orL:List Int->Int
 |[] =>0
 |x::l=>if x=0 then orL l else x
def JN:∀{l:List Int} {k:Nat},¬aM l k=0->orU l k->k<l.length->aM l k=orL l
 |[],k,_,_,h=>by simp at h
 |x::l,0,h,_,_=>by
  have h:¬x=0:=h;show x=orL (x::l);unfold orL;rw[if_neg h]
 |x::l,k+1,h,h2,h3=>by
  have h0:x=0:=h2 0 (by omega);show aM l k=orL (x::l);unfold orL;rw[if_pos h0];exact JN h (λj hj=>h2 (j+1) (by omega)) (by grind)
def Hg:∀{l:List Int},orU l l.length->0=orL l
 |[],_=>rfl
 |x::l,h=>by
  have h0:x=0:=h 0 (by simp);unfold orL;rw[if_pos h0];exact Hg λj hj=>h (j+1) (by grind)
noncomputable def Q1:Con:=con (a1 (aL .I)) (λl=>[l.length<=1000]) (λl=> .int .i64 (orL l))
def aCA:Q1.Ok aH 52:=bA (a7 Lk) (raw:=au) (λl=>[cnt 3 8 l.length (orU l)]
  ) (λ_=>⟨_,rfl⟩) λl hp=>aw (q:=(0=(0:Int)/\(0:Nat)<=l.length/\orU l 0)/\
 (∀x:Nat,x<=l.length/\orU l x->((x:Int)<l.length->ix (x:Int) l.length/\(¬aM l x=0->aM l x=orL l)/\
   (¬(¬aM l x=0)->aG ((x:Int)+1)/\(x:Int)+1=((x+1:Nat):Int)/\x+1<=l.length/\orU l (x+1)/\l.length-(x+1)<l.length-x))/\
  (¬(x:Int)<l.length->0=orL l))) (by kernel_rfl) (by
  change l.length<=1000 at hp
  with_reducible ((repeat' first|apply c6|intro);all_goals repeat cases‹_/\_›)
  all_goals first|assumption|rfl|exact trivial|exact nb ‹_› |exact nb' ‹_› |omega|exact fK (by omega)|(unfold ix;omega)|(unfold aG;omega)|exact d8 _|exact b8 ‹_› ‹_› |(refine b8 ‹_› ?_;simp_all;done)|exact JN ‹_› ‹_› (by omega)|(obtain rfl:_=l.length:=oW ‹_› (by omega);exact Hg ‹_›)|(refine b8 ‹_› ?_;exact yW ‹¬¬_›)|grind)
noncomputable def O2:Tab:=ap [(52,Q1)] PB
def Lb:O2.Ok aH:=aq Lk ⟨aCA,trivial⟩
noncomputable def c78:Con:=con (ac aV (a1 aV)) (λ(_,_)=>[]) (λ(a,b)=> .int .i64 (dT a b)
 )
def k78:c78.Ok aH 166:=bA (a7 Lb) (raw:=au) (λ(_,_)=>[]) (λ(_,_)=>⟨_,rfl⟩) λ(a,b) _=>aw (q:=[aDh a.y b.y,aDh a.x b.x].length<=1000/\orL [aDh a.y b.y,aDh a.x b.x] =dT a b) (by kernel_rfl) (by refine⟨by simp,?_⟩;unfold dT;simp only[orL];grind)
noncomputable def t78:Tab:=ap [(166,c78)] O2
def Na:t78.Ok aH:=aq Lb ⟨k78,trivial⟩
noncomputable def QO:Con:=con (ac aV (a1 aV)) (λ(_,_)=>[]) (λ(a,b)=> .bool (bV a b)
 )
def aBV:QO.Ok aH 141:=bA (a7 Na) (raw:=au) (λ(_,_)=>[]) (λ(_,_)=>⟨_,rfl⟩) λ(a,b) _=>aw (q:=decide (dT a b<0)=bV a b) (by kernel_rfl) (by unfold bV dT aDh;grind)
noncomputable def OJ:Tab:=ap [(141,QO)] t78
def Ki:OJ.Ok aH:=aq Na ⟨aBV,trivial⟩
noncomputable def RM:Con:=con (ac aV (a1 aV)) (λ(a,b)=>[bd 2000000000 a,bd 2000000000 b]) (λ(a,b)=> .int .i64 (aDe a b)
 )
def aCR:RM.Ok aH 143:=bA (a7 Ki) (raw:=au) (λ(_,_)=>[]) (λ(_,_)=>⟨_,rfl⟩) λ(a,b) hp=>aw (q:=aG (a.x*b.y)/\aG (a.y*b.x)/\aG (a.x*b.y-a.y*b.x)/\a.x*b.y-a.y*b.x=aDe a b) (by kernel_rfl) (by change bd 2000000000 a/\bd 2000000000 b at hp;have:=qV hp.1 hp.2;exact⟨cl (by omega),cl (by omega),cl (by omega),rfl⟩)
noncomputable def PJ:Tab:=ap [(143,RM)] OJ
def L6:PJ.Ok aH:=aq Ki ⟨aCR,trivial⟩
noncomputable def RA:Con:=con (ac aV (a1 aV)) (λ(a,b)=>[bd 1000000000 a,bd 1000000000 b]) (λ(a,b)=>aV.enc (aDd a b)
 )
def aCH:RA.Ok aH 138:=bA (a7 L6) (raw:=au) (λ(_,_)=>[]) (λ(_,_)=>⟨_,rfl⟩) λ(a,b) hp=>aw (q:=aG (a.x-b.x)/\aG (a.y-b.y)/\a.x-b.x=(aDd a b).x/\a.y-b.y=(aDd a b).y) (by kernel_rfl) (by change bd 1000000000 a/\bd 1000000000 b at hp;unfold bd at hp;exact⟨cl (by omega),cl (by omega),rfl,rfl⟩)
noncomputable def PA:Tab:=ap [(138,RA)] PJ
def Li:PA.Ok aH:=aq L6 ⟨aCH,trivial⟩
noncomputable def c63:Con:=con (ac aV (ac aV (a1 aV))) (λ(a,b,c)=>[bd 1000000000 a,bd 1000000000 b,bd 1000000000 c]) (λ(a,b,c)=> .int .i64 (bZ a b c)
 )
def k63:c63.Ok aH 208:=bA (a7 Li) (raw:=au) (λ(_,_,_)=>[]) (λ(_,_,_)=>⟨_,rfl⟩) λ(a,b,c) hp=>aw (q:=bd 1000000000 b/\bd 1000000000 a/\bd 1000000000 c/\bd 1000000000 a/\bd 2000000000 (aDd b a)/\bd 2000000000 (aDd c a)/\aDh (aDe (aDd b a) (aDd c a)) 0=bZ a b c) (by kernel_rfl) (by
 change bd 1000000000 a/\bd 1000000000 b/\bd 1000000000 c at hp;have e:∀n,aDh n 0=sgn n:=λn=>by unfold aDh sgn;grind
 exact⟨hp.2.1,hp.1,hp.2.2,hp.1,jp hp.2.1 hp.1,jp hp.2.2 hp.1,e _⟩)
noncomputable def t63:Tab:=ap [(208,c63)] PA
def Nn:t63.Ok aH:=aq Li ⟨k63,trivial⟩
noncomputable def Q9:Con:=con (ac aV (a1 aI)) (λ(_,m)=>[0<=m,m<=9000000000000000000]) (λ(a,m)=> .bool (bR a m)
 )
def aCG:Q9.Ok aH 40:=bA (a7 Nn) (raw:=au) (λ(_,_)=>[]) (λ(_,_)=>⟨_,rfl⟩) λ(a,m) hp=>aw (q:=aG (0-m)/\(0-m<=a.x->(a.x<=m->aG (0-m)/\(0-m<=a.y->decide (a.y<=m)=bR a m)/\
   (¬0-m<=a.y->false=bR a m))/\
  (¬a.x<=m->false=bR a m))/\
 (¬0-m<=a.x->false=bR a m)) (by kernel_rfl) (by change 0<=m/\m<=9000000000000000000 at hp;unfold bR;have:= @aG;grind[aG])
noncomputable def O9:Tab:=ap [(40,Q9)] t63
def Lh:O9.Ok aH:=aq Nn ⟨aCG,trivial⟩
noncomputable def Q6:Con:=con (a1 aV) (λ_=>[]) (λa=>aT.enc (bP a)
 )
def aCE:Q6.Ok aH 72:=bA (a7 Lh) (raw:=au) (λ_=>[]) (λ_=>⟨_,rfl⟩) λa _=>aw (q:=a.x=(bP a).x/\a.y=(bP a).y/\1=(bP a).den) (by kernel_rfl) (by exact⟨rfl,rfl,rfl⟩)
noncomputable def O7:Tab:=ap [(72,Q6)] O9
def Lf:O7.Ok aH:=aq Lh ⟨aCE,trivial⟩
def mT(b:S)(p:V):Bool:=decide (b.a.x<=p.x)&&decide (p.x<=b.b.x)&&decide (b.a.y<=p.y)&&decide (p.y<=b.b.y)
def bU(l:List V):Nat->S
 |0=>⟨aDa l 0,aDa l 0⟩
 |k+1=>⟨⟨min (bU l k).a.x (aDa l k).x,min (bU l k).a.y (aDa l k).y⟩,⟨max (bU l k).b.x (aDa l k).x,max (bU l k).b.y (aDa l k).y⟩⟩
noncomputable def QM:Con:=con (ac aS (a1 aV)) (λ(_,_)=>[]) (λ(b,p)=> .bool (mT b p)
 )
def aBT:QM.Ok aH 207:=bA (a7 Lf) (raw:=au) (λ(_,_)=>[]) (λ(_,_)=>⟨_,rfl⟩) λ(b,p) _=>aw (q:=(b.a.x<=p.x->(p.x<=b.b.x->(b.a.y<=p.y->decide (p.y<=b.b.y)=mT b p)/\
   (¬b.a.y<=p.y->false=mT b p))/\
  (¬p.x<=b.b.x->false=mT b p))/\
 (¬b.a.x<=p.x->false=mT b p)) (by kernel_rfl) (by unfold mT;grind)
noncomputable def OH:Tab:=ap [(207,QM)] O7
def Kg:OH.Ok aH:=aq Lf ⟨aBT,trivial⟩
noncomputable def QN:Con:=con (a1 (aL .V)) (λl=>[l.length<=1000]) (λl=> .tup [aS.enc (bU l l.length),.bool (decide (0<l.length))])
def aBU:QN.Ok aH 205:=bA (a7 Kg) (raw:=au) (λl=>[lp 5 19 l.length (λ_=>[]) [] (λ_=>[]) (λk=>[(12,.box 239 [.int .i64 (bU l k).a.x,.int .i64 (bU l k).a.y,.int .i64 (bU l k).b.x,.int .i64 (bU l k).b.y])])]
  ) (λ_=>⟨_,rfl⟩) λl hp=>aw (q:=((l.length:Int)=0->0=(bU l l.length).a.x/\0=(bU l l.length).a.y/\0=(bU l l.length).b.x/\0=(bU l l.length).b.y/\false=decide ((0:Nat)<l.length))/\
 (¬(l.length:Int)=0->ix 0 l.length/\ix 0 l.length/\(0=(0:Int)/\(aDa l 0).x=(bU l 0).a.x/\(aDa l 0).y=(bU l 0).a.y/\(aDa l 0).x=(bU l 0).b.x/\(aDa l 0).y=(bU l 0).b.y/\(0:Nat)<=l.length)/\
  (∀x:Nat,x<=l.length->((x:Int)<l.length->ix (x:Int) l.length/\ix (x:Int) l.length/\ix (x:Int) l.length/\ix (x:Int) l.length/\aG ((x:Int)+1)/\(x:Int)+1=((x+1:Nat):Int)/\Min.min (bU l x).a.x (aDa l x).x=(bU l (x+1)).a.x/\Min.min (bU l x).a.y (aDa l x).y=(bU l (x+1)).a.y/\Max.max (bU l x).b.x (aDa l x).x=(bU l (x+1)).b.x/\Max.max (bU l x).b.y (aDa l x).y=(bU l (x+1)).b.y/\x+1<=l.length/\l.length-(x+1)<l.length-x)/\
   (¬(x:Int)<l.length->(bU l x).a.x=(bU l l.length).a.x/\(bU l x).a.y=(bU l l.length).a.y/\(bU l x).b.x=(bU l l.length).b.x/\(bU l x).b.y=(bU l l.length).b.y/\true=decide ((0:Nat)<l.length))))) (by kernel_rfl) (by
  change l.length<=1000 at hp;have eU:∀x:Nat,¬(x:Int)<l.length->x<=l.length->bU l x=bU l l.length:=λx h1 h2=>by grind
  with_reducible ((repeat' first|apply c6|intro);all_goals repeat cases‹_/\_›)
  all_goals first|rfl|(have h0:l=[] :=ip.1 (by omega);subst h0;rfl)|(rw[eU _ ‹_› ‹_›])|(symm;rw[decide_eq_false_iff_not];omega)|grind)
noncomputable def OI:Tab:=ap [(205,QN)] OH
def Kh:OI.Ok aH:=aq Kg ⟨aBU,trivial⟩
noncomputable def QU:Con:=con (ac aI (a1 aI)) (λ(a,b)=>[-9000000000000000000<=a,a<=9000000000000000000,-9000000000000000000<=b,b<=9000000000000000000]) (λ(a,b)=> .int .i64 ((cE a.natAbs b.natAbs:Nat):Int))
def aB1:QU.Ok aH 183:=bA (a7 Kh) (raw:=au) (λ(a,b)=>[(1,.mk (Int×Int) (λF _=>Pj F 0 1) [] (λp=>[p.1.natAbs<=9000000000000000000,p.2.natAbs<=9000000000000000000,cE p.1.natAbs p.2.natAbs=cE a.natAbs b.natAbs]) (λp=>[(0,.int .i64 p.1),(1,.int .i64 p.2)]) (λ_=>[]) (λp=>p.2.natAbs) (λ_=>[]))]
  ) (λ(_,_)=>⟨_,rfl⟩) λ(a,b) hp=>aw (q:=(a=a/\b=b/\bm a<=9000000000000000000/\bm b<=9000000000000000000/\cE (bm a) (bm b)=cE (bm a) (bm b))/\
 (∀x:Prod Int Int,bm x.1<=9000000000000000000/\bm x.2<=9000000000000000000/\cE (bm x.1) (bm x.2)=cE (bm a) (bm b)->(¬x.2=0->x.2≠0/\x.2=x.2/\dr x.1 x.2=dr x.1 x.2/\bm x.snd<=9000000000000000000/\bm (dr x.1 x.2)<=9000000000000000000/\cE (bm x.snd) (bm (dr x.1 x.2))=cE (bm a) (bm b)/\bm (dr x.1 x.2)<bm x.2)/\
  (¬(¬x.2=0)->aG (0-x.1)/\Max.max x.1 (0-x.1)=cE (bm a) (bm b)))) (by kernel_rfl) (by
  change-9000000000000000000<=a/\a<=9000000000000000000/\ -9000000000000000000<=b/\b<=9000000000000000000 at hp;have e1:∀x y:Int,cE y.natAbs (dr x y).natAbs=cE x.natAbs y.natAbs:=λx y=>by rw[DV,DW,<-Nat.gcd_rec,DW]
  have e2:∀x y:Int,¬y=0->(dr x y).natAbs<y.natAbs:=λx y h=>by rw[DV];exact eO _ (by omega)
  have e3:∀(x y:Int) (g:Nat),cE x.natAbs y.natAbs=g->¬¬y=0->max x (0-x)=(g:Int):=λx y g h h2=>by rw[yW h2]at h;grind
  repeat' first|with_reducible apply c6|with_reducible intro
  all_goals repeat with_reducible cases‹_/\_›
  all_goals first|rfl|with_reducible solve_by_elim|(rw[e1];assumption)|exact trivial|exact nb ‹_› |exact nb' ‹_› |omega|exact fK (by omega)|(unfold ix;omega)|(unfold aG;omega)|exact d8 _|exact b8 ‹_› ‹_› |(refine b8 ‹_› ?_;simp_all;done)|grind|grind)
noncomputable def OQ:Tab:=ap [(183,QU)] OI
def Kq:OQ.Ok aH:=aq Kh ⟨aB1,trivial⟩
noncomputable def QV:Con:=con (ac aT (a1 aI)) (λ(_,m)=>[0<=m,m<=1000000]) (λ(p,m)=> .bool (di p m)
 )
def aB2:QV.Ok aH 111:=bA (a7 Kq) (raw:=au) (λ(_,_)=>[]) (λ(_,_)=>⟨_,rfl⟩) λ(p,m) hp=>aw (q:=(p.den<1->false=di p m)/\
 (¬p.den<1->(134217728<p.den->false=di p m)/\
  (¬134217728<p.den->aG (m*p.den)/\0<=m*p.den/\m*p.den<=9000000000000000000/\bR ⟨p.x,p.y⟩ (m*p.den)=di p m))) (by kernel_rfl) (by
  change 0<=m/\m<=1000000 at hp;unfold di;have hm:¬p.den<1->¬134217728<p.den->aG (m*p.den)/\0<=m*p.den/\m*p.den<=9000000000000000000:=λh1 h2=>by have:=iN (x:=m) (y:=p.den) (A:=1000000) (B:=134217728) (by omega) (by omega);exact⟨cl (by omega),jG hp.1 (by omega),by omega⟩
  grind)
noncomputable def OR:Tab:=ap [(111,QV)] OQ
def Kr:OR.Ok aH:=aq Kq ⟨aB2,trivial⟩
noncomputable def Qe:Con:=con (a1 aT) (λ_=>[]) (λp=> .bool (dE p)
 )
def aCb:Qe.Ok aH 110:=bA (a7 Kr) (raw:=au) (λ_=>[]) (λ_=>⟨_,rfl⟩) λp _=>aw (q:=(0:Int)<=4000/\(4000:Int)<=1000000/\(di p 4000=true-> -9000000000000000000<=p.x/\p.x<=9000000000000000000/\ -9000000000000000000<=p.y/\p.y<=9000000000000000000/\ -9000000000000000000<=(cE (bm p.x) (bm p.y):Int)/\(cE (bm p.x) (bm p.y):Int)<=9000000000000000000/\ -9000000000000000000<=p.den/\p.den<=9000000000000000000/\decide ((cE (bm (cE (bm p.x) (bm p.y):Int)) (bm p.den):Int)=1)=dE p)/\
 (di p 4000=false->false=dE p)) (by kernel_rfl) (by
  have hB:di p 4000=true->PtB p:=λh=>by unfold di bR at h;simp only[cD,decide_eq_true_eq]at h;unfold PtB;omega
  have hn:∀n m B:Nat,n<=B->m<=B->cE n m<=B:=λn m B h1 h2=>by
   rcases oK n with e|e
   .grind
   .exact ci (Nat.gcd_le_left m e) h1
  have hg:PtB p->cE p.x.natAbs p.y.natAbs<=600000000000:=λh=>hn _ _ _ (by unfold PtB at h;omega) (by unfold PtB at h;omega);have ht:di p 4000=true->decide ((cE (bm (cE (bm p.x) (bm p.y):Int)) (bm p.den):Int)=1)=dE p:=λh=>by unfold dE;grind
  with_reducible ((repeat' first|apply c6|intro);all_goals repeat cases‹_/\_›)
  all_goals first|rfl|exact ht ‹_› |(have h1:=hB ‹_›;have h2:=hg h1;unfold PtB at h1;omega)|(unfold dE;grind)|grind)
noncomputable def Oa:Tab:=ap [(110,Qe)] OR
def K9:Oa.Ok aH:=aq Kr ⟨aCb,trivial⟩
noncomputable def QS:Con:=con (a1 aS) (λ_=>[]) (λs=> .bool (bQ s)
 )
def aBZ:QS.Ok aH 206:=bA (a7 K9) (raw:=au) (λ_=>[]) (λ_=>⟨_,rfl⟩) λs _=>aw (q:=(0:Int)<=4000/\(4000:Int)<=9000000000000000000/\(bR s.a 4000=true->(0:Int)<=4000/\(4000:Int)<=9000000000000000000/\bR s.b 4000=bQ s)/\
 (bR s.a 4000=false->false=bQ s)) (by kernel_rfl) (by unfold bQ;grind)
noncomputable def OO:Tab:=ap [(206,QS)] Oa
def Km:OO.Ok aH:=aq K9 ⟨aBZ,trivial⟩
noncomputable def QQ:Con:=con (ac aS (a1 aV)) (λ(_,_)=>[]) (λ(s,p)=> .bool (onS s p)
 )
def aBX:QQ.Ok aH 136:=bA (a7 Km) (raw:=au) (λ(_,_)=>[]) (λ(_,_)=>⟨_,rfl⟩) λ(s,p) _=>aw (q:=[s.a,s.b].length<=1000/\(bQ s=true->(mT (bU [s.a,s.b] [s.a,s.b].length) p=true->bd 1000000000 s.a/\bd 1000000000 s.b/\bd 1000000000 p/\decide (bZ s.a s.b p=0)=onS s p)/\
  (mT (bU [s.a,s.b] [s.a,s.b].length) p=false->false=onS s p))/\
 (bQ s=false->false=onS s p)) (by kernel_rfl) (by
  have e0:mT (bU [s.a,s.b] [s.a,s.b].length) p=fE s p:=by show(decide (min (min s.a.x s.a.x) s.b.x<=p.x)&&decide (p.x<=max (max s.a.x s.a.x) s.b.x)&&decide (min (min s.a.y s.a.y) s.b.y<=p.y)&&decide (p.y<=max (max s.a.y s.a.y) s.b.y))=_;rw[Int.min_self,Int.min_self,Int.max_self,Int.max_self];rfl
  rw[e0];have hv:∀{M:Int},bQ s=true->4000<=M->bd M s.a/\bd M s.b:=λh hM=>kP (by rw[h];rfl) hM;refine⟨by simp,λh=>⟨λh2=>⟨(hv h (by decide)).1,(hv h (by decide)).2,Jc (hv h (by decide)) h2,?_⟩,λh2=>by unfold onS;rw[h2];simp⟩,λh=>by unfold onS;rw[h];rfl⟩;unfold onS;grind)
noncomputable def OM:Tab:=ap [(136,QQ)] OO
def Kk:OM.Ok aH:=aq Km ⟨aBX,trivial⟩
noncomputable def QP:Con:=con (a1 aV) (λ_=>[]) (λp=> .agg [.int .i64 1,.int .i64 p.x,.int .i64 p.y,.int .i64 1,.int .i64 0,.int .i64 0,.int .i64 0,.int .i64 0]
 )
def aBW:QP.Ok aH 233:=bA (a7 Kk) (raw:=au) (λ_=>[]) (λ_=>⟨_,rfl⟩) λp _=>aw (q:=(1:Int)=1/\(bP p).x=p.x/\(bP p).y=p.y/\(bP p).den=1/\(0:Int)=0/\(0:Int)=0/\(0:Int)=0/\(0:Int)=0) (by kernel_rfl) (by
 with_reducible ((repeat' first|apply c6|intro);all_goals repeat cases‹_/\_›)
 all_goals first|rfl|grind)
noncomputable def OL:Tab:=ap [(233,QP)] OM
def Kj:OL.Ok aH:=aq Kk ⟨aBW,trivial⟩
structure Com where
 k:Int
 p:Pt
 s:S
def RZ(c:Com):SV:= .agg [.int .i64 c.k,.int .i64 c.p.x,.int .i64 c.p.y,.int .i64 c.p.den,.int .i64 c.s.a.x,.int .i64 c.s.a.y,.int .i64 c.s.b.x,.int .i64 c.s.b.y]
def cz:Com:=⟨0,⟨0,0,0⟩,⟨⟨0,0⟩,⟨0,0⟩⟩⟩
def lA(s t:S)(d:Int):Int:=if d<0 then-aDe (aDd t.a s.a) (aDd t.b t.a)else aDe (aDd t.a s.a) (aDd t.b t.a)
def lB(s t:S)(d:Int):Int:=if d<0 then-aDe (aDd t.a s.a) (aDd s.b s.a)else aDe (aDd t.a s.a) (aDd s.b s.a)
def lE(d:Int):Int:=if d<0 then-d else d
def lX(s t:S)(d:Int):Int:=s.a.x*lE d+lA s t d*(aDd s.b s.a).x
def lY(s t:S)(d:Int):Int:=s.a.y*lE d+lA s t d*(aDd s.b s.a).y
def lG(s t:S)(d:Int):Int:=((cE (cE (lX s t d).natAbs (lY s t d).natAbs:Int).natAbs (lE d).natAbs:Nat):Int)
def bH(s t:S)(d:Int):Com:=if gk s t d=0 then cz else⟨gk s t d,⟨(lX s t d).tdiv (lG s t d),(lY s t d).tdiv (lG s t d),(lE d).tdiv (lG s t d)⟩,cz.s⟩
def jO(key:Nat)(obs:List (Nat×SOb)):Nat×Ann:=(key+10000,.mk Unit (λ_ _=>some ()) [] (λ_=>[]) (λ_=>[]) (λ_=>obs) (λ_=>0) (λ_=>[]))
def aCZ(c:Com):List SV:=[.int .i64 c.k,.int .i64 c.p.x,.int .i64 c.p.y,.int .i64 c.p.den,.int .i64 c.s.a.x,.int .i64 c.s.a.y,.int .i64 c.s.b.x,.int .i64 c.s.b.y]
def zj{x g B:Int}(h: -B<=x/\x<=B): -B<=x.tdiv g/\x.tdiv g<=B:=by have:=Int.natAbs_tdiv_le_natAbs x g;omega
def Zc{n m B:Nat}(h1:n<=B)(h2:m<=B):cE n m<=B:=by
 rcases oK n with e|e
 .grind
 .exact ci (Nat.gcd_le_left m e) h1
def vm{s t:S}{d:Int}(h:lA s t d<0\/lE d<lA s t d\/lB s t d<0\/lE d<lB s t d):bH s t d=cz:=if_pos (if_pos h)
def Ei{s t:S}{d:Int}(h1:¬lA s t d<0)(h2:¬lE d<lA s t d)(h3:¬lB s t d<0)(h4:¬lE d<lB s t d):gk s t d=if lA s t d=0\/lA s t d=lE d\/lB s t d=0\/lB s t d=lE d then 1 else 2:=if_neg (by simp only[not_or];exact⟨h1,h2,h3,h4⟩)
def sQ{s t:S}{d k:Int}(h:gk s t d=k)(hk:k≠0):bH s t d=⟨k,⟨(lX s t d).tdiv (lG s t d),(lY s t d).tdiv (lG s t d),(lE d).tdiv (lG s t d)⟩,cz.s⟩:=by unfold bH;grind
noncomputable def QR:Con:=con (ac aS (ac aS (a1 aI))) (λ(s,t,d)=>[bQ s=true,bQ t=true,d≠0,-200000000<=d/\d<=200000000]) (λ(s,t,d)=>RZ (bH s t d))
def aBY:QR.Ok aH 232:=bA (a7 Kj) (raw:=au) (λ(s,t,d)=>[jU 6 [(10,.int .i64 (lA s t d)),(11,.int .i64 (lB s t d)),(2,.int .i64 (lE d))],(9+10000,.mk Unit (λ_ _=>some ()) [] (λ_=>[¬lA s t d<0,¬lE d<lA s t d,¬lB s t d<0,¬lE d<lB s t d]) (λ_=>[(12,.int .i64 (lX s t d)),(13,.int .i64 (lY s t d))]) (λ_=>[]) (λ_=>0) (λ_=>[])),
  jU 10 [(14,.int .i64 (lG s t d))],jO 13 [(59,.box 211 (aCZ (bH s t d)))]]
  ) (λ(_,_,_)=>⟨_,rfl⟩) λ(s,t,d) hp=>aw (q:=bd 1000000000 s.b/\bd 1000000000 s.a/\bd 1000000000 t.b/\bd 1000000000 t.a/\bd 1000000000 t.a/\bd 1000000000 s.a/\bd 2000000000 (aDd t.a s.a)/\bd 2000000000 (aDd t.b t.a)/\bd 2000000000 (aDd t.a s.a)/\bd 2000000000 (aDd s.b s.a)/\((d<0->aG (0-aDe (aDd t.a s.a) (aDd t.b t.a))/\aG (0-aDe (aDd t.a s.a) (aDd s.b s.a))/\aG (0-d)/\0-aDe (aDd t.a s.a) (aDd t.b t.a)=lA s t d/\0-aDe (aDd t.a s.a) (aDd s.b s.a)=lB s t d/\0-d=lE d)/\
  (¬d<0->aDe (aDd t.a s.a) (aDd t.b t.a)=lA s t d/\aDe (aDd t.a s.a) (aDd s.b s.a)=lB s t d/\d=lE d))/\
 (∀y:Unit,(lA s t d<0->0=(bH s t d).k/\0=(bH s t d).p.x/\0=(bH s t d).p.y/\0=(bH s t d).p.den/\0=(bH s t d).s.a.x/\0=(bH s t d).s.a.y/\0=(bH s t d).s.b.x/\0=(bH s t d).s.b.y)/\
  (¬lA s t d<0->(lE d<lA s t d->0=(bH s t d).k/\0=(bH s t d).p.x/\0=(bH s t d).p.y/\0=(bH s t d).p.den/\0=(bH s t d).s.a.x/\0=(bH s t d).s.a.y/\0=(bH s t d).s.b.x/\0=(bH s t d).s.b.y)/\
   (¬lE d<lA s t d->(lB s t d<0->0=(bH s t d).k/\0=(bH s t d).p.x/\0=(bH s t d).p.y/\0=(bH s t d).p.den/\0=(bH s t d).s.a.x/\0=(bH s t d).s.a.y/\0=(bH s t d).s.b.x/\0=(bH s t d).s.b.y)/\
    (¬lB s t d<0->(lE d<lB s t d->0=(bH s t d).k/\0=(bH s t d).p.x/\0=(bH s t d).p.y/\0=(bH s t d).p.den/\0=(bH s t d).s.a.x/\0=(bH s t d).s.a.y/\0=(bH s t d).s.b.x/\0=(bH s t d).s.b.y)/\
     (¬lE d<lB s t d->(aG (s.a.x*lE d)/\aG (lA s t d*(aDd s.b s.a).x)/\aG (s.a.x*lE d+lA s t d*(aDd s.b s.a).x)/\aG (s.a.y*lE d)/\aG (lA s t d*(aDd s.b s.a).y)/\aG (s.a.y*lE d+lA s t d*(aDd s.b s.a).y)/\s.a.x*lE d+lA s t d*(aDd s.b s.a).x=lX s t d/\s.a.y*lE d+lA s t d*(aDd s.b s.a).y=lY s t d/\¬lA s t d<0/\¬lE d<lA s t d/\¬lB s t d<0/\¬lE d<lB s t d)/\
      (∀y_1:Unit,¬lA s t d<0/\¬lE d<lA s t d/\¬lB s t d<0/\¬lE d<lB s t d->(-9000000000000000000<=lX s t d/\lX s t d<=9000000000000000000/\ -9000000000000000000<=lY s t d/\lY s t d<=9000000000000000000/\ -9000000000000000000<=(cE (bm (lX s t d)) (bm (lY s t d)):Int)/\(cE (bm (lX s t d)) (bm (lY s t d)):Int)<=9000000000000000000/\ -9000000000000000000<=lE d/\lE d<=9000000000000000000/\(cE (bm (cE (bm (lX s t d)) (bm (lY s t d)):Int)) (bm (lE d)):Int)=lG s t d)/\
       (∀y_2:Unit,lG s t d≠0/\aG (bz (lX s t d) (lG s t d))/\lG s t d≠0/\aG (bz (lY s t d) (lG s t d))/\lG s t d≠0/\aG (bz (lE d) (lG s t d))/\((lA s t d=0->1=(bH s t d).k/\bz (lX s t d) (lG s t d)=(bH s t d).p.x/\bz (lY s t d) (lG s t d)=(bH s t d).p.y/\bz (lE d) (lG s t d)=(bH s t d).p.den/\0=(bH s t d).s.a.x/\0=(bH s t d).s.a.y/\0=(bH s t d).s.b.x/\0=(bH s t d).s.b.y)/\
         (¬lA s t d=0->(lA s t d=lE d->1=(bH s t d).k/\bz (lX s t d) (lG s t d)=(bH s t d).p.x/\bz (lY s t d) (lG s t d)=(bH s t d).p.y/\bz (lE d) (lG s t d)=(bH s t d).p.den/\0=(bH s t d).s.a.x/\0=(bH s t d).s.a.y/\0=(bH s t d).s.b.x/\0=(bH s t d).s.b.y)/\
          (¬lA s t d=lE d->(lB s t d=0->1=(bH s t d).k/\bz (lX s t d) (lG s t d)=(bH s t d).p.x/\bz (lY s t d) (lG s t d)=(bH s t d).p.y/\bz (lE d) (lG s t d)=(bH s t d).p.den/\0=(bH s t d).s.a.x/\0=(bH s t d).s.a.y/\0=(bH s t d).s.b.x/\0=(bH s t d).s.b.y)/\
           (¬lB s t d=0->(lB s t d=lE d->1=(bH s t d).k/\bz (lX s t d) (lG s t d)=(bH s t d).p.x/\bz (lY s t d) (lG s t d)=(bH s t d).p.y/\bz (lE d) (lG s t d)=(bH s t d).p.den/\0=(bH s t d).s.a.x/\0=(bH s t d).s.a.y/\0=(bH s t d).s.b.x/\0=(bH s t d).s.b.y)/\
            (¬lB s t d=lE d->2=(bH s t d).k/\bz (lX s t d) (lG s t d)=(bH s t d).p.x/\bz (lY s t d) (lG s t d)=(bH s t d).p.y/\bz (lE d) (lG s t d)=(bH s t d).p.den/\0=(bH s t d).s.a.x/\0=(bH s t d).s.a.y/\0=(bH s t d).s.b.x/\0=(bH s t d).s.b.y)))))/\
        (∀y_3:Unit,(bH s t d).k=(bH s t d).k/\(bH s t d).p.x=(bH s t d).p.x/\(bH s t d).p.y=(bH s t d).p.y/\(bH s t d).p.den=(bH s t d).p.den/\(bH s t d).s.a.x=(bH s t d).s.a.x/\(bH s t d).s.a.y=(bH s t d).s.a.y/\(bH s t d).s.b.x=(bH s t d).s.b.x/\(bH s t d).s.b.y=(bH s t d).s.b.y))))))))) (by kernel_rfl) (by
  change bQ s=true/\bQ t=true/\d≠0/\(-200000000<=d/\d<=200000000)at hp;obtain⟨hs,ht,h0,hd⟩:=hp;have bs:bd 4000 s.a/\bd 4000 s.b:=kP (by rw[hs];rfl);have bt:bd 4000 t.a/\bd 4000 t.b:=kP (by rw[ht];rfl);have u1:=jp bs.2 bs.1;have u2:=jp bt.2 bt.1;have u3:=jp bt.1 bs.1;have c1:=qV u3 u2;have c2:=qV u3 u1;have gM:∀{M:Int} {v:V},16000<=M->bd 4000 v->bd M v:=λh1 h2=>by unfold bd at*;omega
  have gN:∀{M:Int} {v:V},16000<=M->bd (4000+4000) v->bd M v:=λh1 h2=>by unfold bd at*;omega
  have a1: -128000000<=lA s t d/\lA s t d<=128000000:=by unfold lA aDe;split<;>omega
  have e1: -200000000<=lE d/\lE d<=200000000:=by unfold lE;split<;>omega
  have e2:lE d≠0:=by unfold lE;split<;>omega
  have k1:aG (0-aDe (aDd t.a s.a) (aDd t.b t.a)):=cl (by unfold aDe;omega);have k2:aG (0-aDe (aDd t.a s.a) (aDd s.b s.a)):=cl (by unfold aDe;omega);have x1:=iN (A:=4000) (B:=200000000) bs.1.1 e1;have x2:=iN (A:=128000000) (B:=8000) a1 u1.1;have y1:=iN (A:=4000) (B:=200000000) bs.1.2 e1;have y2:=iN (A:=128000000) (B:=8000) a1 u1.2;have xB: -2000000000000<=lX s t d/\lX s t d<=2000000000000:=by unfold lX;omega
  have yB: -2000000000000<=lY s t d/\lY s t d<=2000000000000:=by unfold lY;omega
  have g1:cE (lX s t d).natAbs (lY s t d).natAbs<=2000000000000:=Zc (by omega) (by omega);have g2:lG s t d≠0:=by unfold lG;have:=Nat.gcd_pos_of_pos_right (cE (lX s t d).natAbs (lY s t d).natAbs:Int).natAbs (show 0<(lE d).natAbs by omega);omega
  have q1:=zj (g:=lG s t d) xB;have q2:=zj (g:=lG s t d) yB;have q3:=zj (g:=lG s t d) e1;have r1:aG (s.a.x*lE d):=cl (by omega);have r2:aG (lA s t d*(aDd s.b s.a).x):=cl (by omega);have r3:aG (s.a.x*lE d+lA s t d*(aDd s.b s.a).x):=cl (by omega);have r4:aG (s.a.y*lE d):=cl (by omega);have r5:aG (lA s t d*(aDd s.b s.a).y):=cl (by omega);have r6:aG (s.a.y*lE d+lA s t d*(aDd s.b s.a).y):=cl (by omega);have r7:aG ((lX s t d).tdiv (lG s t d)):=cl (by omega);have r8:aG ((lY s t d).tdiv (lG s t d)):=cl (by omega);have r9:aG ((lE d).tdiv (lG s t d)):=cl (by omega);have r10:aG (0-d):=cl (by omega);have f1:d<0->0-aDe (aDd t.a s.a) (aDd t.b t.a)=lA s t d:=λh=>by unfold lA;omega
  have f2:d<0->0-aDe (aDd t.a s.a) (aDd s.b s.a)=lB s t d:=λh=>by unfold lB;omega
  have f3:d<0->0-d=lE d:=λh=>by unfold lE;omega
  have f4:¬d<0->aDe (aDd t.a s.a) (aDd t.b t.a)=lA s t d:=λh=>by unfold lA;rw[if_neg h]
  have f5:¬d<0->aDe (aDd t.a s.a) (aDd s.b s.a)=lB s t d:=λh=>by unfold lB;rw[if_neg h]
  have f6:¬d<0->d=lE d:=λh=>by unfold lE;rw[if_neg h]
  have n1:lA s t d<0->bH s t d=cz:=λh=>vm (.inl h);have n2:lE d<lA s t d->bH s t d=cz:=λh=>vm (.inr (.inl h));have n3:lB s t d<0->bH s t d=cz:=λh=>vm (.inr (.inr (.inl h)));have n4:lE d<lB s t d->bH s t d=cz:=λh=>vm (.inr (.inr (.inr h)));have t0:¬lA s t d<0->¬lE d<lA s t d->¬lB s t d<0->¬lE d<lB s t d->lA s t d=0\/lA s t d=lE d\/lB s t d=0\/lB s t d=lE d->bH s t d=⟨1,⟨(lX s t d).tdiv (lG s t d),(lY s t d).tdiv (lG s t d),(lE d).tdiv (lG s t d)⟩,cz.s⟩:=λh1 h2 h3 h4 h=>sQ (by rw[Ei h1 h2 h3 h4,if_pos h]) (by decide);have t1:¬lA s t d<0->¬lE d<lA s t d->¬lB s t d<0->¬lE d<lB s t d->¬(lA s t d=0\/lA s t d=lE d\/lB s t d=0\/lB s t d=lE d)->bH s t d=⟨2,⟨(lX s t d).tdiv (lG s t d),(lY s t d).tdiv (lG s t d),(lE d).tdiv (lG s t d)⟩,cz.s⟩:=λh1 h2 h3 h4 h=>sQ (by rw[Ei h1 h2 h3 h4,if_neg h]) (by decide);have b1:=gM (M:=1000000000) (by decide) bs.1;have b2:=gM (M:=1000000000) (by decide) bs.2;have b3:=gM (M:=1000000000) (by decide) bt.1;have b4:=gM (M:=1000000000) (by decide) bt.2;have b5:=gN (M:=2000000000) (by decide) u1;have b6:=gN (M:=2000000000) (by decide) u2;have b7:=gN (M:=2000000000) (by decide) u3;have hX: -9000000000000000000<=lX s t d/\lX s t d<=9000000000000000000:=by omega
  have hY: -9000000000000000000<=lY s t d/\lY s t d<=9000000000000000000:=by omega
  have hE: -9000000000000000000<=lE d/\lE d<=9000000000000000000:=by omega
  have hG1: -9000000000000000000<=((cE (lX s t d).natAbs (lY s t d).natAbs:Nat):Int):=by omega
  have hG2:((cE (lX s t d).natAbs (lY s t d).natAbs:Nat):Int)<=9000000000000000000:=by omega
  clear hs ht h0 hd bs bt u1 u2 u3 c1 c2 gM gN a1 e1 e2 x1 x2 y1 y2 xB yB g1 q1 q2 q3;obtain⟨hX1,hX2⟩:=hX;obtain⟨hY1,hY2⟩:=hY;obtain⟨hE1,hE2⟩:=hE
  with_reducible ((repeat' first|apply c6|intro);all_goals repeat cases‹_/\_›)
  all_goals first|assumption|rfl|exact f1 ‹_› |exact f2 ‹_› |exact f3 ‹_› |exact f4 ‹_› |exact f5 ‹_› |exact f6 ‹_› |(rw[n1 ‹_›];rfl)|(rw[n2 ‹_›];rfl)|(rw[n3 ‹_›];rfl)|(rw[n4 ‹_›];rfl)|(rw[t0 ‹_› ‹_› ‹_› ‹_› (.inl ‹_›)] <;>rfl)|(rw[t0 ‹_› ‹_› ‹_› ‹_› (.inr (.inl ‹_›))] <;>rfl)|(rw[t0 ‹_› ‹_› ‹_› ‹_› (.inr (.inr (.inl ‹_›)))] <;>rfl)|(rw[t0 ‹_› ‹_› ‹_› ‹_› (.inr (.inr (.inr ‹_›)))] <;>rfl)|(rw[t1 ‹_› ‹_› ‹_› ‹_› (λh=>h.elim ‹_› λh=>h.elim ‹_› λh=>h.elim ‹_› ‹_›)] <;>rfl))
noncomputable def ON:Tab:=ap [(232,QR)] OL
def Kl:ON.Ok aH:=aq Kj ⟨aBY,trivial⟩
def v2(v:V):List SV:=[.int .i64 v.x,.int .i64 v.y]
def mQ(v:V):Com:=⟨1,bP v,cz.s⟩
def bf(s t:S):Int:=aDe (aDd s.b s.a) (aDd t.b t.a)
def hZ(s t:S):Com:=
 if dT (cC s t) (cH s t)=0 then mQ (cC s t)
 else if dT (cC s t) (cH s t)= -1 then⟨3,⟨0,0,0⟩,⟨cC s t,cH s t⟩⟩
 else cz
def mb1(s t:S):Bool:=decide (s.a=s.b)&&onS t s.a
def mb3(s t:S):Bool:=decide (s.a=s.b)||(decide (t.a=t.b)||decide (¬bZ s.a s.b t.a=0))
def ag(s t:S):Com:=
 if(!bQ s)=true then cz
 else if(!bQ t)=true then cz
 else if¬bf s t=0 then bH s t (bf s t)
 else if mb1 s t=true then mQ s.a
 else if mb1 t s=true then mQ t.a
 else if mb3 s t=true then cz
 else hZ s t
noncomputable def Qa:Con:=con (ac aS (a1 aS)) (λ(_,_)=>[]) (λ(s,t)=>RZ (ag s t))
def aB7:Qa.Ok aH 172:=bA (a7 Kl) (raw:=au) (λ(s,t)=>[jb 7 36 (mb1 s t),jb 9 51 (mb1 t s),jb 11 66 (mb3 s t),jP 12 [ag s t=hZ s t],lU 14 3,jO 18 [(34,.box 254 (v2 (loS s)++v2 (hiS s)++v2 (loS t)++v2 (hiS t)))],jO 21 [(40,.box 53 (v2 (cC s t)))],jO 23 [(41,.box 53 (v2 (cH s t)))]]
  ) (λ(_,_)=>⟨_,rfl⟩) λ(s,t) _=>aw (q:=((!bQ s)=true->0=(ag s t).k/\0=(ag s t).p.x/\0=(ag s t).p.y/\0=(ag s t).p.den/\0=(ag s t).s.a.x/\0=(ag s t).s.a.y/\0=(ag s t).s.b.x/\0=(ag s t).s.b.y)/\
 ((!bQ s)=false->((!bQ t)=true->0=(ag s t).k/\0=(ag s t).p.x/\0=(ag s t).p.y/\0=(ag s t).p.den/\0=(ag s t).s.a.x/\0=(ag s t).s.a.y/\0=(ag s t).s.b.x/\0=(ag s t).s.b.y)/\
  ((!bQ t)=false->bd 1000000000 s.b/\bd 1000000000 s.a/\bd 1000000000 t.b/\bd 1000000000 t.a/\bd 2000000000 (aDd s.b s.a)/\bd 2000000000 (aDd t.b t.a)/\(¬aDe (aDd s.b s.a) (aDd t.b t.a)=0->bQ s=true/\bQ t=true/\aDe (aDd s.b s.a) (aDd t.b t.a)≠0/\(-200000000<=aDe (aDd s.b s.a) (aDd t.b t.a)/\aDe (aDd s.b s.a) (aDd t.b t.a)<=200000000)/\(bH s t (aDe (aDd s.b s.a) (aDd t.b t.a))).k=(ag s t).k/\(bH s t (aDe (aDd s.b s.a) (aDd t.b t.a))).p.x=(ag s t).p.x/\(bH s t (aDe (aDd s.b s.a) (aDd t.b t.a))).p.y=(ag s t).p.y/\(bH s t (aDe (aDd s.b s.a) (aDd t.b t.a))).p.den=(ag s t).p.den/\(bH s t (aDe (aDd s.b s.a) (aDd t.b t.a))).s.a.x=(ag s t).s.a.x/\(bH s t (aDe (aDd s.b s.a) (aDd t.b t.a))).s.a.y=(ag s t).s.a.y/\(bH s t (aDe (aDd s.b s.a) (aDd t.b t.a))).s.b.x=(ag s t).s.b.x/\(bH s t (aDe (aDd s.b s.a) (aDd t.b t.a))).s.b.y=(ag s t).s.b.y)/\
   (¬(¬aDe (aDd s.b s.a) (aDd t.b t.a)=0)->(((s.a=s.b->onS t s.a=mb1 s t)/\
      (¬s.a=s.b->false=mb1 s t))/\
     (∀y:Unit,(mb1 s t=true->1=(ag s t).k/\s.a.x=(ag s t).p.x/\s.a.y=(ag s t).p.y/\1=(ag s t).p.den/\0=(ag s t).s.a.x/\0=(ag s t).s.a.y/\0=(ag s t).s.b.x/\0=(ag s t).s.b.y)/\
      (mb1 s t=false->((t.a=t.b->onS s t.a=mb1 t s)/\
        (¬t.a=t.b->false=mb1 t s))/\
       (∀y_1:Unit,(mb1 t s=true->1=(ag s t).k/\t.a.x=(ag s t).p.x/\t.a.y=(ag s t).p.y/\1=(ag s t).p.den/\0=(ag s t).s.a.x/\0=(ag s t).s.a.y/\0=(ag s t).s.b.x/\0=(ag s t).s.b.y)/\
        (mb1 t s=false->((s.a=s.b->true=mb3 s t)/\
          (¬s.a=s.b->(t.a=t.b->true=mb3 s t)/\
           (¬t.a=t.b->bd 1000000000 s.a/\bd 1000000000 s.b/\bd 1000000000 t.a/\decide (¬bZ s.a s.b t.a=0)=mb3 s t)))/\
         (∀y_2:Unit,(mb3 s t=true->0=(ag s t).k/\0=(ag s t).p.x/\0=(ag s t).p.y/\0=(ag s t).p.den/\0=(ag s t).s.a.x/\0=(ag s t).s.a.y/\0=(ag s t).s.b.x/\0=(ag s t).s.b.y)/\
          (mb3 s t=false->ag s t=hZ s t)))))))/\
    (∀y:Unit,ag s t=hZ s t->(((0:Int)<4->aG (0+1)/\ix (0+1) 4/\ix 0 4/\(bV s.b s.a=true->aG (0+1)/\aG (0+1)/\ix (0+1) 4/\ix 0 4/\ix 0 4/\ix (0+1) 4/\aG (0+2)/\((0+2:Int)<4->aG (0+2+1)/\ix (0+2+1) 4/\ix (0+2) 4/\(bV t.b t.a=true->aG (0+2+1)/\aG (0+2+1)/\ix (0+2+1) 4/\ix (0+2) 4/\ix (0+2) 4/\ix (0+2+1) 4/\aG (0+2+2)/\((0+2+2:Int)<4->aG (0+2+2+1)/\ix (0+2+2+1) 4/\False)/\
          (¬(0+2+2:Int)<4->s.b.x=(loS s).x/\s.b.y=(loS s).y/\s.a.x=(hiS s).x/\s.a.y=(hiS s).y/\t.b.x=(loS t).x/\t.b.y=(loS t).y/\t.a.x=(hiS t).x/\t.a.y=(hiS t).y))/\
         (bV t.b t.a=false->aG (0+2+2)/\((0+2+2:Int)<4->aG (0+2+2+1)/\ix (0+2+2+1) 4/\False)/\
          (¬(0+2+2:Int)<4->s.b.x=(loS s).x/\s.b.y=(loS s).y/\s.a.x=(hiS s).x/\s.a.y=(hiS s).y/\t.a.x=(loS t).x/\t.a.y=(loS t).y/\t.b.x=(hiS t).x/\t.b.y=(hiS t).y)))/\
        (¬(0+2:Int)<4->s.b.x=(loS s).x/\s.b.y=(loS s).y/\s.a.x=(hiS s).x/\s.a.y=(hiS s).y/\t.a.x=(loS t).x/\t.a.y=(loS t).y/\t.b.x=(hiS t).x/\t.b.y=(hiS t).y))/\
       (bV s.b s.a=false->aG (0+2)/\((0+2:Int)<4->aG (0+2+1)/\ix (0+2+1) 4/\ix (0+2) 4/\(bV t.b t.a=true->aG (0+2+1)/\aG (0+2+1)/\ix (0+2+1) 4/\ix (0+2) 4/\ix (0+2) 4/\ix (0+2+1) 4/\aG (0+2+2)/\((0+2+2:Int)<4->aG (0+2+2+1)/\ix (0+2+2+1) 4/\False)/\
          (¬(0+2+2:Int)<4->s.a.x=(loS s).x/\s.a.y=(loS s).y/\s.b.x=(hiS s).x/\s.b.y=(hiS s).y/\t.b.x=(loS t).x/\t.b.y=(loS t).y/\t.a.x=(hiS t).x/\t.a.y=(hiS t).y))/\
         (bV t.b t.a=false->aG (0+2+2)/\((0+2+2:Int)<4->aG (0+2+2+1)/\ix (0+2+2+1) 4/\False)/\
          (¬(0+2+2:Int)<4->s.a.x=(loS s).x/\s.a.y=(loS s).y/\s.b.x=(hiS s).x/\s.b.y=(hiS s).y/\t.a.x=(loS t).x/\t.a.y=(loS t).y/\t.b.x=(hiS t).x/\t.b.y=(hiS t).y)))/\
        (¬(0+2:Int)<4->s.a.x=(loS s).x/\s.a.y=(loS s).y/\s.b.x=(hiS s).x/\s.b.y=(hiS s).y/\t.a.x=(loS t).x/\t.a.y=(loS t).y/\t.b.x=(hiS t).x/\t.b.y=(hiS t).y)))/\
      (¬(0:Int)<4->s.a.x=(loS s).x/\s.a.y=(loS s).y/\s.b.x=(hiS s).x/\s.b.y=(hiS s).y/\t.a.x=(loS t).x/\t.a.y=(loS t).y/\t.b.x=(hiS t).x/\t.b.y=(hiS t).y))/\
     (∀y_1:Unit,ix 0 4/\ix 1 4/\(ix 2 4/\(bV (loS s) (loS t)=true->ix 2 4/\(loS t).x=(cC s t).x/\(loS t).y=(cC s t).y)/\
       (bV (loS s) (loS t)=false->(loS s).x=(cC s t).x/\(loS s).y=(cC s t).y))/\
      (∀y_2:Unit,(ix 3 4/\(bV (hiS t) (hiS s)=true->ix 3 4/\(hiS t).x=(cH s t).x/\(hiS t).y=(cH s t).y)/\
        (bV (hiS t) (hiS s)=false->(hiS s).x=(cH s t).x/\(hiS s).y=(cH s t).y))/\
       (∀y_3:Unit,(dT (cC s t) (cH s t)=0->1=(ag s t).k/\(cC s t).x=(ag s t).p.x/\(cC s t).y=(ag s t).p.y/\1=(ag s t).p.den/\0=(ag s t).s.a.x/\0=(ag s t).s.a.y/\0=(ag s t).s.b.x/\0=(ag s t).s.b.y)/\
        (¬dT (cC s t) (cH s t)=0->(dT (cC s t) (cH s t)= -1->3=(ag s t).k/\0=(ag s t).p.x/\0=(ag s t).p.y/\0=(ag s t).p.den/\(cC s t).x=(ag s t).s.a.x/\(cC s t).y=(ag s t).s.a.y/\(cH s t).x=(ag s t).s.b.x/\(cH s t).y=(ag s t).s.b.y)/\
         (¬dT (cC s t) (cH s t)= -1->0=(ag s t).k/\0=(ag s t).p.x/\0=(ag s t).p.y/\0=(ag s t).p.den/\0=(ag s t).s.a.x/\0=(ag s t).s.a.y/\0=(ag s t).s.b.x/\0=(ag s t).s.b.y)))))))))) (by kernel_rfl) (by
  have gB:(!bQ s)=false->(!bQ t)=false-> -200000000<=bf s t/\bf s t<=200000000:=λh1 h2=>by have bs:bd 4000 s.a/\bd 4000 s.b:=kP h1;have bt:bd 4000 t.a/\bd 4000 t.b:=kP h2;have c1:=qV (jp bs.2 bs.1) (jp bt.2 bt.1);unfold bf aDe;omega
  have gM:∀{r:S} {M:Int},8000<=M->(!bQ r)=false->bd M r.a/\bd M r.b/\bd M (aDd r.b r.a):=λhM h=>by have b:=kP h (M:=4000);have c:=jp b.2 b.1;unfold bd at*;omega
  have e1:(!bQ s)=true->ag s t=cz:=λh=>if_pos h;have e2:(!bQ t)=true->ag s t=cz:=λh=>by unfold ag;grind
  have e3:(!bQ s)=false->(!bQ t)=false->¬bf s t=0->ag s t=bH s t (bf s t):=λh1 h2 h3=>by unfold ag;grind
  have e4:(!bQ s)=false->(!bQ t)=false->¬¬bf s t=0->mb1 s t=true->ag s t=mQ s.a:=λh1 h2 h3 h4=>by unfold ag;grind
  have e5:(!bQ s)=false->(!bQ t)=false->¬¬bf s t=0->mb1 s t=false->mb1 t s=true->ag s t=mQ t.a:=λh1 h2 h3 h4 h5=>by unfold ag;grind
  have e6:(!bQ s)=false->(!bQ t)=false->¬¬bf s t=0->mb1 s t=false->mb1 t s=false->mb3 s t=true->ag s t=cz:=λh1 h2 h3 h4 h5 h6=>by unfold ag;grind
  have e7:(!bQ s)=false->(!bQ t)=false->¬¬bf s t=0->mb1 s t=false->mb1 t s=false->mb3 s t=false->ag s t=hZ s t:=λh1 h2 h3 h4 h5 h6=>by unfold ag;grind
  have e8:ag s t=hZ s t->dT (cC s t) (cH s t)=0->ag s t=mQ (cC s t):=λh h1=>by rw[h];exact if_pos h1
  have e9:ag s t=hZ s t->¬dT (cC s t) (cH s t)=0->dT (cC s t) (cH s t)= -1->ag s t=⟨3,⟨0,0,0⟩,⟨cC s t,cH s t⟩⟩:=λh h1 h2=>by rw[h];unfold hZ;grind
  have e10:ag s t=hZ s t->¬dT (cC s t) (cH s t)=0->¬dT (cC s t) (cH s t)= -1->ag s t=cz:=λh h1 h2=>by rw[h];unfold hZ;grind
  have q1:s.a=s.b->true=mb3 s t:=λh=>by unfold mb3;grind
  have q2:t.a=t.b->true=mb3 s t:=λh=>by unfold mb3;grind
  have q3:¬s.a=s.b->¬t.a=t.b->decide (¬bZ s.a s.b t.a=0)=mb3 s t:=λh1 h2=>by unfold mb3;grind
  have q4:∀{s t:S},s.a=s.b->onS t s.a=mb1 s t:=λh=>by unfold mb1;grind
  have q5:∀{s t:S},¬s.a=s.b->false=mb1 s t:=λh=>by unfold mb1;grind
  have w1:∀{r:S},bV r.b r.a=true->r.b=loS r/\r.a=hiS r:=λh=>by unfold loS hiS;grind
  have w2:∀{r:S},bV r.b r.a=false->r.a=loS r/\r.b=hiS r:=λh=>by unfold loS hiS;grind
  have w3:bV (loS s) (loS t)=true->loS t=cC s t:=λh=>by unfold cC;rw[h];rfl
  have w4:bV (loS s) (loS t)=false->loS s=cC s t:=λh=>by unfold cC;rw[h];rfl
  have w5:bV (hiS t) (hiS s)=true->hiS t=cH s t:=λh=>by unfold cH;rw[h];rfl
  have w6:bV (hiS t) (hiS s)=false->hiS s=cH s t:=λh=>by unfold cH;rw[h];rfl
  with_reducible ((repeat' first|apply c6|intro);all_goals repeat cases‹_/\_›)
  all_goals first|assumption|rfl|(unfold ix;omega)|(unfold aG;omega)|omega|exact nb ‹_› |exact q1 ‹_› |exact q2 ‹_› |exact q3 ‹_› ‹_› |exact q4 ‹_› |exact q5 ‹_› |(rw[e1 ‹_›] <;>rfl)|(rw[e2 ‹_›] <;>rfl)|(rw[e3 ‹_› ‹_› ‹_›] <;>rfl)|(rw[e4 ‹_› ‹_› ‹_› ‹_›] <;>rfl)|(rw[e5 ‹_› ‹_› ‹_› ‹_› ‹_›] <;>rfl)|(rw[e6 ‹_› ‹_› ‹_› ‹_› ‹_› ‹_›] <;>rfl)|exact e7 ‹_› ‹_› ‹_› ‹_› ‹_› ‹_› |(rw[e8 ‹_› ‹_›] <;>rfl)|(rw[e9 ‹_› ‹_› ‹_›] <;>rfl)|(rw[e10 ‹_› ‹_› ‹_›] <;>rfl)|exact(gB ‹_› ‹_›).1|exact(gB ‹_› ‹_›).2|exact(gM (by decide) ‹_›).1|exact(gM (by decide) ‹_›).2.1|exact(gM (by decide) ‹_›).2.2|(rw[<-(w1 ‹_›).1];done)|(rw[<-(w1 ‹_›).2];done)|(rw[<-(w2 ‹_›).1];done)|(rw[<-(w2 ‹_›).2];done)|(rw[w3 ‹_›];done)|(rw[w4 ‹_›];done)|(rw[w5 ‹_›];done)|(rw[w6 ‹_›];done))
noncomputable def OW:Tab:=ap [(172,Qa)] ON
def Kx:OW.Ok aH:=aq Kl ⟨aB7,trivial⟩
def Wk(s t:S)(d:Int):(bH s t d).k=gk s t d:=by
 unfold bH;split
 .rename_i h;rw[h];rfl
 .rfl
def YE(s t:S):(ag s t).k=dU s t:=by
 have hc:(cz).k=0:=rfl;have h1:∀v,(mQ v).k=1:=λ_=>rfl;have e1:mb1 s t=true↔s.a=s.b/\onS t s.a=true:=by unfold mb1;simp
 have e2:mb1 t s=true↔t.a=t.b/\onS s t.a=true:=by unfold mb1;simp
 have e3:mb3 s t=true↔s.a=s.b\/t.a=t.b\/bZ s.a s.b t.a≠0:=by unfold mb3;simp
 unfold ag dU hZ;rw[<-bf];simp only[<-e1,<-e2,<-e3];cases bQ s<;>cases bQ t<;>simp only[yH,Bool.not_false,Bool.and_true,Bool.and_false,if_true,oI,if_false,hc,ne_eq]
 repeat' split
 all_goals first|rfl|exact Wk _ _ _
noncomputable def Qu:Con:=con (ac aS (a1 aS)) (λ(_,_)=>[]) (λ(s,t)=> .int .i64 (dU s t)
 )
def aCs:Qu.Ok aH 222:=bA (a7 Kx) (raw:=au) (λ(_,_)=>[]) (λ(_,_)=>⟨_,rfl⟩) λ(s,t) _=>aw (q:=(ag s t).k=dU s t) (by kernel_rfl) (by exact YE s t)
noncomputable def Cb:Tab:=ap [(222,Qu)] OW
def xG:Cb.Ok aH:=aq Kx ⟨aCs,trivial⟩
noncomputable def Qx:Con:=con (ac (aL .V) (a1 aN)) (λ(r,i)=>[i<r.length,r.length<=1000000]) (λ(r,i)=>aV.enc (prv r i)
 )
def aCv:Qx.Ok aH 219:=bA (a7 xG) (raw:=au) (λ(_,_)=>[]) (λ(_,_)=>⟨_,rfl⟩) λ(r,i) hp=>aw (q:=aG ((i:Int)+r.length)/\aG ((i:Int)+r.length-1)/\(r.length:Int)≠0/\ix (dr ((i:Int)+r.length-1) (r.length:Int)) r.length/\(aDa r (dr ((i:Int)+r.length-1) (r.length:Int)).toNat).x=(prv r i).x/\(aDa r (dr ((i:Int)+r.length-1) (r.length:Int)).toNat).y=(prv r i).y) (by kernel_rfl) (by
 change i<r.length/\r.length<=1000000 at hp;have h:dr ((i:Int)+r.length-1) (r.length:Int)=(((i+r.length-1) % r.length:Nat):Int):=by rw[show(i:Int)+r.length-1=((i+r.length-1:Nat):Int) by omega,<-Int.ofNat_tmod]
 rw[h];exact⟨cl (by omega),cl (by omega),by omega,fK (by omega),rfl,rfl⟩)
noncomputable def Oy:Tab:=ap [(219,Qx)] Cb
def LW:Oy.Ok aH:=aq xG ⟨aCv,trivial⟩
noncomputable def Qw:Con:=con (ac (aL .V) (a1 aN)) (λ(r,i)=>[i<r.length,r.length<=1000000]) (λ(r,i)=>aV.enc (nxt r i)
 )
def aCu:Qw.Ok aH 220:=bA (a7 LW) (raw:=au) (λ(_,_)=>[]) (λ(_,_)=>⟨_,rfl⟩) λ(r,i) hp=>aw (q:=aG ((i:Int)+1)/\(r.length:Int)≠0/\ix (((i+1) % r.length:Nat):Int) r.length/\(aDa r ((i+1) % r.length)).x=(nxt r i).x/\(aDa r ((i+1) % r.length)).y=(nxt r i).y) (by kernel_rfl) (by change i<r.length/\r.length<=1000000 at hp;exact⟨cl (by omega),by omega,fK (by omega),rfl,rfl⟩)
noncomputable def Ox:Tab:=ap [(220,Qw)] Oy
def LU:Ox.Ok aH:=aq LW ⟨aCu,trivial⟩
noncomputable def Qv:Con:=Pu (a1 (aL .V)) (λr=>[r.length<=1000]) 57 .S (λr=>aR r) (λ_=>[])
def aCt:Qv.Ok aH 221:=Yd (a7 LU) (raw:=au) (λr=>[lp 5 11 r.length (λ_=>[]) [21] (λk=>[(3,.own 21 .S k)]) (λk=>[(21,.row 57 .S ((aR r).take k))])]
  ) (λ_=>⟨[],rfl⟩) λr hp=>aw (q:=((r.length:Int)<2->aR r=([] :List S))/\
 (¬(r.length:Int)<2->(0=(0:Int)/\(0:Nat)=0/\ai 0 (aR r)=([] :List S)/\(0:Nat)<=r.length)/\
  (∀x:Nat,x<=r.length->((x:Int)<r.length->ix (x:Int) r.length/\x<r.length/\r.length<=1000000/\x=(ai x (aR r)).length/\(ai x (aR r)).length+[(⟨(aDa r x),(nxt r x)⟩:S)].length<=1000000/\aG ((x:Int)+1)/\(x:Int)+1=((x+1:Nat):Int)/\(ai x (aR r)++[(⟨(aDa r x),(nxt r x)⟩:S)]).length=x+1/\ai x (aR r)++[(⟨(aDa r x),(nxt r x)⟩:S)] =ai (x+1) (aR r)/\x+1<=r.length/\r.length-(x+1)<r.length-x)/\
   (¬(x:Int)<r.length->ai x (aR r)=aR r/\x=(ai x (aR r)).length)))) (by kernel_rfl) (by
  change r.length<=1000 at hp;have e0:(r.length:Int)<2->aR r=[] :=λh=>by unfold aR;grind
  have e1:¬(r.length:Int)<2->(aR r).length=r.length:=λh=>sK r (by omega);have e2:¬(r.length:Int)<2->∀x:Nat,(x:Int)<r.length->ai x (aR r)++[⟨aDa r x,nxt r x⟩] =ai (x+1) (aR r):=λh x hx=>by
   have hx':x<(aR r).length:=by rw[e1 h];omega
   rw[List.take_succ_eq_append_getElem hx',<-l6 hx',sP (by omega) (by omega)];rfl
  have e3:¬(r.length:Int)<2->∀x:Nat,x<=r.length->(ai x (aR r)).length=x:=λh x hx=>by grind
  have e4:¬(r.length:Int)<2->∀x:Nat,¬(x:Int)<r.length->ai x (aR r)=aR r:=λh x hx=>ir (by omega)
  with_reducible ((repeat' first|apply c6|intro);all_goals repeat cases‹_/\_›)
  all_goals grind)
noncomputable def Ow:Tab:=ap [(221,Qv)] Ox
def LS:Ow.Ok aH:=aq LU ⟨aCt,trivial⟩
noncomputable def Qy:Con:=con (a1 (aL .V)) (λr=>[near r=true,r.length<=100000]) (λr=> .int .i64 (gP r))
def aCw:Qy.Ok aH 218:=bA (a7 LS) (raw:=au) (λr=>[lp 3 8 r.length (λ_=>[]) [] (λk=>[(3,.int .i64 (ar r k))]) (λ_=>[])]
  ) (λ_=>⟨_,rfl⟩) λr hp=>aw (q:=(0=(0:Int)/\0=ar r 0/\(0:Nat)<=r.length)/\
 (∀x:Nat,x<=r.length->((x:Int)<r.length->ix (x:Int) r.length/\x<r.length/\r.length<=1000000/\bd 2000000000 (aDa r x)/\bd 2000000000 (nxt r x)/\aG (ar r x+aDe (aDa r x) (nxt r x))/\aG ((x:Int)+1)/\(x:Int)+1=((x+1:Nat):Int)/\ar r x+aDe (aDa r x) (nxt r x)=ar r (x+1)/\x+1<=r.length/\r.length-(x+1)<r.length-x)/\
  (¬(x:Int)<r.length->ar r x=gP r))) (by kernel_rfl) (by
  change near r=true/\r.length<=100000 at hp;have hn:=λi hi=> @nW r hp.1 i hi 2000000000;have ha:=λk (hk:k<=r.length)=>CV hp.1 k hk;have hs:=BE r;have hE:∀x:Nat,¬(x:Int)<r.length->x<=r.length->ar r x=gP r:=λx h1 h2=>by rw[show x=r.length by omega];rfl
  have hI:∀x:Nat,(x:Int)<r.length->aG (ar r x+aDe (aDa r x) (nxt r x)):=λx h=>by have h1:=ha (x+1) (by omega);rw[hs x]at h1;exact cl (by unfold nxt;omega)
  with_reducible ((repeat' first|apply c6|intro);all_goals repeat cases‹_/\_›)
  all_goals first|rfl|with_reducible solve_by_elim|exact hn _ (by omega) (by decide)|exact hn _ (eO _ (by omega)) (by decide)|exact(hs _).symm|grind)
noncomputable def Oz:Tab:=ap [(218,Qy)] Ow
def LX:Oz.Ok aH:=aq LS ⟨aCw,trivial⟩
noncomputable def Qb:Con:=con (a1 aV) (λ_=>[]) (λv=> .bool (!bR v 2000)
 )
def aB8:Qb.Ok aH 251:=bA (a7 LX) (raw:=au) (λ_=>[]) (λ_=>⟨_,rfl⟩) λv _=>aw (q:=(0:Int)<=2000/\(2000:Int)<=9000000000000000000/\(!bR v 2000)=(!bR v 2000)) (by kernel_rfl) (by grind)
noncomputable def OX:Tab:=ap [(251,Qb)] Oz
def Ky:OX.Ok aH:=aq LX ⟨aB8,trivial⟩
def aF(f:Nat):Ar Unit where
 enc _:= .fnp f [] []
 dec s:=match s with
  | .fnp g [] [] =>(match ae g f with|true=>some ()|false=>none)
  |_=>none
 ok s a h:=by
  split at h
  .split at h<;>cases h;simp_all
  .cases h
 pl _:=⟨_,rfl⟩
def fI{α:Type}(q:α->Bool)(l:List α):Int:=match l.findIdx? q with
 |some i=>(i:Int)
 |none=> -1
def kT{t:LT}{l:List t.ty}{q:t.ty->Bool}{k:Nat}(hk:k<l.length)(h:q (t.nth l k)=true)(hu:af (λj=>q (t.nth l j)=false) k):(k:Int)=fI q l:=by
 have e:l.findIdx? q=some k:=by rw[List.findIdx?_eq_some_iff_getElem];refine⟨hk,by rw[<-t.nth_eq l hk];exact h,λj hj=> ?_⟩;have:=hu j hj;dsimp only at this;rw[t.nth_eq l (by omega)]at this;rw[this];simp
 unfold fI;rw[e]
def lH{t:LT}{l:List t.ty}{q:t.ty->Bool}(hu:af (λj=>q (t.nth l j)=false) l.length): -1=fI q l:=by
 have e:l.findIdx? q=none:=by rw[List.findIdx?_eq_none_iff];intro x hx;obtain⟨j,hj,rfl⟩:=iK hx;have:=hu j hj;dsimp only at this;rwa[t.nth_eq l hj]at this
 unfold fI;rw[e]
def qw{α:Type}(q:α->Bool)(l:List α):decide (0<=fI q l)=l.any q:=by unfold fI;grind
noncomputable def QT:Con:=con (ac (aL .V) (a1 (aF 251))) (λ(l,_)=>[l.length<=1000000]) (λ(l,_)=> .int .i64 (fI (λv=> !bR v 2000) l))
def aB0:QT.Ok aH 275:=bA (a7 Ky) (raw:=au) (λ(l,_)=>[cnt 2 8 l.length (af λj=>(!bR (aDa l j) 2000)=false)]
  ) (λ(_,_)=>⟨_,rfl⟩) λ(l,u) hp=>aw (q:=(0=(0:Int)/\(0:Nat)<=l.length/\af (λj=>(!bR (aDa l j) 2000)=false) 0)/\
 (∀x:Nat,x<=l.length/\af (λj=>(!bR (aDa l j) 2000)=false) x->((x:Int)<l.length->ix (x:Int) l.length/\((!bR (aDa l x) 2000)=true->(x:Int)=fI (λv=>(!bR v 2000)) l)/\
   ((!bR (aDa l x) 2000)=false->aG ((x:Int)+1)/\(x:Int)+1=((x+1:Nat):Int)/\x+1<=l.length/\af (λj=>(!bR (aDa l j) 2000)=false) (x+1)/\l.length-(x+1)<l.length-x))/\
  (¬(x:Int)<l.length-> -1=fI (λv=>(!bR v 2000)) l))) (by kernel_rfl) (by
  change l.length<=1000000 at hp
  with_reducible ((repeat' first|apply c6|intro);all_goals repeat cases‹_/\_›)
  all_goals first|rfl|exact kT (t:= .V) (by omega) ‹_› ‹_› |(obtain rfl:_=l.length:=oW ‹_› (by omega);exact lH (t:= .V) ‹_›)|grind)
noncomputable def OP:Tab:=ap [(275,QT)] OX
def Ko:OP.Ok aH:=aq Ky ⟨aB0,trivial⟩
noncomputable def Qc:Con:=con (ac (aL .V) (a1 (aF 251))) (λ(l,_)=>[l.length<=1000000]) (λ(l,_)=> .bool (l.any λv=> !bR v 2000)
 )
def aB9:Qc.Ok aH 250:=bA (a7 Ko) (raw:=au) (λ(_,_)=>[]) (λ(_,_)=>⟨_,rfl⟩) λ(l,u) hp=>aw (q:=l.length<=1000000/\decide (0<=fI (λv=>(!bR v 2000)) l)=iu l (λv=>(!bR v 2000))) (by kernel_rfl) (by change l.length<=1000000 at hp;exact⟨hp,qw _ _⟩)
noncomputable def OY:Tab:=ap [(250,Qc)] OP
def Kz:OY.Ok aH:=aq Ko ⟨aB9,trivial⟩
noncomputable def Qz:Con:=con (a1 (aL .V)) (λl=>[l.length<=1000000]) (λl=> .bool (near l)
 )
def aCx:Qz.Ok aH 217:=bA (a7 Kz) (raw:=au) (λ_=>[]) (λ_=>⟨_,rfl⟩) λl hp=>aw (q:=l.length<=1000000/\(!iu l (λv=>(!bR v 2000)))=near l) (by kernel_rfl) (by change l.length<=1000000 at hp;refine⟨hp,?_⟩;unfold near;grind)
noncomputable def O0:Tab:=ap [(217,Qz)] OY
def LY:O0.Ok aH:=aq Kz ⟨aCx,trivial⟩
def tP(r:bE)(i:Nat):Prop:=¬bZ (prv r i) (aDa r i) (nxt r i)=0
def fC(r:bE)(i k:Nat):Bool:=(decide (¬(k:Int)=i+1)&&(decide (¬(i:Int)=0)||decide (¬(k:Int)=r.length-1)))&&decide (¬dU (c8 r i) (c8 r k)=0)
def up2{p:Nat->Nat->Prop}{i k n:Nat}(h:∀j,i<j->j<k->p i j)(hk:¬(k:Int)<n):∀j,i<j->j<n->p i j:=λj h1 h2=>h j h1 (by omega)
def D4(r:bE):dF r=true↔3<=r.length/\r.length<=40/\near r=true/\0<gP r/\(∀i,i<r.length->tP r i)/\(∀i k,i<k->k<r.length->fC r i k=false):=by unfold dF tP fC;simp only[cD,decide_eq_true_eq,dm,dY,jI,bne_iff_ne,beq_iff_eq,Bool.and_eq_false_imp,decide_eq_false_iff_not,ne_eq,and_assoc,mr];grind
noncomputable def c83:Con:=con (a1 (aL .V)) (λr=>[r.length<=1000]) (λr=> .bool (dF r))
def k83:c83.Ok aH 160:=bA (a7 LY) (raw:=au) (λr=>[jP 4 [3<=r.length,r.length<=40,near r=true,0<gP r],cnt 5 29 r.length (af (tP r)),lp 12 47 r.length (λi=>[af (λi=>∀k,i<k->k<r.length->fC r i k=false) i]) [] (λ_=>[]) (λ_=>[]) λi=>[(15,.mk Nat (λF _=>np F 8) [] (λk=>[i<k,k<=r.length,∀j,i<j->j<k->fC r i j=false]) (λk=>[(8,.int .i64 (k:Int))]) (λ_=>[]) (λk=>r.length-k) λk=>[jb 18 82 (fC r i k)])]]
  ) (λ_=>⟨_,rfl⟩) λr hp=>aw (q:=(((r.length:Int)<3->false=dF r)/\
  (¬(r.length:Int)<3->(40<(r.length:Int)->false=dF r)/\
   (¬40<(r.length:Int)->r.length<=1000000/\((!near r)=true->false=dF r)/\
    ((!near r)=false->near r=true/\r.length<=100000/\(gP r<=0->false=dF r)/\
     (¬gP r<=0->(3:Nat)<=r.length/\r.length<=40/\near r=true/\0<gP r)))))/\
 (∀y:Unit,(3:Nat)<=r.length/\r.length<=40/\near r=true/\0<gP r->(0=(0:Int)/\(0:Nat)<=r.length/\af (tP r) 0)/\
  (∀x:Nat,x<=r.length/\af (tP r) x->((x:Int)<r.length->ix (x:Int) r.length/\x<r.length/\r.length<=1000000/\x<r.length/\r.length<=1000000/\bd 1000000000 (prv r x)/\bd 1000000000 (aDa r x)/\bd 1000000000 (nxt r x)/\(bZ (prv r x) (aDa r x) (nxt r x)=0->false=dF r)/\
    (¬bZ (prv r x) (aDa r x) (nxt r x)=0->aG ((x:Int)+1)/\(x:Int)+1=((x+1:Nat):Int)/\x+1<=r.length/\af (tP r) (x+1)/\r.length-(x+1)<r.length-x))/\
   (¬(x:Int)<r.length->r.length<=1000/\(0=(0:Int)/\(0:Nat)<=r.length/\af (λi=>∀k:Nat,i<k->k<r.length->fC r i k=false) 0)/\
    (∀x_1:Nat,x_1<=r.length/\af (λi=>∀k:Nat,i<k->k<r.length->fC r i k=false) x_1->((x_1:Int)<r.length->aG ((x_1:Int)+1)/\((x_1:Int)+1=((x_1+1:Nat):Int)/\x_1<x_1+1/\x_1+1<=r.length/\(∀j:Nat,x_1<j->j<x_1+1->fC r x_1 j=false))/\
      (∀x_2:Nat,x_1<x_2/\x_2<=r.length/\(∀j:Nat,x_1<j->j<x_2->fC r x_1 j=false)->((x_2:Int)<r.length->(aG ((x_1:Int)+1)/\(¬(x_2:Int)=x_1+1->(¬(x_1:Int)=0->ix (x_1:Int) (aR r).length/\x_1<(aR r).length/\ix (x_2:Int) (aR r).length/\x_2<(aR r).length/\decide (¬dU (aK (aR r) x_1) (aK (aR r) x_2)=0)=fC r x_1 x_2)/\
          (¬(¬(x_1:Int)=0)->aG ((r.length:Int)-1)/\(¬(x_2:Int)=r.length-1->ix (x_1:Int) (aR r).length/\x_1<(aR r).length/\ix (x_2:Int) (aR r).length/\x_2<(aR r).length/\decide (¬dU (aK (aR r) x_1) (aK (aR r) x_2)=0)=fC r x_1 x_2)/\
           (¬(¬(x_2:Int)=r.length-1)->false=fC r x_1 x_2)))/\
         (¬(¬(x_2:Int)=x_1+1)->false=fC r x_1 x_2))/\
        (∀y_1:Unit,(fC r x_1 x_2=true->false=dF r)/\
         (fC r x_1 x_2=false->aG ((x_2:Int)+1)/\(x_2:Int)+1=((x_2+1:Nat):Int)/\x_1<x_2+1/\x_2+1<=r.length/\(∀j:Nat,x_1<j->j<x_2+1->fC r x_1 j=false)/\r.length-(x_2+1)<r.length-x_2)))/\
       (¬(x_2:Int)<r.length->aG ((x_1:Int)+1)/\(x_1:Int)+1=((x_1+1:Nat):Int)/\x_1+1<=r.length/\af (λi=>∀k:Nat,i<k->k<r.length->fC r i k=false) (x_1+1)/\r.length-(x_1+1)<r.length-x_1)))/\
     (¬(x_1:Int)<r.length->true=dF r)))))) (by kernel_rfl) (by
  change r.length<=1000 at hp;have iff:=D4 r;have hf:(dF r=true->False)->false=dF r:=λh=>by grind
  have el:3<=r.length->(aR r).length=r.length:=λh=>sK r (by omega);have en:near r=true->∀i,i<r.length->bd 1000000000 (aDa r i):=λh i hi=>nW h hi;have ep:3<=r.length->∀i,i<r.length->aK (aR r) i=c8 r i:=λh i hi=>sP (by omega) hi;have hE:3<=r.length->r.length<=40->near r=true->0<gP r->∀x y:Nat,¬(x:Int)<r.length->¬(y:Int)<r.length->af (tP r) x->af (λi=>∀k:Nat,i<k->k<r.length->fC r i k=false) y->true=dF r:=λh1 h2 h3 h4 x y hx hy h5 h6=>
   (iff.2 ⟨h1,h2,h3,h4,λi hi=>h5 i (by omega),λi k hi hk=>h6 i (by omega) k hi hk⟩).symm
  have b0:∀x y:Nat,¬(¬(y:Int)=x+1)->false=fC r x y:=λx y h=>by unfold fC;grind
  have b1:∀x y:Nat,¬(¬(x:Int)=0)->¬(¬(y:Int)=r.length-1)->false=fC r x y:=λx y h1 h2=>by unfold fC;grind
  have b2:∀x y:Nat,3<=r.length->¬(y:Int)=x+1->¬(x:Int)=0->(x:Int)<r.length->(y:Int)<r.length->decide (¬dU (aK (aR r) x) (aK (aR r) y)=0)=fC r x y:=λx y h0 h1 h2 h3 h4=>by unfold fC;grind
  have b3:∀x y:Nat,3<=r.length->¬(y:Int)=x+1->¬(y:Int)=r.length-1->(x:Int)<r.length->(y:Int)<r.length->decide (¬dU (aK (aR r) x) (aK (aR r) y)=0)=fC r x y:=λx y h0 h1 h2 h3 h4=>by unfold fC;grind
  with_reducible ((repeat' first|apply c6|intro);all_goals repeat cases‹_/\_›)
  all_goals first|assumption|rfl|exact trivial|exact nb ‹_› |exact nb' ‹_› |omega|exact fK (by omega)|(unfold ix;omega)|(unfold aG;omega)|exact d8 _|exact b8 ‹_› ‹_› |(refine b8 ‹_› ?_;simp_all;done)|exact en ‹_› _ (by omega)|exact en ‹_› _ (eO _ (by omega))|(rw[el ‹_›];exact uA (by omega))|(rw[el ‹_›];omega)|exact b0 _ _ ‹_› |exact b1 _ _ ‹_› ‹_› |exact b2 _ _ ‹_› ‹_› ‹_› ‹_› ‹_› |exact b3 _ _ ‹_› ‹_› ‹_› ‹_› ‹_› |exact hE ‹_› ‹_› ‹_› ‹_› _ _ ‹_› ‹_› ‹_› ‹_› |(refine hf λh=> ?_;have h:=iff.1 h;first|omega|(have h4:=‹(!near r)=true›;rw[h.2.2.1]at h4;cases h4)|(exact absurd ‹bZ _ _ _=0› (h.2.2.2.2.1 _ (by omega)))|grind)|exact b8 ‹_› (show tP r _ from‹¬bZ _ _ _=0›)|(intro j h1 h2;omega)|exact b8 ‹_› (up2 (p:=λi k=>fC r i k=false) ‹_› ‹_›)|grind)
noncomputable def t83:Tab:=ap [(160,c83)] O0
def NX:t83.Ok aH:=aq LY ⟨k83,trivial⟩
def Ws(n:Nat)(w:World)(h0:0<n)(hn:n<=100000):
  Calls aH 254 #[.slice none 0 0,.int .i64 n] w λe w'=>∃v,e= .returned v/\w'.ownsRow w.heap.size 53 2 v 0 []/\Below w.heap.size w w':=by
 have hinf:(aH.info? 53).map (λi=>(i.zero,i.size,i.bytes))=some (some (.agg #[.int .i64 0,.int .i64 0]),2,16):=by kernel_rfl
 obtain⟨i,hi1,hi2⟩:=Option.map_eq_some_iff.1 hinf;simp only[Prod.mk.injEq]at hi2;obtain⟨i1,i2,i3⟩:=hi2;have hold:(Builtin.firstCells i.size 0 (.slice none 0 0)).run aH w.drew= .ok ([] :List Value).toArray w.drew:=run_firstCells_none w.drew i.size 0 0 0;have hrz:∀ty,(Builtin.append_ #[64,3] ty #[.slice none 0 0,.int .i64 n]).run aH w= .ok (.slice (some ⟨w.heap.size,0,none⟩) n (grownCap w n 0 53))
   (w.drew.alloc (.cells (#[] ++Builtin.zeroCells #[.int .i64 0,.int .i64 0] n++Builtin.zeroCells #[.int .i64 0,.int .i64 0] (grownCap w n 0 53-n)) 53)):=λty=>by
  have h:=Lib.run_append_grow_zeros w 64 3 ty 53 i (.agg #[.int .i64 0,.int .i64 0]) .i64 .i64 Tryz.underlying64 sB hi1 i1 none 0 0 [] hold n h0 (by omega) (by omega) (by omega) (by grind)
   (by unfold Builtin.nextslicecap;grind)
  rw[gc]at h;exact h
 have hGn:n<=grownCap w n 0 53:=grownCap_ge w _ _ _;have hGm:=grownCap_le_maxLen w n 0 53 (by unfold maxLen;omega);obtain⟨G,hG⟩:∃G,G=grownCap w n 0 53:=⟨_,rfl⟩;rw[<-hG]at hrz hGn hGm;have hG63:G<=9223372036854775807:=by unfold maxLen at hGm;omega
 have hzc:∀m,(Builtin.zeroCells #[.int .i64 0,.int .i64 0] m).size=m*2:=by intro m;unfold Builtin.zeroCells;simp
 obtain⟨cur,hcur⟩:∃cur,cur=(#[] ++Builtin.zeroCells #[.int .i64 0,.int .i64 0] n++Builtin.zeroCells #[.int .i64 0,.int .i64 0] (G-n):Array Value):=⟨_,rfl⟩;have hcs:cur.size=G*2:=by rw[hcur];simp[hzc];omega
 rw[<-hcur]at hrz;have hrow:(w.drew.alloc (.cells cur 53)).ownsRow w.heap.size 53 2 (.slice (some ⟨w.heap.size,0,none⟩) 0 G) 0 [] :=
  ⟨by simp,.inr ⟨w.heap.size,G,cur,rfl,az _,Blk.new w.drew 53 cur,by omega,hGm,hcs,by simp⟩⟩
 have hbl:Below w.heap.size w (w.drew.alloc (.cells cur 53)):=((Below.refl _ _).drew).alloc (az _) _;clear hold hinf hi1 i1 i2 i3 hcur hcs hzc hG hGm
 go_enter Tryz.func254,Tryz.ntmps254
 go_wp2_with (at_builtin;refine Lib.wpList_append_run _ rfl _ _ _ _ rfl _ _ rfl rfl _ _ (hrz _) ?_)
 all_goals
  go_ret
  exact⟨_,rfl,hrow,hbl⟩
def Ub{n:Nat}(h0:0<n)(hn:n<=100000):C9 aH 254 [.int .i64 n] 53 2 [] 0 [] :=by
 refine⟨by kernel_rfl,by decide,λC w vs hC h=> ?_⟩;unfold bK at h;obtain⟨v,r,rfl,h1,h2⟩:=h;unfold a8 at h1;unfold bK at h2;subst h1 h2;refine(Ws n w h0 hn).mono ?_;rintro e w' ⟨v,rfl,⟨_,h3⟩,hb⟩;rcases h3 with⟨rfl,_⟩|⟨g,cap,cur,rfl,h4,h5,_,h6,h7,_⟩
 .exact⟨_,[],none,0,rfl,hb,by unfold bK;rfl,.inl ⟨rfl,rfl,rfl,rfl,rfl⟩⟩
 .exact⟨_,[],some g,cap,rfl,hb,by unfold bK;rfl,.inr ⟨g,cur,rfl,rfl,cO _,h4,h5,h7,cO _,h6,λi x hi=>by simp at hi⟩⟩
def Cy:List SV->Option Nat
 |[.nil,.int .i64 (.ofNat n)] =>some n
 |_=>none
def VN{s:List SV}{n:Nat}(h:Cy s=some n):s=[.nil,.int .i64 (n:Int)] :=by
 unfold Cy at h;split at h
 .cases h;rfl
 .cases h
def QW:Con:=⟨Nat,Cy,λn=>[0<n,n<=100000],.ownN 53 .V (λ_=>[])⟩
def aB3:QW.Ok aH 254:=by intro s n hd hp;rw[VN hd];exact⟨[.int .i64 ((show Nat from n:Nat):Int)],rfl,Ub (hp _ eG) (hp _ (dK _ eG))⟩
def aPt:Ar Pt where
 enc p:= .pro [.int .i64 p.x,.int .i64 p.y,.int .i64 p.den] 0
 dec s:=match s with
  | .pro [.int .i64 x,.int .i64 y,.int .i64 z] 0=>some ⟨x,y,z⟩
  |_=>none
 ok s a h:=by grind
 pl _:=⟨_,rfl⟩
def jPU(key:Nat)(I:List Prop)(u:Frm):Nat×Ann:=(key+10000,.mk Unit (λ_ _=>some ()) [] (λ_=>I) (λ_=>u) (λ_=>[]) (λ_=>0) (λ_=>[]))
def ud(p:Pt)(l:List S):Bool:=l.foldl (λb s=>b !=iE s p) false
def Uo{p:Pt}{l:List S}{k:Nat}(h:k<l.length):ud p (l.take (k+1))=(ud p (l.take k) !=iE (aK l k) p):=by unfold ud;rw[qD,dA h,DU,l6 h];rfl
def F6{p:Pt}:∀{l:List S} {k:Nat} (ins:Bool),k<l.length->(∀j,j<k->aDi (aK l j) p=false)->aDi (aK l k) p=true->gE p l ins=1
 |[],k,ins,h,_,_=>by simp at h
 |s::l,0,ins,h,_,h2=>by
  unfold gE;rw[show aDi s p=true from h2];rfl
 |s::l,k+1,ins,h,h1,h2=>by
  unfold gE;rw[show aDi s p=false from h1 0 (by omega)];exact F6 (l:=l) (k:=k) _ (by simpa using h) (λj hj=>h1 (j+1) (by omega)) h2
def FC{p:Pt}:∀{l:List S} (ins:Bool),(∀j,j<l.length->aDi (aK l j) p=false)->gE p l ins=if l.foldl (λb s=>b !=iE s p) ins=true then 2 else 0
 |[],ins,_=>rfl
 |s::l,ins,h1=>by
  unfold gE;rw[show aDi s p=false from h1 0 (by simp)];exact FC (l:=l) _ (λj hj=>h1 (j+1) (by grind))
def pb(r:bE)(p:Pt)(k:Nat):Bool:=ud p ((aR r).take k)
def W2{r:bE}(h:dF r=true){j:Nat}(hj:j<(aR r).length):bd 2000 (aK (aR r) j).a/\bd 2000 (aK (aR r) j).b:=IM (by rw[<-Fk];exact h) hj
def cOK(a b:V):Prop:=(-4000000000000000000<=a.x*b.y/\a.x*b.y<=4000000000000000000)/\(-4000000000000000000<=a.y*b.x/\a.y*b.x<=4000000000000000000)
noncomputable def M5:Con:=con (ac aV (a1 aV)) (λ(a,b)=>[cOK a b]) (λ(a,b)=> .int .i64 (aDe a b)
 )
def aAK:M5.Ok aH 143:=bA (a7 NX) (raw:=au) (λ(_,_)=>[]) (λ(_,_)=>⟨_,rfl⟩) λ(a,b) hp=>aw (q:=aG (a.x*b.y)/\aG (a.y*b.x)/\aG (a.x*b.y-a.y*b.x)/\a.x*b.y-a.y*b.x=aDe a b) (by kernel_rfl) (by change cOK a b at hp;unfold cOK at hp;exact⟨cl (by omega),cl (by omega),cl (by omega),rfl⟩)
noncomputable def L7:Tab:=ap [(143,M5)] t83
def I7:L7.Ok aH:=aq NX ⟨aAK,trivial⟩
noncomputable def Qd:Con:=con (ac aV (a1 aPt)) (λ(v,p)=>[PtB p,bd 10000 v]) (λ(v,p)=>aV.enc (toV p v)
 )
def aCa:Qd.Ok aH 276:=bA (a7 I7) (raw:=au) (λ(_,_)=>[]) (λ(_,_)=>⟨_,rfl⟩) λ(v,p) hp=>aw (q:=aG (v.x*p.den)/\aG (p.x-v.x*p.den)/\aG (v.y*p.den)/\aG (p.y-v.y*p.den)/\p.x-v.x*p.den=(toV p v).x/\p.y-v.y*p.den=(toV p v).y) (by kernel_rfl) (by change PtB p/\bd 10000 v at hp;have h:=hp.1.off hp.2;have h2:(-600000000000<=p.x/\p.x<=600000000000)/\(-600000000000<=p.y/\p.y<=600000000000):=hp.1.2;exact⟨cl (by omega),cl (by omega),cl (by omega),cl (by omega),rfl,rfl⟩)
noncomputable def OZ:Tab:=ap [(276,Qd)] L7
def K8:OZ.Ok aH:=aq I7 ⟨aCa,trivial⟩
noncomputable def Q7:Con:=con (ac (aL .V) (a1 aT)) (λ(r,_)=>[r.length<=1000]) (λ(r,p)=> .int .i64 (gz r p))
def aCF:Q7.Ok aH 253:=bA (a7 K8) (raw:=au) (λ(r,p)=>[jP 3 [dF r=true,dE p=true],lp 6 25 (aR r).length (λk=>[af (λj=>aDi (nE r j) p=false) k]) [] (λk=>[(6,.bool (pb r p k))]) (λ_=>[]) λk=>[jb 11 77 (aDi (nE r k) p),jb 14 91 (iE (nE r k) p),jPU 15 [aDi (nE r k) p=false] [(6,.bool (pb r p (k+1)))]]]
  ) (λ(_,_)=>⟨_,rfl⟩) λ(r,p) hp=>aw (q:=(r.length<=1000/\((!dF r)=true->0=gz r p)/\
  ((!dF r)=false->((!dE p)=true->0=gz r p)/\
   ((!dE p)=false->dF r=true/\dE p=true)))/\
 (∀y:Unit,dF r=true/\dE p=true->r.length<=1000/\(0=(0:Int)/\false=pb r p 0/\(0:Nat)<=(aR r).length/\af (λj=>aDi (nE r j) p=false) 0)/\
  (∀x:Nat,x<=(aR r).length/\af (λj=>aDi (nE r j) p=false) x->((x:Int)<(aR r).length->(ix (x:Int) (aR r).length/\x<(aR r).length/\PtB p/\bd 10000 (nE r x).a/\PtB p/\bd 10000 (nE r x).b/\bd 1000000000 (nE r x).b/\bd 1000000000 (nE r x).a/\cOK (aDd (nE r x).b (nE r x).a) (toV p (nE r x).a)/\((aDe (aDd (nE r x).b (nE r x).a) (toV p (nE r x).a)=0->(Min.min (toV p (nE r x).a).x (toV p (nE r x).b).x<=0->(0<=Max.max (toV p (nE r x).a).x (toV p (nE r x).b).x->(Min.min (toV p (nE r x).a).y (toV p (nE r x).b).y<=0->decide (0<=Max.max (toV p (nE r x).a).y (toV p (nE r x).b).y)=aDi (nE r x) p)/\
         (¬Min.min (toV p (nE r x).a).y (toV p (nE r x).b).y<=0->false=aDi (nE r x) p))/\
        (¬0<=Max.max (toV p (nE r x).a).x (toV p (nE r x).b).x->false=aDi (nE r x) p))/\
       (¬Min.min (toV p (nE r x).a).x (toV p (nE r x).b).x<=0->false=aDi (nE r x) p))/\
      (¬aDe (aDd (nE r x).b (nE r x).a) (toV p (nE r x).a)=0->false=aDi (nE r x) p))/\
     (∀y_1:Unit,(aDi (nE r x) p=true->1=gz r p)/\
      (aDi (nE r x) p=false->(((decide (0<=(toV p (nE r x).a).y) !=decide (0<=(toV p (nE r x).b).y))=true->(decide (0<=(toV p (nE r x).a).y)==decide (0<aDe (aDd (nE r x).b (nE r x).a) (toV p (nE r x).a)))=iE (nE r x) p)/\
        ((decide (0<=(toV p (nE r x).a).y) !=decide (0<=(toV p (nE r x).b).y))=false->false=iE (nE r x) p))/\
       (∀y_2:Unit,(iE (nE r x) p=true->(!pb r p x)=pb r p (x+1)/\aDi (nE r x) p=false)/\
        (iE (nE r x) p=false->pb r p x=pb r p (x+1)/\aDi (nE r x) p=false)))))/\
    (∀y_1:Unit,aDi (nE r x) p=false->aG ((x:Int)+1)/\(x:Int)+1=((x+1:Nat):Int)/\pb r p (x+1)=pb r p (x+1)/\x+1<=(aR r).length/\af (λj=>aDi (nE r j) p=false) (x+1)/\(aR r).length-(x+1)<(aR r).length-x))/\
   (¬(x:Int)<(aR r).length->(pb r p x=true->2=gz r p)/\
    (pb r p x=false->0=gz r p))))) (by kernel_rfl) (by
  change r.length<=1000 at hp;have e0:pb r p 0=false:=rfl;have es:∀k:Nat,(k:Int)<(aR r).length->pb r p (k+1)=(pb r p k !=iE (nE r k) p):=λk h=>Uo (by omega);have hw0:dF r=false\/dE p=false->0=gz r p:=λh=>by unfold gz;grind
  have hw:dF r=true->dE p=true->gz r p=gE p (aR r) false:=λh1 h2=>by unfold gz;simp[h1,h2]
  have eb:dF r=true->∀j:Nat,(j:Int)<(aR r).length->bd 2000 (aK (aR r) j).a/\bd 2000 (aK (aR r) j).b:=λh j hj=>W2 h (by omega);have el:(aR r).length<=1000:=by unfold aR;split<;>simp<;>omega
  have s1:∀j:Nat,(j:Int)<(aR r).length->af (λj=>aDi (nE r j) p=false) j->aDi (nE r j) p=true->gE p (aR r) false=1:=λj h1 h2 h3=>F6 false (by omega) h2 h3;have s2:∀k:Nat,¬(k:Int)<(aR r).length->k<=(aR r).length->af (λj=>aDi (nE r j) p=false) k->gE p (aR r) false=if pb r p k=true then 2 else 0:=λk h1 h2 h=>by
   obtain rfl:k=(aR r).length:=by omega
   rw[FC false h];unfold pb ud;grind
  have gV:dF r=true->dE p=true->∀j:Nat,(j:Int)<(aR r).length->cOK (aDd (aK (aR r) j).b (aK (aR r) j).a) (toV p (aK (aR r) j).a):=λh1 h2 j hj=>by
   have b1:=jp (eb h1 j hj).2 (eb h1 j hj).1;have hB:=PtB.of h2;have b2:=hB.off (eb h1 j hj).1.mono;have h2:(-600000000000<=p.x/\p.x<=600000000000)/\(-600000000000<=p.y/\p.y<=600000000000):=hB.2;have b3:bd 2000000000000 (toV p (aK (aR r) j).a):=by unfold bd toV;dsimp only;omega
   exact⟨by have:=iN b1.1 b3.2;omega,by have:=iN b1.2 b3.1;omega⟩
  have oN:∀j:Nat,(¬fe (nE r j) p=0\/¬Min.min (toV p (nE r j).a).x (toV p (nE r j).b).x<=0\/¬0<=Max.max (toV p (nE r j).a).x (toV p (nE r j).b).x\/¬Min.min (toV p (nE r j).a).y (toV p (nE r j).b).y<=0)->false=aDi (nE r j) p:=λj h=>by symm;unfold aDi;grind
  have oY:∀j:Nat,fe (nE r j) p=0->Min.min (toV p (nE r j).a).x (toV p (nE r j).b).x<=0->0<=Max.max (toV p (nE r j).a).x (toV p (nE r j).b).x->Min.min (toV p (nE r j).a).y (toV p (nE r j).b).y<=0->decide (0<=Max.max (toV p (nE r j).a).y (toV p (nE r j).b).y)=aDi (nE r j) p:=λj h1 h2 h3 h4=>by unfold aDi;grind
  have hN:∀j:Nat,(decide (0<=(toV p (nE r j).a).y) !=decide (0<=(toV p (nE r j).b).y))=false->false=iE (nE r j) p:=λj h=>by unfold iE;rw[h];rfl
  have hY:∀j:Nat,(decide (0<=(toV p (nE r j).a).y) !=decide (0<=(toV p (nE r j).b).y))=true->(decide (0<=(toV p (nE r j).a).y)==decide (0<fe (nE r j) p))=iE (nE r j) p:=λj h=>by unfold iE;rw[h];rfl
  with_reducible ((repeat' first|apply c6|intro);all_goals repeat cases‹_/\_›)
  all_goals first|rfl|with_reducible solve_by_elim|exact PtB.of ‹_› |exact(eb ‹_› _ ‹_›).1.mono|exact(eb ‹_› _ ‹_›).2.mono|exact gV ‹_› ‹_› _ ‹_› |exact oN _ (.inl ‹_›)|exact oN _ (.inr (.inl ‹_›))|exact oN _ (.inr (.inr (.inl ‹_›)))|exact oN _ (.inr (.inr (.inr ‹_›)))|exact hw0 (.inl (nb' ‹_›))|exact hw0 (.inr (nb' ‹_›))|(rw[hw ‹_› ‹_›,s1 _ ‹_› ‹_› ‹_›];done)|(rw[hw ‹_› ‹_›,s2 _ ‹_› ‹_› ‹_›,‹pb _ _ _=_›];rfl)|(rw[es _ ‹_›,‹iE _ _=_›];simp;done)|grind)
noncomputable def O8:Tab:=ap [(253,Q7)] OZ
def Lg:O8.Ok aH:=aq K8 ⟨aCF,trivial⟩
noncomputable def c65:Con:=con (ac (aL .V) (a1 aV)) (λ(r,_)=>[r.length<=1000]) (λ(r,v)=> .int .i64 (eV r v)
 )
def k65:c65.Ok aH 225:=bA (a7 Lg) (raw:=au) (λ(_,_)=>[]) (λ(_,_)=>⟨_,rfl⟩) λ(r,v) hp=>aw (q:=(0:Int)<=4000/\(4000:Int)<=9000000000000000000/\((!bR v 4000)=true->0=eV r v)/\
 ((!bR v 4000)=false->r.length<=1000/\gz r (bP v)=eV r v)) (by kernel_rfl) (by change r.length<=1000 at hp;have e:eV r v=if(!bR v 4000)=true then 0 else gz r (bP v):=rfl;grind)
noncomputable def t65:Tab:=ap [(225,c65)] O8
def aBi:t65.Ok aH:=aq Lg ⟨k65,trivial⟩
noncomputable def t89:Tab:=t65
def aBb:t89.Ok aH:=aBi
noncomputable def OS:Tab:=ap [(254,QW)] t89
def Ks:OS.Ok aH:=aq aBb ⟨aB3,trivial⟩
noncomputable def Qg:Con:=con (a1 (aL .R)) (λl=>[l.length<=1000,0<l.flatten.length,l.flatten.length<=1000]) (λl=> .lst .V l.flatten)
def aCd:Qg.Ok aH 228:=bA (a7 Ks) (raw:=λr i=>ae r 1&&ae i 0) (λl=>[lp 3 11 l.length (λ_=>[]) [] (λk=>[(3,.int .i64 (((l.take k).flatten.length:Nat):Int))]) (λ_=>[]),lp 11 27 l.length (λ_=>[]) [7] (λk=>[(6,.own 7 .V ((l.take k).flatten.length))]) (λk=>[(7,.row 53 .V ((l.take k).flatten))])]
  ) (λ_=>⟨_,rfl⟩) λl hp=>aw (q:=(0=(0:Int)/\0=((fG (ai 0 l)).length:Int)/\(0:Nat)<=l.length)/\
 (∀x:Nat,x<=l.length->((x:Int)<l.length->ix (x:Int) l.length/\aG (((fG (ai x l)).length:Int)+(aZ l x).length)/\(((fG (ai x l)).length:Int)+(aZ l x).length<0->False)/\
   (¬((fG (ai x l)).length:Int)+(aZ l x).length<0->aG ((x:Int)+1)/\(x:Int)+1=((x+1:Nat):Int)/\((fG (ai x l)).length:Int)+(aZ l x).length=(fG (ai (x+1) l)).length/\x+1<=l.length/\l.length-(x+1)<l.length-x))/\
  (¬(x:Int)<l.length->(0:Nat)<(fG (ai x l)).length/\(fG (ai x l)).length<=100000/\(0=(0:Int)/\([] :List V).length=(fG (ai 0 l)).length/\([] :List V)=fG (ai 0 l)/\(0:Nat)<=l.length)/\
   (∀x_1:Nat,x_1<=l.length->((x_1:Int)<l.length->ix (x_1:Int) l.length/\(fG (ai x_1 l)).length=(fG (ai x_1 l)).length/\(fG (ai x_1 l)).length+(aZ l x_1).length<=1000000/\aG ((x_1:Int)+1)/\(x_1:Int)+1=((x_1+1:Nat):Int)/\(fG (ai x_1 l)++aZ l x_1).length=(fG (ai (x_1+1) l)).length/\fG (ai x_1 l)++aZ l x_1=fG (ai (x_1+1) l)/\x_1+1<=l.length/\l.length-(x_1+1)<l.length-x_1)/\
    (¬(x_1:Int)<l.length->(fG (ai x_1 l)).length=(fG (ai x_1 l)).length/\fG (ai x_1 l)=fG l))))) (by kernel_rfl) (by
  change l.length<=1000/\0<l.flatten.length/\l.flatten.length<=1000 at hp;have e1:∀x:Nat,(x:Int)<l.length->(l.take (x+1)).flatten=(l.take x).flatten++aZ l x:=λx h=>by rw[List.take_succ_eq_append_getElem (by omega),List.flatten_append,List.flatten_singleton,tQ (by omega)]
  have e2:∀x:Nat,(l.take x).flatten.length<=l.flatten.length:=λx=>by
   conv=>rhs;rw[<-List.take_append_drop x l,List.flatten_append,dh]
   omega
  have e3:∀x:Nat,¬(x:Int)<l.length->ai x l=l:=λx h=>ir (by omega);have e4:∀x:Nat,(x:Int)<l.length->(l.take x).flatten.length+(aZ l x).length<=l.flatten.length:=λx h=>by grind
  have e5:∀x:Nat,(x:Int)<l.length->((fG (ai x l)).length:Int)+(aZ l x).length=(fG (ai (x+1) l)).length:=λx h=>by grind
  have e6:∀x:Nat,(x:Int)<l.length->aG (((fG (ai x l)).length:Int)+(aZ l x).length):=λx h=>cl (by grind)
  repeat' first|with_reducible apply c6|with_reducible intro
  all_goals repeat with_reducible cases‹_/\_›
  all_goals grind)
noncomputable def Od:Tab:=ap [(228,Qg)] OS
def LC:Od.Ok aH:=aq Ks ⟨aCd,trivial⟩
def A5(a b:V):dT a b<0↔bV a b=true:=by unfold dT bV aDh;grind
def U5(a:V):bV a a=false:=by unfold bV;grind
noncomputable def Qi:Con:=con (ac (aL .V) (a1 (aF 166))) (λ(r,_)=>[0<r.length,r.length<=1000]) (λ(r,_)=>aV.enc (aDa r (fS r)))
def aCf:Qi.Ok aH 226:=bA (a7 LC) (raw:=au) (λ(r,_)=>[(5,.mk Nat (λF _=>np F 6) [] (λk=>[0<k,k<=r.length]) (λk=>[(6,.int .i64 (k:Int))]) (λk=>[(7,.box 53 [.int .i64 (aDa r (br r k)).x,.int .i64 (aDa r (br r k)).y])]) (λk=>r.length-k) (λ_=>[]))]
  ) (λ(_,_)=>⟨_,rfl⟩) λ(r,u) hp=>aw (q:=((r.length:Int)<1->False)/\
 (¬(r.length:Int)<1->ix 0 r.length/\(1=(1:Int)/\(aDa r 0).x=(aDa r (br r 1)).x/\(aDa r 0).y=(aDa r (br r 1)).y/\(0:Nat)<1/\(1:Nat)<=r.length)/\
  (∀x:Nat,(0:Nat)<x/\x<=r.length->((x:Int)<r.length->ix (x:Int) r.length/\(dT (aDa r x) (aDa r (br r x))<0->ix (x:Int) r.length/\aG ((x:Int)+1)/\(x:Int)+1=((x+1:Nat):Int)/\(aDa r x).x=(aDa r (br r (x+1))).x/\(aDa r x).y=(aDa r (br r (x+1))).y/\(0:Nat)<x+1/\x+1<=r.length/\r.length-(x+1)<r.length-x)/\
    (¬dT (aDa r x) (aDa r (br r x))<0->aG ((x:Int)+1)/\(x:Int)+1=((x+1:Nat):Int)/\(aDa r (br r x)).x=(aDa r (br r (x+1))).x/\(aDa r (br r x)).y=(aDa r (br r (x+1))).y/\(0:Nat)<x+1/\x+1<=r.length/\r.length-(x+1)<r.length-x))/\
   (¬(x:Int)<r.length->(aDa r (br r x)).x=(aDa r (fS r)).x/\(aDa r (br r x)).y=(aDa r (fS r)).y)))) (by kernel_rfl) (by
  change 0<r.length/\r.length<=1000 at hp;have e0:br r 1=0:=by unfold br br;split<;>rfl
  have e1:∀x:Nat,dT (aDa r x) (aDa r (br r x))<0->br r (x+1)=x:=λx h=>if_pos ((A5 _ _).1 h);have e2:∀x:Nat,¬dT (aDa r x) (aDa r (br r x))<0->br r (x+1)=br r x:=λx h=>if_neg λh2=>h ((A5 _ _).2 h2);have e3:∀x:Nat,¬(x:Int)<r.length->x<=r.length->br r x=fS r:=λx h1 h2=>by rw[show x=r.length by omega];rfl
  with_reducible ((repeat' first|apply c6|intro);all_goals repeat cases‹_/\_›)
  all_goals grind)
noncomputable def Of:Tab:=ap [(226,Qi)] Od
def LE:Of.Ok aH:=aq LC ⟨aCf,trivial⟩
noncomputable def Qj:Con:=con (ac (aL .V) (a1 aV)) (λ(r,_)=>[r.length<=1000]) (λ(r,v)=> .int .i64 (fI (λx=>decide (v=x)) r))
def aCg:Qj.Ok aH 227:=bA (a7 LE) (raw:=au) (λ(r,v)=>[cnt 2 8 r.length (af λj=>decide (v=aDa r j)=false)]
  ) (λ(_,_)=>⟨_,rfl⟩) λ(r,v) hp=>aw (q:=(0=(0:Int)/\(0:Nat)<=r.length/\af (λj=>decide (v=aDa r j)=false) 0)/\
 (∀x:Nat,x<=r.length/\af (λj=>decide (v=aDa r j)=false) x->((x:Int)<r.length->ix (x:Int) r.length/\(v=(aDa r x)->(x:Int)=fI (λx=>decide (v=x)) r)/\
   (¬v=(aDa r x)->aG ((x:Int)+1)/\(x:Int)+1=((x+1:Nat):Int)/\x+1<=r.length/\af (λj=>decide (v=aDa r j)=false) (x+1)/\r.length-(x+1)<r.length-x))/\
  (¬(x:Int)<r.length-> -1=fI (λx=>decide (v=x)) r))) (by kernel_rfl) (by
  change r.length<=1000 at hp
  with_reducible ((repeat' first|apply c6|intro);all_goals repeat cases‹_/\_›)
  all_goals first|rfl|exact kT (t:= .V) (by omega) (decide_eq_true ‹_›) ‹_› |(obtain rfl:_=r.length:=oW ‹_› (by omega);exact lH (t:= .V) ‹_›)|grind)
noncomputable def Og:Tab:=ap [(227,Qj)] Of
def LF:Og.Ok aH:=aq LE ⟨aCg,trivial⟩
noncomputable def RG:Con:=con (a1 (aL .V)) (λr=>[r.length<=1000]) (λr=> .lst .V (nj r)
 )
def Ph:RG.Ok aH 163:=bA (a7 LF) (raw:=au) (λ_=>[]) (λ_=>⟨_,rfl⟩) λr hp=>aw (q:=r.length<=1000/\((!dF r)=true->nj r=([] :List V))/\
 ((!dF r)=false->(0:Nat)<r.length/\r.length<=1000/\r.length<=1000/\(0<=fI (λx=>decide ((aDa r (fS r))=x)) r/\fI (λx=>decide ((aDa r (fS r))=x)) r<=r.length)/\(0<=fI (λx=>decide ((aDa r (fS r))=x)) r/\fI (λx=>decide ((aDa r (fS r))=x)) r<=r.length)/\[bT (fI (λx=>decide ((aDa r (fS r))=x)) r).toNat r,ai (fI (λx=>decide ((aDa r (fS r))=x)) r).toNat r].length<=1000/\(0:Nat)<(fG [bT (fI (λx=>decide ((aDa r (fS r))=x)) r).toNat r,ai (fI (λx=>decide ((aDa r (fS r))=x)) r).toNat r]).length/\(fG [bT (fI (λx=>decide ((aDa r (fS r))=x)) r).toNat r,ai (fI (λx=>decide ((aDa r (fS r))=x)) r).toNat r]).length<=1000/\fG [bT (fI (λx=>decide ((aDa r (fS r))=x)) r).toNat r,ai (fI (λx=>decide ((aDa r (fS r))=x)) r).toNat r] =nj r)) (by kernel_rfl) (by
  change r.length<=1000 at hp;have h0:(!dF r)=false->0<r.length:=λh=>by have:=((D4 r).1 (nb h)).1;omega
  have hf:0<r.length->fI (λx=>decide (aDa r (fS r)=x)) r=(fS r:Int):=λh=>by
   have hl:=Ek h;symm;exact kT (t:= .V) hl (decide_eq_true rfl) λj hj=>decide_eq_false λe=>by have:=Sk r r.length j hj;rw[show br r r.length=fS r from rfl,e]at this;exact absurd ((U5 (aDa r j)).symm.trans this) (by decide)
  refine⟨hp,λh=>by unfold nj;grind,λh=> ?_⟩;have h1:=h0 h;have hl:=Ek h1;rw[hf h1];have hc:[bT ((fS r:Nat):Int).toNat r,ai ((fS r:Nat):Int).toNat r].flatten=nj r:=by unfold nj;rw[nb h];simp[dV]
  grind)
noncomputable def PG:Tab:=ap [(163,RG)] Og
def Lu:PG.Ok aH:=aq LF ⟨Ph,trivial⟩
def aPR:Ar bE where
 enc r:= .pro [.lst .V r] 0
 dec s:=match s with
  | .pro [x] 0=>iR .V x
  |_=>none
 ok s a h:=by
  split at h
  .have e:=i7 h;show(match bJ (avs [_])with|some q=>AV.p (.pro q 0)|none=> .any)=_;rw[avs,avs,e];rfl
  .cases h
 pl _:=⟨_,rfl⟩
def aPi:Ar Int where
 enc n:= .pro [.int .i64 n] 0
 dec s:=match s with
  | .pro [.int .i64 n] 0=>some n
  |_=>none
 ok s a h:=by grind
 pl _:=⟨_,rfl⟩
def aCl(f:Nat){α:Type}(A:Arl α):Ar α where
 enc a:= .fnp f [] (A.enc a)
 dec s:=match s with
  | .fnp g [] b=>(match ae g f with|true=>A.dec b|false=>none)
  |_=>none
 ok s a h:=by
  split at h
  .split at h
   .rename_i b e;have:=A.ok _ _ h;simp only[SV.av,this];simp_all
   .cases h
  .cases h
 pl a:=by obtain⟨q,h⟩:=A.pl a;exact⟨.fn (.func f) [] q,by simp only[SV.av,h,avs,cW];rfl⟩
def NH:Ar (bE×Int×Unit):=aCl 224 (ac aPR (ac aPi a0))
def KC{t:LT}{l:List t.ty}{q:t.ty->Bool}{j:Nat}(hj:j<l.length)(h:q (t.nth l j)=false):l.all q=false:=
 DX.2 ⟨_,eR hj,by rw[<-t.nth_eq l hj,h];simp⟩
def Ie{t:LT}{l:List t.ty}{q:t.ty->Bool}(h:af (λj=>q (t.nth l j)=true) l.length):l.all q=true:=
 dm.2 λx hx=>by obtain⟨j,hj,rfl⟩:=iK hx;have:=h j hj;dsimp only at this;rwa[t.nth_eq l hj]at this
noncomputable def Qh:Con:=con (ac aV (ac aPR (a1 aPi))) (λ(_,r,_)=>[r.length<=1000]) (λ(v,r,p)=> .bool (decide (¬eV r v=p))
 )
def aCe:Qh.Ok aH 224:=bA (a7 Lu) (raw:=au) (λ(_,_,_)=>[]) (λ(_,_,_)=>⟨_,rfl⟩) λ(v,r,p) hp=>aw (q:=r.length<=1000/\decide (¬eV r v=p)=decide (¬eV r v=p)) (by kernel_rfl) (by change r.length<=1000 at hp;grind)
noncomputable def Oe:Tab:=ap [(224,Qh)] PG
def LD:Oe.Ok aH:=aq Lu ⟨aCe,trivial⟩
noncomputable def Qt:Con:=con (ac (aL .V) (a1 NH)) (λ(l,c)=>[l.length<=1000000,c.1.length<=1000]) (λ(l,c)=> .int .i64 (fI (λv=>decide (¬eV c.1 v=c.2.1)) l))
def aCr:Qt.Ok aH 252:=bA (a7 LD) (raw:=au) (λ(l,c)=>[cnt 2 8 l.length (af λj=>decide (¬eV c.1 (aDa l j)=c.2.1)=false)]
  ) (λ(_,_)=>⟨_,rfl⟩) λ(l,c) hp=>aw (q:=(0=(0:Int)/\(0:Nat)<=l.length/\af (λj=>decide (¬eV c.1 (aDa l j)=c.2.1)=false) 0)/\
 (∀x:Nat,x<=l.length/\af (λj=>decide (¬eV c.1 (aDa l j)=c.2.1)=false) x->((x:Int)<l.length->ix (x:Int) l.length/\c.1.length<=1000/\(decide (¬eV c.1 (aDa l x)=c.2.1)=true->(x:Int)=fI (λv=>decide (¬eV c.1 v=c.2.1)) l)/\
   (decide (¬eV c.1 (aDa l x)=c.2.1)=false->aG ((x:Int)+1)/\(x:Int)+1=((x+1:Nat):Int)/\x+1<=l.length/\af (λj=>decide (¬eV c.1 (aDa l j)=c.2.1)=false) (x+1)/\l.length-(x+1)<l.length-x))/\
  (¬(x:Int)<l.length-> -1=fI (λv=>decide (¬eV c.1 v=c.2.1)) l))) (by kernel_rfl) (by
  change l.length<=1000000/\c.1.length<=1000 at hp
  with_reducible ((repeat' first|apply c6|intro);all_goals repeat cases‹_/\_›)
  all_goals first|rfl|exact kT (t:= .V) (by omega) ‹_› ‹_› |(obtain rfl:_=l.length:=oW ‹_› (by omega);exact lH (t:= .V) ‹_›)|grind)
noncomputable def Ov:Tab:=ap [(252,Qt)] Oe
def LP:Ov.Ok aH:=aq LD ⟨aCr,trivial⟩
noncomputable def c84:Con:=con (ac (aL .V) (a1 NH)) (λ(l,c)=>[l.length<=1000000,c.1.length<=1000]) (λ(l,c)=> .bool (l.any λv=>decide (¬eV c.1 v=c.2.1))
 )
def k84:c84.Ok aH 223:=bA (a7 LP) (raw:=au) (λ(_,_)=>[]) (λ(_,_)=>⟨_,rfl⟩) λ(l,c) hp=>aw (q:=l.length<=1000000/\c.fst.length<=1000/\decide (0<=fI (λv=>decide (¬eV c.fst v=c.2.1)) l)=iu l (λv=>decide (¬eV c.1 v=c.2.1))) (by kernel_rfl) (by change l.length<=1000000/\c.1.length<=1000 at hp;exact⟨hp.1,hp.2,qw _ _⟩)
noncomputable def t84:Tab:=ap [(223,c84)] Ov
def NV:t84.Ok aH:=aq LP ⟨k84,trivial⟩
noncomputable def C5:Con:=con (ac (aL .V) (ac (aL .V) (a1 aI))) (λ(r,q,_)=>[r.length<=1000,q.length<=1000]) (λ(r,q,p)=> .bool (aDj r q p)
 )
def Pi:C5.Ok aH 161:=bA (a7 NV) (raw:=au) (λ(_,_,_)=>[]) (λ(_,_,_)=>⟨_,rfl⟩) λ(r,q,p) hp=>aw (q:=r.length<=1000000/\q.length<=1000/\(!iu r (λv=>decide (¬eV q v=p)))=aDj r q p) (by kernel_rfl) (by change r.length<=1000/\q.length<=1000 at hp;refine⟨by omega,hp.2,?_⟩;unfold aDj;grind)
noncomputable def aBq:Tab:=ap [(161,C5)] t84
def aAd:aBq.Ok aH:=aq NV ⟨Pi,trivial⟩
noncomputable def RH:Con:=con (ac (aL .V) (a1 (aL .V))) (λ(a,b)=>[a.length<=1000,b.length<=1000]) (λ(a,b)=> .bool (gD a b))
def aCN:RH.Ok aH 162:=bA (a7 aAd) (raw:=au) (λ(a,b)=>[cnt 2 12 (aR a).length (af λi=>((aR b).all λy=>dU (aK (aR a) i) y==0)=true) λi=>[cnt 5 19 (aR b).length (af λk=>(dU (aK (aR a) i) (aK (aR b) k)==0)=true)]]
  ) (λ(_,_)=>⟨_,rfl⟩) λ(a,b) hp=>aw (q:=a.length<=1000/\(0=(0:Int)/\(0:Nat)<=(aR a).length/\af (λi=>List.all (aR b) (λy=>dU (aK (aR a) i) y==0)=true) 0)/\
 (∀x:Nat,x<=(aR a).length/\af (λi=>List.all (aR b) (λy=>dU (aK (aR a) i) y==0)=true) x->((x:Int)<(aR a).length->ix (x:Int) (aR a).length/\x<(aR a).length/\b.length<=1000/\(0=(0:Int)/\(0:Nat)<=(aR b).length/\af (λk=>(dU (aK (aR a) x) (aK (aR b) k)==0)=true) 0)/\
   (∀x_1:Nat,x_1<=(aR b).length/\af (λk=>(dU (aK (aR a) x) (aK (aR b) k)==0)=true) x_1->((x_1:Int)<(aR b).length->ix (x_1:Int) (aR b).length/\x_1<(aR b).length/\(¬dU (aK (aR a) x) (aK (aR b) x_1)=0->false=gD a b)/\
     (¬(¬dU (aK (aR a) x) (aK (aR b) x_1)=0)->aG ((x_1:Int)+1)/\(x_1:Int)+1=((x_1+1:Nat):Int)/\x_1+1<=(aR b).length/\af (λk=>(dU (aK (aR a) x) (aK (aR b) k)==0)=true) (x_1+1)/\(aR b).length-(x_1+1)<(aR b).length-x_1))/\
    (¬(x_1:Int)<(aR b).length->aG ((x:Int)+1)/\(x:Int)+1=((x+1:Nat):Int)/\x+1<=(aR a).length/\af (λi=>List.all (aR b) (λy=>dU (aK (aR a) i) y==0)=true) (x+1)/\(aR a).length-(x+1)<(aR a).length-x)))/\
  (¬(x:Int)<(aR a).length->true=gD a b))) (by kernel_rfl) (by
  change a.length<=1000/\b.length<=1000 at hp;have el:∀r:bE,r.length<=1000->(aR r).length<=1000:=λr h=>by unfold aR;grind
  have ea:=el a hp.1;have eb:=el b hp.2;have h1:∀x y:Nat,(x:Int)<(aR a).length->(y:Int)<(aR b).length->¬dU (aK (aR a) x) (aK (aR b) y)=0->false=gD a b:=λx y hx hy h=>
   (KC (t:= .S) (l:=aR a) (j:=x) (by omega) (KC (t:= .S) (l:=aR b) (q:=λy=>dU (aK (aR a) x) y==0) (j:=y) (by omega) (beq_eq_false_iff_ne.2 h))).symm
  have h2:∀x:Nat,¬(x:Int)<(aR a).length->x<=(aR a).length->af (λi=>((aR b).all λy=>dU (aK (aR a) i) y==0)=true) x->true=gD a b:=λx hx hx2 h=>by
   obtain rfl:x=(aR a).length:=by omega
   exact(Ie (t:= .S) h).symm
  have h3:∀x y:Nat,¬(y:Int)<(aR b).length->y<=(aR b).length->af (λk=>(dU (aK (aR a) x) (aK (aR b) k)==0)=true) y->((aR b).all λz=>dU (aK (aR a) x) z==0)=true:=λx y hy hy2 h=>by
   obtain rfl:y=(aR b).length:=by omega
   exact Ie (t:= .S) h
  with_reducible ((repeat' first|apply c6|intro);all_goals repeat cases‹_/\_›)
  all_goals first|rfl|with_reducible solve_by_elim|exact b8 ‹_› (h3 _ _ ‹_› ‹_› ‹_›)|exact b8 ‹_› (beq_iff_eq.2 (yW ‹¬¬_›))|grind)
def RdV(w:World)(a:Option Addr)(xs:List V):Prop:=
 ∀i,i<xs.length->∃b off,a=some ⟨b,off,none⟩/\b<w.heap.size/\w.cell? ⟨b,off+i*2,none⟩=some (.int .i64 (aDa xs i).x)/\w.cell? ⟨b,off+i*2+1,none⟩=some (.int .i64 (aDa xs i).y)
def RdV.below{w w':World}{a:Option Addr}{xs:List V}(h:RdV w a xs)(hb:Below w.heap.size w w'):RdV w' a xs:=by intro i hi;obtain⟨b,off,ha,hlt,h1,h2⟩:=h i hi;exact⟨b,off,ha,Nat.lt_of_lt_of_le hlt hb.size,(hb.cell (p:=⟨b,_,none⟩) hlt).trans h1,(hb.cell (p:=⟨b,_,none⟩) hlt).trans h2⟩
structure RV where
 a:Option Addr
 c:Nat
 r:bE
instance:Inhabited RV:=⟨⟨none,0,[]⟩⟩
def RV.enc(x:RV):Value:= .slice x.a x.r.length x.c
def Len(x:RV):Prop:=x.r.length<=1000/\x.r.length<=x.c/\(x.a=none->x.c=0)
def ny(w:World):bG:=λb o v=>w.cell? ⟨b,o,none⟩=some v
def sk{w:World}{a:Option Addr}{c:Nat}{r:List V}(h:RdV w a r)(hl:Len ⟨a,c,r⟩):a8 (ny w) (.sl r.length (iF r)) (.slice a r.length c):=by
 obtain⟨_,h2,h3⟩:=hl;dsimp only at h2 h3;unfold a8;refine⟨a,c,rfl,h2,λha=>⟨h3 ha,?_⟩,?_⟩
 .cases r with
  |nil=>rfl
  |cons v r=>grind
 .rintro ad rfl;refine⟨λh0=> ?_,cj.of _ _ _ λi x hi=> ?_⟩
  .obtain⟨b,off,hb,_⟩:=h 0 h0;cases hb;rfl
  .have hlt:i<(iF r).length:=(List.getElem?_eq_some_iff.1 hi).1;rw[xC.length]at hlt;obtain⟨b,off,hb,_,h0,h1⟩:=h (i/2) (by omega);cases hb;have h4:=YX (v:=r) (i:=i/2) (by omega);have g:∀j,j<2->(iF r)[i/2*2+j]? =([.int .i64 (aDa r (i/2)).x,.int .i64 (aDa r (i/2)).y] :List PV)[j]? :=λj hj=>by grind
   rcases Nat.mod_two_eq_zero_or_one i with hm|hm
   .have:=g 0 (by decide);rw[show i/2*2+0=i by omega,hi]at this;cases this;exact⟨_,by show w.cell? _=_;rw[show off+i=off+i/2*2 by omega];exact h0,rfl,by unfold a8;rfl⟩
   .have:=g 1 (by decide);rw[show i/2*2+1=i by omega,hi]at this;cases this;exact⟨_,by show w.cell? _=_;rw[show off+i=off+i/2*2+1 by omega];exact h1,rfl,by unfold a8;rfl⟩
def bK.one{C:bG}{x:PV}{v:Value}(h:a8 C x v):bK C [x] [v] :=by unfold bK;exact⟨_,_,rfl,h,by unfold bK;rfl⟩
def bK.CS{C:bG}{x:PV}{v:Value}{l:List PV}{vs:List Value}(h:a8 C x v)(h2:bK C l vs):bK C (x::l) (v::vs):=by unfold bK;grind
def AO{f:FuncId}{xs:List SV}{r:SV}{B:List PV}{q:PV}{vs:List Value}{u:Value}{w:World}(h:∃A q,avs xs=A.map .p/\r.av= .p q/\Sat aH false f A q)(hB:avs xs=B.map .p)(hq:r.av= .p q)
  (hu:∀C v,a8 C q v->v=u) (hr:bK (ny w) B vs):Calls aH f vs.toArray w λe w'=>e= .returned u/\Below w.heap.size w w':=by
 obtain⟨A,q',h1,h2,h3⟩:=h;rw[hq]at h2;cases h2;rw[hB]at h1;have:B=A:=by have:=congrArg bJ h1;rw[cW,cW]at this;cases this;rfl
 subst this;refine(h3.2 (ny w) w vs (λ_ _ _ h=>h) hr).mono ?_;grind
def Si(a:Option Addr)(c:Nat)(xs:List V)(w:World)(h:RdV w a xs)(hl:Len ⟨a,c,xs⟩):
  Calls aH 160 #[.slice a xs.length c] w λe w'=>e= .returned (.bool (dF xs))/\Below w.heap.size w w':=
 AO (k83 [.lst .V xs] xs rfl ((fH (l:=c83.pre xs)).1 hl.1)) (B:=[.sl xs.length (iF xs)]) rfl rfl (λC v h=>by unfold a8 at h;exact h) (bK.one (sk h hl))
def pR(a:Option Addr)(c:Nat)(xs:List V)(a':Option Addr)(c':Nat)(ys:List V)(p:Int)(w:World)(h':RdV w a' ys)(hl':Len ⟨a',c',ys⟩)(h:RdV w a xs)(hl:Len ⟨a,c,xs⟩):
  Calls aH 161 #[.slice a xs.length c,.slice a' ys.length c',.int .i64 p] w λe w'=>e= .returned (.bool (aDj xs ys p))/\Below w.heap.size w w':=
 AO (Pi [.lst .V xs,.lst .V ys,.int .i64 p] (xs,ys,p) rfl ((fH (l:=C5.pre (xs,ys,p))).1 ⟨hl.1,hl'.1⟩)) (B:=[.sl xs.length (iF xs),.sl ys.length (iF ys),.int .i64 p]) rfl rfl (λC v h=>by unfold a8 at h;exact h)
  ((bK.one (by unfold a8;rfl)).CS (sk h' hl')|>.CS (sk h hl))
def vt(a:Option Addr)(c:Nat)(xs:List V)(a':Option Addr)(c':Nat)(ys:List V)(w:World)(h:RdV w a xs)(h':RdV w a' ys)(hl:Len ⟨a,c,xs⟩)(hl':Len ⟨a',c',ys⟩):
  Calls aH 162 #[.slice a xs.length c,.slice a' ys.length c'] w λe w'=>e= .returned (.bool (gD xs ys))/\Below w.heap.size w w':=
 AO (aCN [.lst .V xs,.lst .V ys] (xs,ys) rfl ((fH (l:=RH.pre (xs,ys))).1 ⟨hl.1,hl'.1⟩)) (B:=[.sl xs.length (iF xs),.sl ys.length (iF ys)]) rfl rfl (λC v h=>by unfold a8 at h;exact h)
  ((bK.one (sk h' hl')).CS (sk h hl))
section
open Go.ChangeShapes Go.WideShapes Go.ChangeAt Go.RowKit Go.Joins Go.Deep
def Tryz.own:ownKnob aH.godebug=none:=by kernel_rfl
def Tryz.laidOut:laidOutB aH=true:=by kernel_rfl
def Yl:aH.cellsOf 57=4:=by kernel_rfl
def Ym:aH.cellsOf 53=2:=by kernel_rfl
def Zr:aH.cellsOf 3=1:=by kernel_rfl
def sgP(l:List S):PV:= .sl l.length (LT.S.enc l)
def HW{C:bG}:∀(l:List S) (b o:Nat),(∀i (h:i<l.length),C b (o+i*4) (.int .i64 l[i].a.x)/\C b (o+i*4+1) (.int .i64 l[i].a.y)/\C b (o+i*4+2) (.int .i64 l[i].b.x)/\C b (o+i*4+3) (.int .i64 l[i].b.y))->cj C (LT.S.enc l) b o
 |[],b,o,_=>by trivial
 |s::l,b,o,h=>by
  have h0:=h 0 (by simp);refine⟨⟨_,by simpa using h0.1,rfl,by rfl⟩,⟨_,by simpa using h0.2.1,rfl,by rfl⟩,⟨_,by simpa using h0.2.2.1,rfl,by rfl⟩,⟨_,by simpa using h0.2.2.2,rfl,by rfl⟩,?_⟩;refine HW l b (o+1+1+1+1) λi hi=> ?_;have:=h (i+1) (by simpa using hi);simp only[List.getElem_cons_succ]at this;rw[show o+1+1+1+1+i*4=o+(i+1)*4 by omega];exact this
section
variable {H:Type} {enc:TypeId×Value->H} {w:World} {base:Nat} {spare:Nat->Bool} {held:Bool}
def GJ{fuel:Nat}{c0 c1:Value}{y:DataW H×List MemPlace}(h:DataW.trod enc aH w base spare held fuel 53 [c0,c1] =some y):∃v:V,c0= .int .i64 v.x/\c1= .int .i64 v.y:=by obtain⟨y0,y1,n,_,_,h0,h1⟩:=trod_struct2 Ro h;obtain⟨p,hp,_⟩:=DataW.trod_int sB h0;obtain⟨q,hq,_⟩:=DataW.trod_int sB h1;rw[Zr]at hp hq;simp only[mq,List.take_succ_cons,List.take_zero,mb,and_true,List.drop_succ_cons]at hp hq;exact⟨⟨p,q⟩,hp,hq⟩
def Us{fuel:Nat}{v:Value}{y:DataW H×List MemPlace}(h:DataW.trod enc aH w base spare held fuel 22 [v] =some y):∃l:List S,a8 (ny w) (sgP l) v:=by
 rcases open_slice Tryz.underlying22 h with⟨h1,h2⟩|⟨a,len,cap,m,n,D,Pl,h1,_,hl,_,hm,hx,hc⟩
 .simp only[mb,and_true]at h1;subst h1;refine⟨[],?_⟩;exact⟨none,0,rfl,az _,λ_=>⟨rfl,rfl⟩,λad e=>by cases e⟩
 .simp only[mb,and_true]at h1;subst h1;have hlm:len<=m:=by rw[hm];split<;>omega
  have hint:∀i,i<m->∃s:S,w.cell? ((a.add (i*4)).add 0)=some (.int .i64 s.a.x)/\w.cell? ((a.add (i*4)).add 1)=some (.int .i64 s.a.y)/\w.cell? ((a.add (i*4)).add 2)=some (.int .i64 s.b.x)/\w.cell? ((a.add (i*4)).add 3)=some (.int .i64 s.b.y):=by
   intro i hi;obtain⟨cs',h1,h2⟩:=hc i hi;rw[Yl]at h1;obtain⟨_,hlen,hcell⟩:=World.cells?_some h1;obtain⟨y0,y1,k,_,_,g0,g1⟩:=trod_struct2 Tryz.underlying57 h2;rw[Ym]at g0 g1;match cs',hlen with
   |[c0,c1,c2,c3],_=>
    simp only[mq,List.take_succ_cons,List.take_zero,List.drop_succ_cons]at g0 g1;obtain⟨p,e1,e2⟩:=GJ g0;obtain⟨q,e3,e4⟩:=GJ g1;exact⟨⟨p,q⟩,by rw[hcell 0 (by omega),<-e1];rfl,by rw[hcell 1 (by omega),<-e2];rfl,by rw[hcell 2 (by omega),<-e3];rfl,by rw[hcell 3 (by omega),<-e4];rfl⟩
  obtain⟨f,hf⟩:=choose_lt (α:=S) (p:=λi s=>w.cell? ((a.add (i*4)).add 0)=some (.int .i64 s.a.x)/\w.cell? ((a.add (i*4)).add 1)=some (.int .i64 s.a.y)/\w.cell? ((a.add (i*4)).add 2)=some (.int .i64 s.b.x)/\w.cell? ((a.add (i*4)).add 3)=some (.int .i64 s.b.y)) hint;refine⟨(bO len).map f,some a,cap,by simp,by simpa using hl,(λe=>nomatch e),λad e=> ?_⟩;cases e;refine⟨λhpos=> ?_,HW _ _ _ λi hi=> ?_⟩
  .have hl0:0<len:=by simpa using hpos
   have h0:=(hf 0 (by omega)).1;simpa[Addr.add]using World.cell?_spot h0
  .simp only[eB,List.length_range]at hi;have hs:a.spot=none:=by have h0:=(hf 0 (by omega)).1;simpa[Addr.add]using World.cell?_spot h0
   obtain⟨b,off,sp⟩:=a;subst hs;have g:=hf i (by omega);simp only[Addr.add_mid,Nat.add_zero]at g;simp only[vF,vG];unfold ny;exact g
end
def ZA{f:FuncId}{xs:List SV}{r:SV}{B:List PV}{q:PV}(h:∃A q,avs xs=A.map .p/\r.av= .p q/\Sat aH false f A q)(hB:avs xs=B.map .p)(hq:r.av= .p q):Sat aH false f B q:=by
 obtain⟨A,q',h1,h2,h3⟩:=h;rw[hq]at h2;cases h2;rw[hB]at h1;have:B=A:=by have:=congrArg bJ h1;rw[cW,cW]at this;cases this;rfl
 subst this;exact h3
end
def atB(s t:S):Bool:=decide ((ag s t).k=1\/(ag s t).k=2)
def shB(s t:S):Bool:=decide ((ag s t).k=3)
structure POk(p:Pt):Prop where
 v:dE p=true
 b:di p 2000=true
def POk.den{p:Pt}(h:POk p):1<=p.den/\p.den<=134217728:=by have:=h.b;unfold di at this;simp only[cD,decide_eq_true_eq]at this;exact this.1
def POk.x{p:Pt}(h:POk p): -(2000*p.den)<=p.x/\p.x<=2000*p.den/\ -(2000*p.den)<=p.y/\p.y<=2000*p.den:=by have:=h.b;unfold di bR at this;simp only[cD,decide_eq_true_eq]at this;omega
def aW(p q:Pt):Int:=if aDh (p.y*q.den) (q.y*p.den)=0 then aDh (p.x*q.den) (q.x*p.den)else aDh (p.y*q.den) (q.y*p.den)
def EV(a m:Int)(hm:1<=m):(a.tmod m<0->a.tdiv m-1=a/m)/\(¬a.tmod m<0->a.tdiv m=a/m):=by
 have h1:=Int.tmod_add_mul_tdiv a m;have h2:=DZ a m;have h3:=Da a (show m≠0 by omega);have h4:=Db a (show 0<m by omega);have h5:=Int.tmod_lt_of_pos a (show 0<m by omega);have h6:=Int.lt_tmod_of_pos a (show 0<m by omega);generalize a.tmod m=r at*;generalize a % m=r' at*;generalize a.tdiv m=q at*;generalize a/m=q' at*;have e:r+m*q=r'+m*q':=by omega
 constructor<;>intro h
 .have:m*(q-q'-1)=r'-r-m:=by rw[Int.mul_sub,Int.mul_sub];omega
  rcases vH (q-q'-1) 0 with h7|h7|h7
  .have:=sF (show q-q'-1<= -1 by omega) (show 0<=m by omega);omega
  .omega
  .have:=sF (show 1<=q-q'-1 by omega) (show 0<=m by omega);omega
 .have:m*(q-q')=r'-r:=by rw[Int.mul_sub];omega
  rcases vH (q-q') 0 with h7|h7|h7
  .have:=sF (show q-q'<= -1 by omega) (show 0<=m by omega);omega
  .omega
  .have:=sF (show 1<=q-q' by omega) (show 0<=m by omega);omega
def Gg{a m:Int}(hm:1<=m)(h1: -(2000*m)<=a)(h2:a<=2000*m): -2000<=a/m/\a/m<=2000/\0<=a-a/m*m/\a-a/m*m<m:=by have g2:=DZ a m;have g3:=Da a (show m≠0 by omega);have g4:=Db a (show 0<m by omega);have e:a/m*m=m*(a/m):=Int.mul_comm _ _;refine⟨Int.le_ediv_of_mul_le (by omega) (by omega),Int.ediv_le_of_le_mul (by omega) (by omega),by omega,by omega⟩
def VQ(a m b n:Int)(hm:1<=m)(hn:1<=n):orL [aDh (a/m) (b/n),aDh ((a-a/m*m)*n) ((b-b/n*n)*m)] =aDh (a*n) (b*m):=by
 have h2:=DZ a m;have h3:=Da a (show m≠0 by omega);have h4:=Db a (show 0<m by omega);have g2:=DZ b n;have g3:=Da b (show n≠0 by omega);have g4:=Db b (show 0<n by omega);generalize a % m=r at*;generalize a/m=q at*;generalize b % n=s at*;generalize b/n=p at*;have ea:a=r+m*q:=h2.symm;have eb:b=s+n*p:=g2.symm;subst ea;subst eb;have e1:(r+m*q)*n-(s+n*p)*m=(r*n-s*m)+m*n*(q-p):=by grind
 have e2:r+m*q-q*m=r:=by grind
 have e3:s+n*p-p*n=s:=by grind
 have hmn:1<=m*n:=by have:=Int.mul_le_mul hm hn (by omega) (by omega);omega
 have b1:r*n<m*n:=Dc h4 (by omega);have b2:s*m<n*m:=Dc g4 (by omega);have b3:0<=r*n:=jG h3 (by omega);have b4:0<=s*m:=jG g3 (by omega);have b5:n*m=m*n:=Int.mul_comm _ _;rw[e2,e3];generalize (r+m*q)*n=A at*;generalize (s+n*p)*m=B at*;generalize r*n=u at*;generalize s*m=v at*;generalize m*n=w at*;unfold orL orL orL aDh;rcases vH q p with h7|h7|h7
 .have:=sF (show q-p<= -1 by omega) (show 0<=w by omega);rw[if_pos h7,if_neg (by omega),if_pos (by omega)]
 .subst h7;rw[Int.sub_self,Int.mul_zero]at e1;simp only[Int.lt_irrefl,if_false,if_true];grind
 .have:=sF (show 1<=q-p by omega) (show 0<=w by omega);rw[if_neg (by omega),if_pos h7,if_neg (by omega),if_neg (by omega),if_pos (by omega)]
noncomputable def RO:Con:=con (ac aS (a1 aS)) (λ(_,_)=>[]) (λ(s,t)=> .tup [aT.enc (ag s t).p,.bool (atB s t)]
 )
def aCT:RO.Ok aH 106:=bA (a7 xG) (raw:=au) (λ(_,_)=>[]) (λ(_,_)=>⟨_,rfl⟩) λ(s,t) _=>aw (q:=((ag s t).k=1->(ag s t).p.x=(ag s t).p.x/\(ag s t).p.y=(ag s t).p.y/\(ag s t).p.den=(ag s t).p.den/\true=atB s t)/\
 (¬(ag s t).k=1->(ag s t).p.x=(ag s t).p.x/\(ag s t).p.y=(ag s t).p.y/\(ag s t).p.den=(ag s t).p.den/\decide ((ag s t).k=2)=atB s t)) (by kernel_rfl) (by unfold atB;refine⟨λh=>⟨rfl,rfl,rfl,?_⟩,λh=>⟨rfl,rfl,rfl,?_⟩⟩<;>simp[h])
noncomputable def PL:Tab:=ap [(106,RO)] Cb
def L9:PL.Ok aH:=aq xG ⟨aCT,trivial⟩
noncomputable def RN:Con:=con (ac aS (a1 aS)) (λ(_,_)=>[]) (λ(s,t)=> .tup [aS.enc (ag s t).s,.bool (shB s t)]
 )
def aCS:RN.Ok aH 107:=bA (a7 L9) (raw:=au) (λ(_,_)=>[]) (λ(_,_)=>⟨_,rfl⟩) λ(s,t) _=>aw (q:=(ag s t).s.a.x=(ag s t).s.a.x/\(ag s t).s.a.y=(ag s t).s.a.y/\(ag s t).s.b.x=(ag s t).s.b.x/\(ag s t).s.b.y=(ag s t).s.b.y/\decide ((ag s t).k=3)=shB s t) (by kernel_rfl) (by unfold shB;grind)
noncomputable def PK:Tab:=ap [(107,RN)] PL
def L8:PK.Ok aH:=aq L9 ⟨aCS,trivial⟩
noncomputable def RL:Con:=con (ac aI (ac aI (ac aI (a1 aI)))) (λ(a,m,b,n)=>[1<=m,m<=134217728,1<=n,n<=134217728,-(2000*m)<=a,a<=2000*m,-(2000*n)<=b,b<=2000*n]) (λ(a,m,b,n)=> .int .i64 (aDh (a*n) (b*m)))
def aCQ:RL.Ok aH 112:=bA (a7 L8) (raw:=au) (λ(a,m,b,n)=>[jU 4 [(9,.int .i64 (a/m))],jU 6 [(10,.int .i64 (b/n))]]
  ) (λ(_,_,_,_)=>⟨_,rfl⟩) λ(a,m,b,n) hp=>aw (q:=m≠0/\aG (bz a m)/\n≠0/\aG (bz b n)/\(m≠0/\(dr a m<0->aG (bz a m-1)/\bz a m-1=a/m)/\
  (¬dr a m<0->bz a m=a/m))/\
 (∀y:Unit,(n≠0/\(dr b n<0->aG (bz b n-1)/\bz b n-1=b/n)/\
   (¬dr b n<0->bz b n=b/n))/\
  (∀y_1:Unit,aG (a/m*m)/\aG (a-a/m*m)/\aG ((a-a/m*m)*n)/\aG (b/n*n)/\aG (b-b/n*n)/\aG ((b-b/n*n)*m)/\[aDh (a/m) (b/n),aDh ((a-a/m*m)*n) ((b-b/n*n)*m)].length<=1000/\orL [aDh (a/m) (b/n),aDh ((a-a/m*m)*n) ((b-b/n*n)*m)] =aDh (a*n) (b*m)))) (by kernel_rfl) (by
  change 1<=m/\m<=134217728/\1<=n/\n<=134217728/\ -(2000*m)<=a/\a<=2000*m/\ -(2000*n)<=b/\b<=2000*n at hp;obtain⟨h1,h2,h3,h4,h5,h6,h7,h8⟩:=hp;obtain⟨a1,a2⟩:=EV a m h1;obtain⟨b1,b2⟩:=EV b n h3;obtain⟨a3,a4,a5,a6⟩:=Gg h1 h5 h6;obtain⟨b3,b4,b5,b6⟩:=Gg h3 h7 h8;have e:=VQ a m b n h1 h3;have p1:0<=(a-a/m*m)*n/\(a-a/m*m)*n<=134217728*134217728:=⟨jG a5 (by omega),Int.mul_le_mul (by omega) h4 (by omega) (by omega)⟩;have p2:0<=(b-b/n*n)*m/\(b-b/n*n)*m<=134217728*134217728:=⟨jG b5 (by omega),Int.mul_le_mul (by omega) h2 (by omega) (by omega)⟩;have t1: -2001<=a.tdiv m/\a.tdiv m<=2001:=by
   by_cases h:a.tmod m<0
   .have:=a1 h;omega
   .have:=a2 h;omega
  have t2: -2001<=b.tdiv n/\b.tdiv n<=2001:=by
   by_cases h:b.tmod n<0
   .have:=b1 h;omega
   .have:=b2 h;omega
  generalize (a-a/m*m)*n=A at*;generalize (b-b/n*n)*m=B at*;generalize a.tdiv m=q at*;generalize b.tdiv n=r at*;generalize a/m*m=am at*;generalize b/n*n=bn at*;refine⟨by omega,by unfold aG;omega,by omega,by unfold aG;omega,⟨by omega,λh=>⟨by unfold aG;omega,a1 h⟩,a2⟩,λ_=>⟨⟨by omega,λh=>⟨by unfold aG;omega,b1 h⟩,b2⟩,λ_=> ?_⟩⟩;exact⟨by unfold aG;omega,by unfold aG;omega,by unfold aG;omega,by unfold aG;omega,by unfold aG;omega,by unfold aG;omega,by simp,e⟩)
noncomputable def PI:Tab:=ap [(112,RL)] PK
def L5:PI.Ok aH:=aq L8 ⟨aCQ,trivial⟩
noncomputable def c47:Con:=con (ac aT (a1 aT)) (λ(p,q)=>[POk p,POk q]) (λ(p,q)=> .int .i64 (aW p q)
 )
def k47:c47.Ok aH 47:=bA (a7 L5) (raw:=au) (λ(_,_)=>[]) (λ(_,_)=>⟨_,rfl⟩) λ(p,q) hp=>aw (q:=((!dE p)=true->0=aW p q)/\
 ((!dE p)=false->((!dE q)=true->0=aW p q)/\
  ((!dE q)=false->(0:Int)<=2000/\(2000:Int)<=1000000/\((!di p 2000)=true->0=aW p q)/\
   ((!di p 2000)=false->(0:Int)<=2000/\(2000:Int)<=1000000/\((!di q 2000)=true->0=aW p q)/\
    ((!di q 2000)=false->1<=p.den/\p.den<=134217728/\1<=q.den/\q.den<=134217728/\ -(2000*p.den)<=p.y/\p.y<=2000*p.den/\ -(2000*q.den)<=q.y/\q.y<=2000*q.den/\1<=p.den/\p.den<=134217728/\1<=q.den/\q.den<=134217728/\ -(2000*p.den)<=p.x/\p.x<=2000*p.den/\ -(2000*q.den)<=q.x/\q.x<=2000*q.den/\[aDh (p.y*q.den) (q.y*p.den),aDh (p.x*q.den) (q.x*p.den)].length<=1000/\orL [aDh (p.y*q.den) (q.y*p.den),aDh (p.x*q.den) (q.x*p.den)] =aW p q))))) (by kernel_rfl) (by
  change POk p/\POk q at hp;obtain⟨h1,h2⟩:=hp;rw[h1.v,h2.v,h1.b,h2.b];have d1:=h1.den;have d2:=h2.den;have x1:=h1.x;have x2:=h2.x;refine⟨λh=>(by cases h),λ_=>⟨λh=>(by cases h),λ_=>⟨by omega,by omega,λh=>(by cases h),λ_=>⟨by omega,by omega,λh=>(by cases h),λ_=> ?_⟩⟩⟩⟩;exact⟨d1.1,d1.2,d2.1,d2.2,x1.2.2.1,x1.2.2.2,x2.2.2.1,x2.2.2.2,d1.1,d1.2,d2.1,d2.2,x1.1,x1.2.1,x2.1,x2.2.1,by simp,by unfold aW orL orL orL;grind⟩)
noncomputable def t47:Tab:=ap [(47,c47)] PI
def Nu:t47.Ok aH:=aq L5 ⟨k47,trivial⟩
def aPl:Ar Pl where
 enc p:= .agg [.lst .S p.sg,.lst .T p.vs,.lst .E p.es,.lst .F p.fs]
 dec s:=match s with
  | .agg [a,b,c,d] =>(match iR .S a,iR .T b,iR .E c,iR .F d with|some x,some y,some z,some u=>some ⟨x,y,z,u⟩|_,_,_,_=>none)
  |_=>none
 ok s a h:=by
  split at h
  .split at h<;>cases h;rename_i h1 h2 h3 h4;simp only[SV.av,avs,i7 h1,i7 h2,i7 h3,i7 h4]
  .cases h
 pl _:=⟨_,rfl⟩
structure PlOk(p:Pl):Prop where
 ls:p.sg.length<=1000
 lv:p.vs.length<=100000
 le:p.es.length<=400000
 fr:∀e∈p.es,0<=e.fr/\e.fr<p.vs.length/\0<=e.to/\e.to<p.vs.length
 src:∀e∈p.es,0<e.src.length/\∀x∈e.src,0<=x/\x<p.sg.length
 bd:∀s∈p.sg,bd 2000 s.a/\bd 2000 s.b
 pt:∀v∈p.vs,POk v/\v.den<=33000000
def HIn(p:Pl)(h:Int):Prop:=0<=h/\h<2*p.es.length
def stP(p:Pl)(h:Int):Int:=if h.tmod 2=0 then(aP p.es (h.tdiv 2).toNat).fr else(aP p.es (h.tdiv 2).toNat).to
def lnP(p:Pl)(e:Int):V×V:=
 let s:=aK p.sg (aM (aP p.es e.toNat).src 0).toNat
 if bV s.b s.a=true then(s.b,s.a)else(s.a,s.b)
def bL(p:Pl)(h:Int):V:=if h.tmod 2=0 then aDd (lnP p (h.tdiv 2)).2 (lnP p (h.tdiv 2)).1 else aDd (lnP p (h.tdiv 2)).1 (lnP p (h.tdiv 2)).2
def dN(v:V):Int:=if 0<v.y\/(v.y=0/\0<v.x)then 0 else 1
def l0{l:List Ed}{i:Nat}(h:i<l.length):aP l i∈l:=by rw[show aP l i=l[i]from cS h];exact eR h
def Z3{h:Int}(h0:0<=h):h.tdiv 2=h/2/\h.tmod 2=h % 2:=⟨Int.tdiv_eq_ediv_of_nonneg h0,Int.tmod_eq_emod_of_nonneg h0⟩
def HIn.e{p:Pl}{h:Int}(H:HIn p h):0<=h.tdiv 2/\h.tdiv 2<p.es.length:=by obtain⟨h0,h1⟩:=H;rw[(Z3 h0).1];omega
def PlOk.at{p:Pl}(P:PlOk p){e:Int}(h:0<=e/\e<p.es.length):0<(aP p.es e.toNat).src.length/\0<=aM (aP p.es e.toNat).src 0/\aM (aP p.es e.toNat).src 0<p.sg.length:=by
 obtain⟨h1,h2⟩:=P.src _ (l0 (l:=p.es) (i:=e.toNat) (by omega));have:aM (aP p.es e.toNat).src 0∈(aP p.es e.toNat).src:=by rw[show aM (aP p.es e.toNat).src 0=(aP p.es e.toNat).src[0]from cS h1];exact eR h1
 exact⟨h1,h2 _ this⟩
def kO{m k:Int}{v:V}(h:bd m v)(hmk:m<=k):bd k v:=by unfold bd at*;omega
def BX{p:Pl}(P:PlOk p){e:Int}(h:0<=e/\e<p.es.length):bd 2000 (lnP p e).1/\bd 2000 (lnP p e).2:=by
 have h1:=P.at h;have h2:=P.bd _ (sv (l:=p.sg) (i:=(aM (aP p.es e.toNat).src 0).toNat) (by omega));unfold lnP;dsimp only;split
 .exact⟨h2.2,h2.1⟩
 .exact h2
def tV{p:Pl}(P:PlOk p){h:Int}(H:HIn p h):bd 4000 (bL p h):=by obtain⟨h1,h2⟩:=BX P H.e;unfold bd at h1 h2;unfold bL aDd;split<;>(unfold bd;dsimp only;omega)
def k9{p:Pl}(P:PlOk p){h:Int}(H:HIn p h):0<=stP p h/\stP p h<p.vs.length:=by have he:=H.e;have:=P.fr _ (l0 (l:=p.es) (i:=(h.tdiv 2).toNat) (by omega));unfold stP;split<;>omega
def bg(a b:V):Int:=if aDh (dN a) (dN b)=0 then-bZ ⟨0,0⟩ a b else aDh (dN a) (dN b)
noncomputable def Pz:Con:=con (ac aPl (a1 aI)) (λ(p,h)=>[PlOk p,HIn p h]) (λ(p,h)=> .int .i64 (stP p h)
 )
def aBz:Pz.Ok aH 83:=bA (a7 Nu) (raw:=au) (λ(_,_)=>[]) (λ(_,_)=>⟨_,rfl⟩) λ(p,h) hp=>aw (q:=(2:Int)≠0/\(dr h 2=0->(2:Int)≠0/\aG (bz h 2)/\ix (bz h 2) p.es.length/\(aP p.es (bz h 2).toNat).fr=stP p h)/\
 (¬dr h 2=0->(2:Int)≠0/\aG (bz h 2)/\ix (bz h 2) p.es.length/\(aP p.es (bz h 2).toNat).to=stP p h)) (by kernel_rfl) (by
  change PlOk p/\HIn p h at hp;obtain⟨P,H⟩:=hp;have e:=H.e;have:=P.le;refine⟨by decide,λh1=>⟨by decide,by unfold aG;omega,by unfold ix;omega,?_⟩,λh1=>⟨by decide,by unfold aG;omega,by unfold ix;omega,?_⟩⟩
  .unfold stP;rw[if_pos h1]
  .unfold stP;rw[if_neg h1])
noncomputable def NW:Tab:=ap [(83,Pz)] t47
def KJ:NW.Ok aH:=aq Nu ⟨aBz,trivial⟩
noncomputable def P0:Con:=con (ac aPl (a1 aI)) (λ(p,e)=>[PlOk p,0<=e/\e<p.es.length]) (λ(p,e)=> .tup [aV.enc (lnP p e).1,aV.enc (lnP p e).2]
 )
def aBA:P0.Ok aH 81:=bA (a7 KJ) (raw:=au) (λ(_,_)=>[]) (λ(_,_)=>⟨_,rfl⟩) λ(p,e) hp=>aw (q:=ix e p.es.length/\ix 0 (aP p.es e.toNat).src.length/\ix (aM (aP p.es e.toNat).src 0) p.sg.length/\(bV (aK p.sg (aM (aP p.es e.toNat).src 0).toNat).b (aK p.sg (aM (aP p.es e.toNat).src 0).toNat).a=true->(aK p.sg (aM (aP p.es e.toNat).src 0).toNat).b.x=(lnP p e).1.x/\(aK p.sg (aM (aP p.es e.toNat).src 0).toNat).b.y=(lnP p e).1.y/\(aK p.sg (aM (aP p.es e.toNat).src 0).toNat).a.x=(lnP p e).2.x/\(aK p.sg (aM (aP p.es e.toNat).src 0).toNat).a.y=(lnP p e).2.y)/\
 (bV (aK p.sg (aM (aP p.es e.toNat).src 0).toNat).b (aK p.sg (aM (aP p.es e.toNat).src 0).toNat).a=false->(aK p.sg (aM (aP p.es e.toNat).src 0).toNat).a.x=(lnP p e).1.x/\(aK p.sg (aM (aP p.es e.toNat).src 0).toNat).a.y=(lnP p e).1.y/\(aK p.sg (aM (aP p.es e.toNat).src 0).toNat).b.x=(lnP p e).2.x/\(aK p.sg (aM (aP p.es e.toNat).src 0).toNat).b.y=(lnP p e).2.y)) (by kernel_rfl) (by change PlOk p/\(0<=e/\e<p.es.length)at hp;obtain⟨P,H⟩:=hp;have h1:=P.at H;have:=P.le;have:=P.ls;refine⟨by unfold ix;omega,by unfold ix;omega,by unfold ix;omega,λh=> ?_,λh=> ?_⟩<;>(unfold lnP;simp[h]))
noncomputable def NY:Tab:=ap [(81,P0)] NW
def KK:NY.Ok aH:=aq KJ ⟨aBA,trivial⟩
noncomputable def Mp:Con:=con (ac aPl (a1 aI)) (λ(p,h)=>[PlOk p,HIn p h]) (λ(p,h)=>aV.enc (bL p h)
 )
def aAu:Mp.Ok aH 156:=bA (a7 KK) (raw:=au) (λ(_,_)=>[]) (λ(_,_)=>⟨_,rfl⟩) λ(p,h) hp=>aw (q:=(2:Int)≠0/\aG (bz h 2)/\PlOk p/\(0<=bz h 2/\bz h 2<p.es.length)/\(2:Int)≠0/\(dr h 2=0->bd 1000000000 (lnP p (bz h 2)).2/\bd 1000000000 (lnP p (bz h 2)).1/\(aDd (lnP p (bz h 2)).2 (lnP p (bz h 2)).1).x=(bL p h).x/\(aDd (lnP p (bz h 2)).2 (lnP p (bz h 2)).1).y=(bL p h).y)/\
 (¬dr h 2=0->bd 1000000000 (lnP p (bz h 2)).1/\bd 1000000000 (lnP p (bz h 2)).2/\(aDd (lnP p (bz h 2)).1 (lnP p (bz h 2)).2).x=(bL p h).x/\(aDd (lnP p (bz h 2)).1 (lnP p (bz h 2)).2).y=(bL p h).y)) (by kernel_rfl) (by
  change PlOk p/\HIn p h at hp;obtain⟨P,H⟩:=hp;have he:=H.e;obtain⟨h1,h2⟩:=BX P he;have:=P.le;have b1:=kO h1 (show(2000:Int)<=1000000000 by decide);have b2:=kO h2 (show(2000:Int)<=1000000000 by decide);refine⟨by decide,by unfold aG;omega,P,he,by decide,λh=>⟨b2,b1,?_⟩,λh=>⟨b1,b2,?_⟩⟩
  .unfold bL;rw[if_pos h];exact⟨rfl,rfl⟩
  .unfold bL;rw[if_neg h];exact⟨rfl,rfl⟩)
noncomputable def LQ:Tab:=ap [(156,Mp)] NY
def It:LQ.Ok aH:=aq KK ⟨aAu,trivial⟩
noncomputable def Mf:Con:=con (a1 aV) (λ_=>[]) (λv=> .int .i64 (dN v)
 )
def aAl:Mf.Ok aH 215:=bA (a7 It) (raw:=au) (λ_=>[]) (λ_=>⟨_,rfl⟩) λv _=>aw (q:=(0<v.y->0=dN v)/\
 (¬0<v.y->(v.y=0->(0<v.x->0=dN v)/\
   (¬0<v.x->1=dN v))/\
  (¬v.y=0->1=dN v))) (by kernel_rfl) (by
  unfold dN;grind)
noncomputable def Kn:Tab:=ap [(215,Mf)] LQ
def Ik:Kn.Ok aH:=aq It ⟨aAl,trivial⟩
noncomputable def Mq:Con:=con (ac aV (a1 aV)) (λ(a,b)=>[bd 1000000 a,bd 1000000 b]) (λ(a,b)=> .int .i64 (bg a b)
 )
def aAv:Mq.Ok aH 155:=bA (a7 Ik) (raw:=au) (λ(_,_)=>[]) (λ(_,_)=>⟨_,rfl⟩) λ(a,b) hp=>aw (q:=bd 1000000000 (⟨0,0⟩:V)/\bd 1000000000 a/\bd 1000000000 b/\aG (0-bZ (⟨0,0⟩:V) a b)/\[aDh (dN a) (dN b),0-bZ (⟨0,0⟩:V) a b].length<=1000/\orL [aDh (dN a) (dN b),0-bZ (⟨0,0⟩:V) a b] =bg a b) (by kernel_rfl) (by
 change bd 1000000 a/\bd 1000000 b at hp;obtain⟨h1,h2⟩:=hp;have ht: -1<=bZ ⟨0,0⟩ a b/\bZ ⟨0,0⟩ a b<=1:=by unfold bZ sgn;split<;>(try split)<;>omega
 refine⟨by unfold bd;decide,kO h1 (by decide),kO h2 (by decide),by unfold aG;omega,by simp,?_⟩;unfold bg orL orL orL;split<;>grind)
noncomputable def LR:Tab:=ap [(155,Mq)] Kn
def Iu:LR.Ok aH:=aq Ik ⟨aAv,trivial⟩
def aPp:Ar Pl where
 enc p:= .pro [.lst .S p.sg,.lst .T p.vs,.lst .E p.es,.lst .F p.fs] 0
 dec s:=match s with
  | .pro [a,b,c,d] 0=>(match iR .S a,iR .T b,iR .E c,iR .F d with|some x,some y,some z,some u=>some ⟨x,y,z,u⟩|_,_,_,_=>none)
  |_=>none
 ok s a h:=by
  split at h
  .split at h<;>cases h;rename_i h1 h2 h3 h4;simp only[SV.av,avs,i7 h1,i7 h2,i7 h3,i7 h4]
  .cases h
 pl _:=⟨_,rfl⟩
def cfH(p:Pl)(x y:Int):Int:=bg (bL p x) (bL p y)
noncomputable def Mn:Con:=con (ac aI (ac aI (a1 aPp))) (λ(x,y,p)=>[PlOk p,HIn p x,HIn p y]) (λ(x,y,p)=> .int .i64 (cfH p x y)
 )
def MW:Mn.Ok aH 193:=bA (a7 Iu) (raw:=au) (λ(_,_,_)=>[]) (λ(_,_,_)=>⟨_,rfl⟩) λ(x,y,p) hp=>aw (q:=PlOk p/\HIn p x/\PlOk p/\HIn p y/\bd 1000000 (bL p x)/\bd 1000000 (bL p y)/\bg (bL p x) (bL p y)=cfH p x y) (by kernel_rfl) (by change PlOk p/\HIn p x/\HIn p y at hp;obtain⟨P,h1,h2⟩:=hp;exact⟨P,h1,P,h2,kO (tV P h1) (by decide),kO (tV P h2) (by decide),rfl⟩)
noncomputable def K6:Tab:=ap [(193,Mn)] LR
def Ir:K6.Ok aH:=aq Iu ⟨MW,trivial⟩
noncomputable def Mg:Con:=con (ac aI (ac aV (a1 aPp))) (λ(x,d,p)=>[PlOk p,HIn p x,bd 1000000 d]) (λ(x,d,p)=> .int .i64 (bg (bL p x) d)
 )
def aAm:Mg.Ok aH 214:=bA (a7 Ir) (raw:=au) (λ(_,_,_)=>[]) (λ(_,_,_)=>⟨_,rfl⟩) λ(x,d,p) hp=>aw (q:=PlOk p/\HIn p x/\bd 1000000 (bL p x)/\bd 1000000 d/\bg (bL p x) d=bg (bL p x) d) (by kernel_rfl) (by change PlOk p/\HIn p x/\bd 1000000 d at hp;obtain⟨P,h1,h2⟩:=hp;exact⟨P,h1,kO (tV P h1) (by decide),h2,rfl⟩)
noncomputable def Kp:Tab:=ap [(214,Mg)] K6
def Il:Kp.Ok aH:=aq Ir ⟨aAm,trivial⟩
noncomputable def Mk:Con:=con (ac aI (ac aV (a1 aPp))) (λ(x,d,p)=>[PlOk p,HIn p x,bd 1000000 d]) (λ(x,d,p)=> .int .i64 (bg (bL p x) d)
 )
def aAq:Mk.Ok aH 195:=bA (a7 Il) (raw:=au) (λ(_,_,_)=>[]) (λ(_,_,_)=>⟨_,rfl⟩) λ(x,d,p) hp=>aw (q:=PlOk p/\HIn p x/\bd 1000000 (bL p x)/\bd 1000000 d/\bg (bL p x) d=bg (bL p x) d) (by kernel_rfl) (by change PlOk p/\HIn p x/\bd 1000000 d at hp;obtain⟨P,h1,h2⟩:=hp;exact⟨P,h1,kO (tV P h1) (by decide),h2,rfl⟩)
noncomputable def K3:Tab:=ap [(195,Mk)] Kp
def Io:K3.Ok aH:=aq Il ⟨aAq,trivial⟩
noncomputable def M4:Con:=con (a1 aI) (λ_=>[]) (λ_=> .bool true
 )
def aAJ:M4.Ok aH 115:=bA (a7 Io) (raw:=au) (λ_=>[]) (λ_=>⟨_,rfl⟩) λx _=>aw (q:=true=true) (by kernel_rfl) (by rfl)
noncomputable def Ly:Tab:=ap [(115,M4)] K3
def I6:Ly.Ok aH:=aq Io ⟨aAJ,trivial⟩
def lowK(p:Pl)(c:List Int):Nat->Int
 |0=>stP p (aM c 0)
 |k+1=>min (lowK p c k) (stP p (aM c k))
def bv(p:Pl)(c:List Int):Int:=lowK p c c.length
noncomputable def Mx:Con:=con (ac aPl (a1 (aL .I))) (λ(p,c)=>[PlOk p,0<c.length,c.length<=1000000,(∀h∈c,HIn p h)]) (λ(p,c)=> .int .i64 (bv p c))
def aAC:Mx.Ok aH 119:=bA (a7 I6) (raw:=au) (λ(p,c)=>[lp 3 15 c.length (λ_=>[]) [] (λk=>[(5,.int .i64 (lowK p c k))]) (λ_=>[])]
  ) (λ(_,_)=>⟨_,rfl⟩) λ(p,c) hp=>aw (q:=ix 0 c.length/\PlOk p/\HIn p (aM c 0)/\(0=(0:Int)/\stP p (aM c 0)=lowK p c 0/\(0:Nat)<=c.length)/\
 (∀x:Nat,x<=c.length->((x:Int)<c.length->ix (x:Int) c.length/\PlOk p/\HIn p (aM c x)/\aG ((x:Int)+1)/\(x:Int)+1=((x+1:Nat):Int)/\Min.min (lowK p c x) (stP p (aM c x))=lowK p c (x+1)/\x+1<=c.length/\c.length-(x+1)<c.length-x)/\
  (¬(x:Int)<c.length->lowK p c x=bv p c))) (by kernel_rfl) (by
  change PlOk p/\0<c.length/\c.length<=1000000/\((∀h∈c,HIn p h))at hp;obtain⟨P,h1,h2,h3⟩:=hp;have hm:∀k,k<c.length->HIn p (aM c k):=λk hk=>h3 _ (by rw[show aM c k=c[k]from cS hk];exact eR hk)
  refine⟨by unfold ix;omega,P,hm 0 h1,⟨rfl,rfl,by omega⟩,λx hx=>⟨λhl=>⟨by unfold ix;omega,P,hm x (by omega),by unfold aG;omega,by omega,rfl,by omega,by omega⟩,λhl=> ?_⟩⟩;obtain rfl:x=c.length:=by omega
  rfl)
noncomputable def Lv:Tab:=ap [(119,Mx)] Ly
def Yx:Lv.Ok aH:=aq I6 ⟨aAC,trivial⟩
def zc{α:Type}:∀(a:Ask α) (w:World),w.drawn<=(w.ask a).2.drawn
 | .done a,w=>az _
 | .ask what range k,w=>by
   unfold World.ask;dsimp only;split
   .exact zc _ w
   .exact ci (Df w.drawn) (zc (k _) {w with drawn:=w.drawn+1})
def E0(w:World)(c:Sys):w.drawn<=(w.sys c).2.drawn:=by have h:=zc (Kernel.perform c w.os) w;unfold World.sys;grind
def SS{p:Program}{w w':World}{at_:Addr}{u:TypeId}{k:Addr}{v:Value}{b:Bool}{l:List Addr}(h:w.viewStore p at_ u k v b= .ok (w',l)):w'.drawn=w.drawn:=by
 unfold World.viewStore at h;simp only[bind,Except.bind,pure,Except.pure]at h
 repeat' split at h
 all_goals first|(cases h;done)|skip
 all_goals (try cases h;try rfl)
def Result.drew{α:Type}(w:World):Result α->Prop
 | .ok _ w'=>w.drawn<=w'.drawn
 | .halt _ w'=>w.drawn<=w'.drawn
def vg{α:Type}(p:Program):∀(s:Sem α) (w:World),Result.drew w (s.run p w):=by
 intro s;induction s with
 |pure a=>intro w;exact az _
 |load m a k ih=>
  intro w;unfold eZ;split
  .exact ih _ w
  .split
   .exact ih _ w
   .exact az _
 |store m a v k ih=>
  intro w;have key:∀w1:World,w1.drawn=w.drawn->Result.drew w (k.run p w1):=by intro w1 h;have:=ih w1;revert this;generalize eZ p _ _=r;intro h2;cases r<;>(show w.drawn<=_;rw[<-h];exact h2)
  have h0:∀h,Result.drew (α:=α) w (.halt h w):=λ_=>az _;cases v<;>simp only[eZ];all_goals first|exact h0 _|skip
  all_goals
   split
   .split
    .exact h0 _
    .exact key _ rfl
   .split
    .rename_i h1;refine key _ ?_;unfold World.farStore at h1;split at h1
     .split at h1
      .rename_i h2;cases h1;exact SS h2
      .cases h1
     .cases h1
    .exact h0 _
 |new o k ih=>intro w;unfold eZ;exact ih _ _
 |shape r k ih=>intro w;unfold eZ;exact ih _ _
 |freeze a n k ih=>
  intro w;unfold eZ;have e:(w.freeze a n).drawn=w.drawn:=by unfold World.freeze;first|rfl|grind
  have:=ih (w.freeze a n);revert this;generalize eZ p _ _=r;intro h2;cases r<;>(show w.drawn<=_;rw[<-e];exact h2)
 |frozen a k ih=>intro w;unfold eZ;exact ih _ _
 |getObj r k ih=>
  intro w;unfold eZ;split
  .exact az _
  .exact ih _ _
  .exact az _
 |setObj r o k ih=>
  intro w;unfold eZ;split
  .exact az _
  .exact ih _
  .exact az _
 |choose q k ih=>
  intro w;unfold eZ;split
  .exact ih _ w
  .have:=ih (q.cut (w.tape w.drawn q)) {w with drawn:=w.drawn+1};revert this;generalize eZ p _ _=r;intro h;cases r<;>exact ci (Df _) h
 |sys c k ih=>
  intro w;unfold eZ;have:=ih (w.sys c).1 (w.sys c).2;have h2:=E0 w c;revert this;generalize eZ p _ _=r;intro h;cases r<;>exact ci h2 h
 |program k ih=>intro w;unfold eZ;exact ih _ _
 |mark m k ih=>intro w;unfold eZ;exact ih _
 |halt h=>intro w;exact az _
section
variable {p:Program}
def fj{α:Type}{s:Sem α}{w w':World}{a:α}(h:s.run p w= .ok a w'):w.drawn<=w'.drawn:=by have:=vg p s w;rw[h]at this;exact this
def kp{α:Type}{s:Sem α}{w w':World}{e:Halt}(h:s.run p w= .halt e w'):w.drawn<=w'.drawn:=by have:=vg p s w;rw[h]at this;exact this
def sj{α:Type}:∀(s:Sem α) (w:World) (es:Array Event),(s.runT p w es).1=s.run p w:=by simp_all
def Xo{α:Type}{s:Sem α}{w w':World}{a:α}{es es':Array Event}(h:s.runT p w es=(.ok a w',es')):w.drawn<=w'.drawn:=by have:=sj (p:=p) s w es;rw[h]at this;exact fj this.symm
def zG{α:Type}{s:Sem α}{w w':World}{e:Halt}{es es':Array Event}(h:s.runT p w es=(.halt e w',es')):w.drawn<=w'.drawn:=by have:=sj (p:=p) s w es;rw[h]at this;exact kp this.symm
def mD{α:Type}{s:Sem α}{w w':World}{a:α}{es:Array Event}(h:(s.runT p w es).1= .ok a w'):w.drawn<=w'.drawn:=fj ((sj s w es).symm.trans h)
def kM{α:Type}{s:Sem α}{w w':World}{e:Halt}{es:Array Event}(h:(s.runT p w es).1= .halt e w'):w.drawn<=w'.drawn:=kp ((sj s w es).symm.trans h)
def wd:GStep->Nat
 | .go _ w _=>w.drawn
 | .comm _ _ _ _ w _=>w.drawn
 | .spawn _ _ w _=>w.drawn
 | .count _ w _=>w.drawn
 | .timer _ _ w _=>w.drawn
 | .alone _ _ w _=>w.drawn
 | .newcoro _ _ _ w _=>w.drawn
 | .coroswitch _ _ _ w _=>w.drawn
 | .collect _ w _=>w.drawn
 | .watch _ w _=>w.drawn
 | .ended _ w _=>w.drawn
def oz(es:Array Event)(s:GStep):wd (s.after es)=wd s:=by cases s<;>rfl
def ww{c:Prop} [Decidable c]{a b:GStep}{n:Nat}(h1:n<=wd a)(h2:n<=wd b):n<=wd (if c then a else b):=by grind
def Dp(fr:Frame)(v:Value)(w:World):w.drawn<=wd (endPrinting p fr v w):=by unfold endPrinting;dsimp only;split<;>exact az _
def EO(fr:Frame)(cs:List Frame)(d:Option Dying)(m:String)(w:World):w.drawn<=wd (endFatal p fr cs d m w):=by
 unfold endFatal;dsimp only;split
 .exact fj (by assumption)
 .exact kp (by assumption)
 .exact kp (by assumption)
def T5(fd:Nat)(t:ByteArray)(o:Outcome)(w:World):w.drawn<=wd (endWith w fd t o):=by
 have h:=E0 w (.write fd t);unfold endWith;dsimp only;split
 .rename_i e;rw[e]at h;split<;>exact h
 .rename_i e;rw[e]at h;exact h
 .rename_i e;rw[e]at h;exact h
def TQ(fr:Frame)(d:Dying)(f:Fatal)(w:World):w.drawn<=wd (writeOn p fr d f w):=by
 unfold writeOn;dsimp only;split
 .exact az _
 .split
  .exact Xo (by assumption)
  .exact zG (by assumption)
  .exact zG (by assumption)
  .exact zG (by assumption)
def Zk(fr:Frame)(d:Dying)(w:World):w.drawn<=wd (die p fr d w):=by
 unfold die;split
 .exact TQ _ _ _ _
 .split
  .split
   .exact az _
   .exact T5 _ _ _ _
  .split
   .exact az _
   .split
    .exact fj (by assumption)
    .exact kp (by assumption)
   .rw[oz];split
    .rename_i heq;exact mD heq
    .rename_i heq;exact mD heq
    .rename_i heq;exact kM heq
    .rename_i heq;exact ci (kM heq) (Dp _ _ _)
    .exact az _
   .exact az _
def W6(fr:Frame)(cs:List Frame)(d:Option Dying)(g:Nat)(w:World):w.drawn<=wd (early p fr cs d g w):=by
 unfold early;dsimp only
 repeat' split
 all_goals first|exact az _|(have h:=fj ‹eZ p (choose (Question.early g)) w=vI _ _›;exact h)|exact kp ‹eZ p (choose (Question.early g)) w=Result.halt _ _›
def yw(main:Bool)(fr:Frame)(cs:List Frame)(d:Option Dying)(v:Value)(w:World):wd (doReturn p main fr cs d v w)=w.drawn:=by
 unfold doReturn
 repeat' split
 all_goals rfl
def SW(fr:Frame)(cs:List Frame)(d:Option Dying)(f:Deferred)(w:World):w.drawn<=wd (callDeferred p fr cs d f w):=by
 unfold callDeferred;refine ww ?_ ?_
 .exact az _
 .rw[oz];split;all_goals first
   |exact mD ‹_›
   |exact kM ‹_›
   |exact ci (kM ‹(Sem.runT p (invoke f.target f.args) w #[]).1=Result.halt _ _›) (EO _ _ _ _ _)
   |(split<;>exact mD ‹(Sem.runT p (invoke f.target f.args) w #[]).1=vI _ _›)
def UK(main:Bool)(fr:Frame)(cs:List Frame)(d:Option Dying)(w:World):w.drawn<=wd (unwind p main fr cs d w):=by
 unfold unwind;split
 .rw[oz];split
  .exact mD ‹_›
  .exact kM ‹_›
 .exact SW _ _ _ _ _
 .split
  .exact az _
  .split
   .exact az _
   .split
    .exact az _
    .split
     .split
      .exact az _
      .split
       .exact fj ‹_›
       .exact kp ‹_›
       .exact kp ‹_›
     .split
      .exact Dp _ _ _
      .exact az _
  .split
   .exact yX (yw _ _ _ _ _ _).symm
   .rw[oz];split
    .exact ci (mD ‹_›) (yX (yw _ _ _ _ _ _).symm)
    .exact kM ‹_›
    .exact kM ‹_›
def wN(listen:Bool)(fr:Frame)(cs:List Frame)(d:Option Dying)(s:Sem Next)(w:World):w.drawn<=wd (stepG.apply p listen fr cs d s w):=by
 unfold stepG.apply;have hr:Result.drew w (if listen=true then s.runT p w #[]else(s.run p w, #[])).1:=by
  split
  .rw[sj];exact vg _ _ _
  .exact vg _ _ _
 rw[oz];generalize (if listen=true then s.runT p w #[]else(s.run p w, #[])).1=r at hr|-;cases r with
 |ok a w'=>
  cases a;all_goals (try exact hr)
  all_goals (dsimp only;repeat' split)
  all_goals exact hr
 |halt e w'=>
  cases e with
  |unsupported u=>cases u<;>first|exact hr|exact ci hr (W6 _ _ _ _ _)
  |fatal m=>exact ci hr (EO _ _ _ _ _)
  |_=>exact hr
def Xy(listen:Bool)(fr:Frame)(cs:List Frame)(d:Option Dying)(w:World):w.drawn<=wd (stepG.oper p listen fr cs d w):=by
 unfold stepG.oper;split
 .exact az _
 .split<;>exact wN _ _ _ _ _ _
def YT(main:Bool)(listen:Bool)(fr:Frame)(cs:List Frame)(d:Option Dying)(w:World):w.drawn<=wd (stepG.exec p main listen fr cs d w):=by
 have hleave:∀jump:Option Code,w.drawn<=wd (match fr.roundOf with
   |none=>if jump matches none|some .ret then GStep.go {frame:={fr with mode:= .returning},callers:=cs,status:= .running,dying:=d} w else .ended (.stuck "exit, goto: no such block or label" (fr.pos p)) w
   |some l=>GStep.after (seen p fr.fn ((Instr.endRound l jump).runT p w #[]).2)<|match((Instr.endRound l jump).runT p w #[]).1 with
    | .ok v w=>doReturn p main fr cs d v w
    | .halt _ w=> .ended (.stuck "range over a function: no such loop" (fr.pos p)) w):=by
  intro jump;split
  .refine ww ?_ ?_<;>exact az _
  .rw[oz];split
   .exact ci (mD ‹_›) (yX (yw _ _ _ _ _ _).symm)
   .exact kM ‹_›
 unfold stepG.exec;dsimp only;split;all_goals (try exact az _)
 all_goals (try exact hleave _)
 all_goals (try exact wN _ _ _ _ _ _)
 all_goals (try exact hleave none)
 all_goals (try exact hleave (some .ret))
 .split<;>exact az _
 .cases exitTo _ _
  .exact hleave (some (.exit _))
  .exact az _
 .cases gotoIn _ _
  .exact hleave (some (.goto _))
  .exact az _
 .rw[oz];split
  .exact ci (mD ‹_›) (wN _ _ _ _ _ _)
  .exact kM ‹_›
 .split
  .exact mD ‹_›
  .exact kM ‹_›
  .exact kM ‹_›
 .cases Extern.next _
  .exact az _
  .exact wN _ _ _ _ _ _
 .refine ww (az _) ?_;split
  .exact fj ‹_›
  .exact kp ‹_›
 .exact ww (Xy _ _ _ _ _) (az _)
def Vv(main:Bool)(g:Goroutine)(w:World)(listen:Bool):w.drawn<=wd (stepG p main g w listen):=by
 unfold stepG;split;split
 .exact Zk _ _ _
 .exact YT _ _ _ _ _ _
 .exact UK _ _ _ _ _
def sd(n:Nat):Stepped->Prop
 | .next m=>n<=m.world.drawn
 | .ended _ _=>True
def H4(gs:Array Goroutine)(rest:Rest)(w:World):sd w.drawn (look p gs rest w):=by
 unfold look;split
 .dsimp only
  repeat' split
  all_goals first|exact trivial|skip
  all_goals (have h:=fj (p:=p) (w:=w) (by assumption);exact h)
 .exact trivial
def TR{rest:Rest}{cases:Array CommCase}{w w':World}(h:waitingAt rest cases w=some w'):w.drawn<=w'.drawn:=by unfold waitingAt at h;grind
def Yg(rest:Rest)(gs:Array Goroutine)(i:Nat)(g:Goroutine)(cases:Array CommCase)(b:Bool)(shape:CommShape)(w:World):sd w.drawn (communicate p rest gs i g cases b shape w).1:=by
 unfold communicate;dsimp only
 repeat' split
 all_goals first
  |exact trivial
  |exact az _
  |exact TR ‹_›
  |(have h:=fj (p:=p) (w:=w) (by assumption);first
     |exact h
     |(have h2:=kp (p:=p) ‹eZ p (runtimePanic (RuntimeError.plain "send on closed channel")) _=Result.halt _ _›;exact ci h h2)
     |(have h2:=fj (p:=p) ‹eZ p (choose (Question.extern "which waiting goroutine is the partner" _)) _=vI _ _›;exact ci h h2))
def W7(w:World)(c:Nat):(drain w c).2.drawn=w.drawn:=by unfold drain;split<;>rfl
def FE(m:Machine)(k:Nat)(t:Timer)(a b:Nat):(retime m k t a b).2.world.drawn=m.world.drawn:=by
 unfold retime;cases t.chan with
 |none=>rfl
 |some c=>exact W7 _ _
def Ur{m m':Machine}{v:Addr}(h:timerOp.opened m v=some m'):m'.world.drawn=m.world.drawn:=by unfold timerOp.opened at h;grind
def GM{m m':Machine}{var:Addr}{f:Nat->Timer->Value×Machine}{v:Value}{n:Nat}(hf:∀k t,(f k t).2.world.drawn=n)(h:timerOp.named m var f= .ok (v,m')):m'.world.drawn=n:=by unfold timerOp.named at h;grind
def TV{m m':Machine}{op:TimerOp}{v:Value}(h:timerOp m op= .ok (v,m')):m'.world.drawn=m.world.drawn:=by
 unfold timerOp at h;split at h
 .split at h
  .cases h;rfl
  grind
 .exact GM (λk t=>FE _ _ _ _ _) h
 .split at h
  .rename_i ho;exact(GM (λk t=>FE _ _ _ _ _) h).trans (Ur ho)
  .cases h
 .cases h;rfl
def Xn(m:Machine)(i:Nat)(listen:Bool):sd m.world.drawn (runT p m i listen).1:=by
 unfold runT;generalize (m.gs.swapAt! i {(default:Goroutine)with status:= .finished})=q;obtain⟨g,gs⟩:=q;dsimp only;have hs:=Vv (p:=p) (i==0) g m.world listen;generalize stepG p (i==0) g m.world listen=s at hs|-;cases s with
 |ended o w es=>exact trivial
 |comm g cases b shape w es=>
  have:=Yg (p:=p) m.rest gs i g cases b shape w;revert this;generalize (communicate p m.rest gs i g cases b shape w).1=r;intro h;cases r with
  |next m'=>exact ci hs h
  |ended _ _=>exact trivial
 |go g w es=>exact hs
 |spawn g c w es=>exact hs
 |count g w es=>
  dsimp only;split
  .exact trivial
  .exact hs
 |alone g on w es=>exact hs
 |collect g w es=>
  have:=H4 (p:=p) (gs.setIfInBounds i g) m.rest w;dsimp only;revert this;generalize look p (gs.setIfInBounds i g) m.rest w=r;intro h;cases r with
  |next m'=>exact ci hs h
  |ended _ _=>exact trivial
 |watch g w es=>exact hs
 |newcoro g c d w es=>exact hs
 |coroswitch g c exit w es=>
  dsimp only;split
  .exact hs
  .exact hs
  .exact trivial
 |timer g op w es=>
  dsimp only;split
  .rename_i h;exact ci hs (yX (TV h).symm)
  .exact hs
  .exact trivial
  .exact trivial
def md(n:Nat):Move->Prop
 | .goroutine m _=>n<=m.world.drawn
 | .machine s _=>sd n s
def WA(m:Machine)(k:Nat):sd m.world.drawn (serve p m k):=by
 unfold serve;split
 .exact trivial
 .exact az _
 .dsimp only;split
  .exact trivial
  .exact az _
def CK{a b:Nat}{x:Move}(h:a<=b)(hx:md b x):md a x:=by
 cases x with
 |goroutine m i=>exact ci h hx
 |machine s ops=>cases s with
  |next m=>exact ci h hx
  |ended _ _=>exact trivial
def AT(m:Machine):md m.world.drawn (askOn p m):=by
 unfold askOn;dsimp only
 repeat' split
 all_goals first
  |exact trivial
  |(have h:=fj (p:=p) (w:=m.world) (by assumption);first
     |exact h
     |exact CK h (WA (p:=p) _ _)
     |exact ci h (fj (p:=p) (by assumption))
     |exact ci h (ci (fj (p:=p) (by assumption)) (fj (p:=p) (by assumption)))
     |exact ci h (ci (fj (p:=p) (by assumption)) (ci (fj (p:=p) (by assumption)) (fj (p:=p) (by assumption))))
     |(have h2:=fj (p:=p) ‹eZ p (choose (Question.extern "clock.wait" _)) _=vI _ _›;first
        |exact ci h h2
        |(have h3:=fj (p:=p) ‹eZ p (choose (Question.sched _)) _=vI _ _›;first
           |exact ci h (ci h2 h3)
           |(have h4:=fj (p:=p) ‹eZ p (choose (Question.extern "sched.slice" _)) _=vI _ _›;exact ci h (ci h2 (ci h3 h4))))))
  |skip
def J7(m:Machine):md m.world.drawn (ask p m):=by
 unfold ask;split
 .split
  .exact trivial
  .rename_i w1 h1;have h2:=H4 (p:=p) m.gs m.rest w1;have h1:=fj h1;split
   .rename_i h3;rw[h3]at h2;exact CK (ci h1 h2) (AT _)
   .cases hl:look p m.gs m.rest w1 with
    |next m'=>grind
    |ended _ _=>exact trivial
  .rename_i h1;exact CK (fj h1) (AT _)
 .exact AT m
def X5(m:Machine):md m.world.drawn (move p m):=by
 unfold move;split
 .split
  .exact az _
  .exact trivial
 .split
  .split
   .exact az _
   .exact J7 _
  .exact J7 _
def TW{m m':Machine}(h:step p m= .next m'):m.world.drawn<=m'.world.drawn:=by
 have hm:=X5 (p:=p) m;unfold step stepT at h;cases hv:move p m with
 |goroutine m1 i=>
  rw[hv]at hm h;have:=Xn (p:=p) m1 i true;rw[h]at this;exact ci hm this
 |machine s ops=>
  rw[hv]at hm h;dsimp only at h;rw[h]at hm;exact hm
def y3:∀(n:Nat) {m m':Machine},runN p n m= .next m'->m.world.drawn<=m'.world.drawn
 |0,m,m',h=>by cases h;omega
 |n+1,m,m',h=>by
  unfold runN at h;split at h
  .rename_i m1 h1;exact ci (TW h1) (y3 n h)
  grind
def ET{f:FuncId}{args:Array Value}{w:World}{R:Ending->World->Prop}(h:Calls p f args w R)(hn:∀w',¬R .outgrown w'):Calls p f args w λe w'=>R e w'/\w.drawn<=w'.drawn:=by
 intro cs;obtain⟨e,w',fr,h1,h2,h3⟩:=h cs;refine⟨e,w',fr,⟨h1,?_⟩,h2,h3⟩;cases e with
 |returned v=>obtain⟨n,hn⟩:=h2;exact y3 n hn
 |panicked c=>obtain⟨n,hn⟩:=h2;exact y3 n hn
 |outgrown=>grind
end
end Go.Proofs.YtdnhebjljnfjaaaGreat
namespace Go.Proofs
open Go.Shelf
def Tryz.sort192_ren:Go.Shelf.Ren:=⟨λ|6=>192|15=>109|14=>242|28=>181|29=>182|20=>265|21=>266|22=>267|23=>268|24=>269|25=>270|26=>271|27=>272|46=>280|47=>235|48=>236|49=>281|50=>282|57=>285|n=>n,λ|22=>43|24=>3|25=>107|3=>3|39=>164|0=>0|53=>190|55=>140|4=>4|46=>215|45=>214|50=>102|5=>5|9=>9|66=>255|70=>259|76=>275|77=>50|n=>n,λ|n=>n⟩
def Tryz.sort192:Go.Proofs.SlLaysF.n6 aH Tryz.sort192_ren:={
 mixed:=by kernel_rfl
 f6:=⟨Tryz.f192.name,by decide,Tryz.func192.trans (congrArg some (by kernel_rfl))⟩
 f14:=⟨Tryz.f242.name,by decide,Tryz.func242.trans (congrArg some (by kernel_rfl))⟩
 f15:=Tryz.func109.trans (congrArg some (by kernel_rfl))
 f20:=⟨Tryz.f265.name,by decide,Tryz.func265.trans (congrArg some (by kernel_rfl))⟩
 f21:=⟨Tryz.f266.name,by decide,Tryz.func266.trans (congrArg some (by kernel_rfl))⟩
 f22:=⟨Tryz.f267.name,by decide,Tryz.func267.trans (congrArg some (by kernel_rfl))⟩
 f23:=⟨Tryz.f268.name,by decide,Tryz.func268.trans (congrArg some (by kernel_rfl))⟩
 f24:=⟨Tryz.f269.name,by decide,Tryz.func269.trans (congrArg some (by kernel_rfl))⟩
 f25:=⟨Tryz.f270.name,by decide,Tryz.func270.trans (congrArg some (by kernel_rfl))⟩
 f26:=⟨Tryz.f271.name,by decide,Tryz.func271.trans (congrArg some (by kernel_rfl))⟩
 f27:=⟨Tryz.f272.name,by decide,Tryz.func272.trans (congrArg some (by kernel_rfl))⟩
 f28:=Tryz.func181.trans (congrArg some (by kernel_rfl))
 f29:=Tryz.func182.trans (congrArg some (by kernel_rfl))
 f46:=⟨Tryz.f280.name,by decide,Tryz.func280.trans (congrArg some (by kernel_rfl))⟩
 f47:=Tryz.func235.trans (congrArg some (by kernel_rfl))
 f48:=Tryz.func236.trans (congrArg some (by kernel_rfl))
 f49:=⟨Tryz.f281.name,by decide,Tryz.func281.trans (congrArg some (by kernel_rfl))⟩
 f50:=⟨Tryz.f282.name,by decide,Tryz.func282.trans (congrArg some (by kernel_rfl))⟩
 f57:=⟨Tryz.f285.name,by decide,Tryz.func285.trans (congrArg some (by kernel_rfl))⟩
 t0:=Tryz.underlying0
 a0:=Tryz.isAgg0
 z0:=Tryz.sizeOf0
 v0:=Tryz.zeroValue0
 t3:=sB
 a3:=vA
 z3:=yS
 v3:=Tryz.zeroValue3
 t4:=Dg
 a4:=Tryz.isAgg4
 z4:=Tryz.sizeOf4
 v4:=Tryz.zeroValue4
 t5:=yY
 a5:=Tryz.isAgg5
 z5:=Tryz.sizeOf5
 v5:=Tryz.zeroValue5
 t9:=Tryz.underlying9
 a9:=Tryz.isAgg9
 z9:=Tryz.sizeOf9
 v9:=Tryz.zeroValue9
 t22:=Tryz.underlying43
 a22:=Tryz.isAgg43
 z22:=Tryz.sizeOf43
 v22:=Tryz.zeroValue43
 a24:=vA
 z24:=yS
 t25:=Tryz.underlying107
 a25:=Tryz.isAgg107
 z25:=Tryz.sizeOf107
 v25:=Tryz.zeroValue107
 t39:=Rs
 a39:=Tryz.isAgg164
 z39:=Tryz.sizeOf164
 v39:=Rt
 t45:=Ru
 a45:=Tryz.isAgg214
 z45:=Tryz.sizeOf214
 v45:=Rv
 t46:=Rw
 a46:=Tryz.isAgg215
 z46:=Tryz.sizeOf215
 v46:=Rx
 t50:=Ry
 a50:=Tryz.isAgg102
 z50:=Tryz.sizeOf102
 v50:=Rz
 t53:=R0
 a53:=Tryz.isAgg190
 z53:=Tryz.sizeOf190
 v53:=R3
 t55:=R4
 a55:=Tryz.isAgg140
 z55:=Tryz.sizeOf140
 v55:=R6
 t66:=R7
 a66:=Tryz.isAgg255
 z66:=Tryz.sizeOf255
 v66:=R8
 t70:=R9
 a70:=Tryz.isAgg259
 z70:=Tryz.sizeOf259
 v70:=SA
 t76:=SB
 a76:=Tryz.isAgg275
 z76:=Tryz.sizeOf275
 v76:=SC
 t77:=SD
 a77:=Tryz.isAgg50
 z77:=Tryz.sizeOf50
 v77:=Tryz.zeroValue50}
def Tryz.sort46_ren:Go.Shelf.Ren:=⟨λ|6=>46|15=>109|14=>108|28=>181|29=>182|20=>173|21=>174|22=>175|23=>176|24=>177|25=>178|26=>179|27=>180|46=>234|47=>235|48=>236|49=>237|50=>238|57=>263|n=>n,λ|22=>25|24=>60|25=>99|3=>3|39=>164|0=>0|53=>190|55=>140|4=>4|46=>215|45=>214|50=>102|5=>5|9=>9|66=>255|70=>259|76=>275|77=>50|n=>n,λ|n=>n⟩
def Tryz.sort46:Go.Proofs.SlLaysF0.n6 aH Tryz.sort46_ren:={
 mixed:=by kernel_rfl
 f6:=⟨Tryz.f46.name,by decide,Tryz.func46.trans (congrArg some (by kernel_rfl))⟩
 f14:=⟨Tryz.f108.name,by decide,Tryz.func108.trans (congrArg some (by kernel_rfl))⟩
 f15:=Tryz.func109.trans (congrArg some (by kernel_rfl))
 f20:=⟨Tryz.f173.name,by decide,Tryz.func173.trans (congrArg some (by kernel_rfl))⟩
 f21:=⟨Tryz.f174.name,by decide,Tryz.func174.trans (congrArg some (by kernel_rfl))⟩
 f22:=⟨Tryz.f175.name,by decide,Tryz.func175.trans (congrArg some (by kernel_rfl))⟩
 f23:=⟨Tryz.f176.name,by decide,Tryz.func176.trans (congrArg some (by kernel_rfl))⟩
 f24:=⟨Tryz.f177.name,by decide,Tryz.func177.trans (congrArg some (by kernel_rfl))⟩
 f25:=⟨Tryz.f178.name,by decide,Tryz.func178.trans (congrArg some (by kernel_rfl))⟩
 f26:=⟨Tryz.f179.name,by decide,Tryz.func179.trans (congrArg some (by kernel_rfl))⟩
 f27:=⟨Tryz.f180.name,by decide,Tryz.func180.trans (congrArg some (by kernel_rfl))⟩
 f28:=Tryz.func181.trans (congrArg some (by kernel_rfl))
 f29:=Tryz.func182.trans (congrArg some (by kernel_rfl))
 f46:=⟨Tryz.f234.name,by decide,Tryz.func234.trans (congrArg some (by kernel_rfl))⟩
 f47:=Tryz.func235.trans (congrArg some (by kernel_rfl))
 f48:=Tryz.func236.trans (congrArg some (by kernel_rfl))
 f49:=⟨Tryz.f237.name,by decide,Tryz.func237.trans (congrArg some (by kernel_rfl))⟩
 f50:=⟨Tryz.f238.name,by decide,Tryz.func238.trans (congrArg some (by kernel_rfl))⟩
 f57:=⟨Tryz.f263.name,by decide,Tryz.func263.trans (congrArg some (by kernel_rfl))⟩
 t0:=Tryz.underlying0
 a0:=Tryz.isAgg0
 z0:=Tryz.sizeOf0
 v0:=Tryz.zeroValue0
 t3:=sB
 a3:=vA
 z3:=yS
 v3:=Tryz.zeroValue3
 t4:=Dg
 a4:=Tryz.isAgg4
 z4:=Tryz.sizeOf4
 v4:=Tryz.zeroValue4
 t5:=yY
 a5:=Tryz.isAgg5
 z5:=Tryz.sizeOf5
 v5:=Tryz.zeroValue5
 t9:=Tryz.underlying9
 a9:=Tryz.isAgg9
 z9:=Tryz.sizeOf9
 v9:=Tryz.zeroValue9
 t22:=Tryz.underlying25
 a22:=Tryz.isAgg25
 z22:=Tryz.sizeOf25
 v22:=Tryz.zeroValue25
 t25:=Tryz.underlying99
 a25:=Tryz.isAgg99
 z25:=Tryz.sizeOf99
 v25:=Tryz.zeroValue99
 t39:=Rs
 a39:=Tryz.isAgg164
 z39:=Tryz.sizeOf164
 v39:=Rt
 t45:=Ru
 a45:=Tryz.isAgg214
 z45:=Tryz.sizeOf214
 v45:=Rv
 t46:=Rw
 a46:=Tryz.isAgg215
 z46:=Tryz.sizeOf215
 v46:=Rx
 t50:=Ry
 a50:=Tryz.isAgg102
 z50:=Tryz.sizeOf102
 v50:=Rz
 t53:=R0
 a53:=Tryz.isAgg190
 z53:=Tryz.sizeOf190
 v53:=R3
 t55:=R4
 a55:=Tryz.isAgg140
 z55:=Tryz.sizeOf140
 v55:=R6
 t66:=R7
 a66:=Tryz.isAgg255
 z66:=Tryz.sizeOf255
 v66:=R8
 t70:=R9
 a70:=Tryz.isAgg259
 z70:=Tryz.sizeOf259
 v70:=SA
 t76:=SB
 a76:=Tryz.isAgg275
 z76:=Tryz.sizeOf275
 v76:=SC
 t77:=SD
 a77:=Tryz.isAgg50
 z77:=Tryz.sizeOf50
 v77:=Tryz.zeroValue50}
def Tryz.sort50_ren:Go.Shelf.Ren:=⟨λ|6=>50|15=>109|14=>113|28=>181|29=>182|20=>184|21=>185|22=>186|23=>187|24=>188|25=>189|26=>190|27=>191|46=>239|47=>235|48=>236|49=>240|50=>241|57=>264|n=>n,λ|22=>26|24=>45|25=>108|3=>3|39=>164|0=>0|53=>190|55=>140|4=>4|46=>215|45=>214|50=>102|5=>5|9=>9|66=>255|70=>259|76=>275|77=>50|n=>n,λ|n=>n⟩
def Tryz.sort50:Go.Proofs.SlLaysF0.n6 aH Tryz.sort50_ren:={
 mixed:=by kernel_rfl
 f6:=⟨Tryz.f50.name,by decide,Tryz.func50.trans (congrArg some (by kernel_rfl))⟩
 f14:=⟨Tryz.f113.name,by decide,Tryz.func113.trans (congrArg some (by kernel_rfl))⟩
 f15:=Tryz.func109.trans (congrArg some (by kernel_rfl))
 f20:=⟨Tryz.f184.name,by decide,Tryz.func184.trans (congrArg some (by kernel_rfl))⟩
 f21:=⟨Tryz.f185.name,by decide,Tryz.func185.trans (congrArg some (by kernel_rfl))⟩
 f22:=⟨Tryz.f186.name,by decide,Tryz.func186.trans (congrArg some (by kernel_rfl))⟩
 f23:=⟨Tryz.f187.name,by decide,Tryz.func187.trans (congrArg some (by kernel_rfl))⟩
 f24:=⟨Tryz.f188.name,by decide,Tryz.func188.trans (congrArg some (by kernel_rfl))⟩
 f25:=⟨Tryz.f189.name,by decide,Tryz.func189.trans (congrArg some (by kernel_rfl))⟩
 f26:=⟨Tryz.f190.name,by decide,Tryz.func190.trans (congrArg some (by kernel_rfl))⟩
 f27:=⟨Tryz.f191.name,by decide,Tryz.func191.trans (congrArg some (by kernel_rfl))⟩
 f28:=Tryz.func181.trans (congrArg some (by kernel_rfl))
 f29:=Tryz.func182.trans (congrArg some (by kernel_rfl))
 f46:=⟨Tryz.f239.name,by decide,Tryz.func239.trans (congrArg some (by kernel_rfl))⟩
 f47:=Tryz.func235.trans (congrArg some (by kernel_rfl))
 f48:=Tryz.func236.trans (congrArg some (by kernel_rfl))
 f49:=⟨Tryz.f240.name,by decide,Tryz.func240.trans (congrArg some (by kernel_rfl))⟩
 f50:=⟨Tryz.f241.name,by decide,Tryz.func241.trans (congrArg some (by kernel_rfl))⟩
 f57:=⟨Tryz.f264.name,by decide,Tryz.func264.trans (congrArg some (by kernel_rfl))⟩
 t0:=Tryz.underlying0
 a0:=Tryz.isAgg0
 z0:=Tryz.sizeOf0
 v0:=Tryz.zeroValue0
 t3:=sB
 a3:=vA
 z3:=yS
 v3:=Tryz.zeroValue3
 t4:=Dg
 a4:=Tryz.isAgg4
 z4:=Tryz.sizeOf4
 v4:=Tryz.zeroValue4
 t5:=yY
 a5:=Tryz.isAgg5
 z5:=Tryz.sizeOf5
 v5:=Tryz.zeroValue5
 t9:=Tryz.underlying9
 a9:=Tryz.isAgg9
 z9:=Tryz.sizeOf9
 v9:=Tryz.zeroValue9
 t22:=Tryz.underlying26
 a22:=Tryz.isAgg26
 z22:=Tryz.sizeOf26
 v22:=Tryz.zeroValue26
 t25:=Tryz.underlying108
 a25:=Tryz.isAgg108
 z25:=Tryz.sizeOf108
 v25:=Tryz.zeroValue108
 t39:=Rs
 a39:=Tryz.isAgg164
 z39:=Tryz.sizeOf164
 v39:=Rt
 t45:=Ru
 a45:=Tryz.isAgg214
 z45:=Tryz.sizeOf214
 v45:=Rv
 t46:=Rw
 a46:=Tryz.isAgg215
 z46:=Tryz.sizeOf215
 v46:=Rx
 t50:=Ry
 a50:=Tryz.isAgg102
 z50:=Tryz.sizeOf102
 v50:=Rz
 t53:=R0
 a53:=Tryz.isAgg190
 z53:=Tryz.sizeOf190
 v53:=R3
 t55:=R4
 a55:=Tryz.isAgg140
 z55:=Tryz.sizeOf140
 v55:=R6
 t66:=R7
 a66:=Tryz.isAgg255
 z66:=Tryz.sizeOf255
 v66:=R8
 t70:=R9
 a70:=Tryz.isAgg259
 z70:=Tryz.sizeOf259
 v70:=SA
 t76:=SB
 a76:=Tryz.isAgg275
 z76:=Tryz.sizeOf275
 v76:=SC
 t77:=SD
 a77:=Tryz.isAgg50
 z77:=Tryz.sizeOf50
 v77:=Tryz.zeroValue50}
end Go.Proofs
namespace Go.Proofs.YtdnhebjljnfjaaaGreat
end Go.Proofs.YtdnhebjljnfjaaaGreat
