/- What the statement stands on: contracts of functions, plain laws. Part 4 of 7, no condition of its own. (X11 N25 X13 X8 X9 X10 Shelf2 L1 K1 K2 K3 K4 K5 K6 K7 K8 K9 K10 J1 K11 K12) -/
import Derived.Test.YthbofdolalagjaaGreatCS3
import Derived.ChangeKeysEq
import Derived.Shelf.SlSortCmp.NoneTotal
import Derived.Shelf.SlicesE.DeleteFunc
import Derived.Ground.SlsfProg
import Derived.Ground.SlgfProg
import Derived.Lib.SliceRun
import Derived.Lib.AppendZerosOnto
set_option linter.all false
set_option maxRecDepth 100000
set_option maxHeartbeats 8000000
open Nat renaming blt->i5,beq->bF,ne_of_beq_eq_false->mZ,eq_of_beq_eq_true->dN,le_refl->bZ,zero_add->kN,lt_or_ge->oZ,ne_of_gt->oh,ble->nQ,zero_le->kK,le_of_ble_eq_true->qB,le_trans->cL,mod_lt->bz,gcd->bB,gcd_comm->zm,eq_zero_or_pos->qz,sub_self->DO,mul_le_mul->nP,le_antisymm->ui
open List renaming map_cons->dX,lookup_cons->dY,getD_eq_getElem?_getD->eI,lookup->iU,range->bM,length_set->zf,mem_cons_self->cI,mem_cons_of_mem->cG,mem_cons->bI,getElem?_eq_none->mY,mem_singleton->bn,mem_append->bl,take_left->Dc,mem_map->bR,mem_filterMap->I8,map_map->dU,mem_append_left->ig,mem_append_right->gq,length->eQ,length_map->di,map_nil->po,replicate->cl,getElem?_map->gr,getElem?_eq_getElem->dw,all_eq_true->bh,length_filter_le->TK,take_add_one->l0,foldl_append->zh,take->aU,drop->db,take_of_length_le->iV,take_length->si,range_succ->q8,map_append->dM,sum_append->uU,getElem_of_mem->jS,mem_range->cD,ext_getElem->uT,length_append->fM,all_eq_false->ug,any_eq_true->jd,any_eq_false->zn,flatten_append->uh,take_succ_eq_append_getElem->mc,any->fh,flatten->fk,all->mf
open Option renaming some.inj->nT,map_some->eJ
open Go.Sem renaming run->gF,run_bind->cr,run_pure->da
open Go.Proofs.Tryz renaming prog->bH,isAgg3->xG,underlying3->xF,sizeOf3->zd,underlying4->JC
open Go.Op renaming equalIn->uY
open Go.Value renaming int->cg
open Go.Result renaming andThen_ok->dB
open Bool renaming eq_iff_iff->fL,not_true->mS,false_eq_true->lN,and_eq_true->bj,or_eq_true->jQ
open Go.Instr renaming checkKey->zX
open Int renaming mul_nonneg->cJ,natAbs->cM,tmod->cZ,natAbs_tmod->zl,tdiv->eK
open And renaming intro->br
open Decidable renaming of_not_not->sk,not_not->S5
open Go.IntKind renaming i64->jV
open Go.RowKit
open Go.Proofs.YthbofdolalagjaaGreat.Geo
open Go.Proofs.YthbofdolalagjaaGreat.Geo renaming sub->aFJ,fE->aFK,nth->aFG,V->aFH,Tab->aFM
namespace Go.Proofs.YthbofdolalagjaaGreat
section
noncomputable section
def yv(N x s z:Nat):Bool:=match i5 (ncl z) N,bF z s,bF z x with
 |true,false,false=>true
 |_,_,_=>false
def yd(N x s:Nat)(v:SV):Bool:=match v with
 | .owF y _=>(match i5 (ncl y) N,bF y s with|true,false=>true|_,_=>false)
 |v=>fF (yv N x s) v.sites
def m9(N x s:Nat)(v:SV):Bool:=match v with
 | .agg l=>fF (yd N x s) l
 |v=>yd N x s v
def CD(N x s y:Nat)(ob:SOb):Bool:=match yv N x s y with
 |true=>(match ob with
  | .box _ cs=>fF (m9 N x s) cs
  | .arr _ _ cs=>fF (m9 N x s) cs
  | .row .. =>true
  | .mp _=>true
  | .fam _ _ _ _ ov=>fF (λq:Nat×SV=>m9 N x s q.2) ov)
 |false=>false
open Classical in
def lI(N x a s:Nat):Rf:=λt=>if cls t<N then(if t=inn x (a+1)then some (some (aO s))else if t=aO s then none else some (some t))else none
def BB{N x s z:Nat}(h:yv N x s z=true):ncl z<N/\z≠s/\z≠x:=by
 unfold yv at h;split at h
 .rename_i h1 h2 h3;exact⟨(kT _ _).1 h1,mZ h2,mZ h3⟩
 .cases h
def MN{N x a s t:Nat}(h1:cls t<N)(h2:t≠inn x (a+1))(h3:t≠aO s):lI N x a s t=some (some t):=by unfold lI;grind
def AT{N x a s z:Nat}(h1:ncl z<N)(h2:z≠s):lI N x a s (aO z)=some (some (aO z)):=
 MN (by rw[show cls (aO z)=ncl z from fO z 0];exact h1) (λe=>by have:=(fJ e).2;omega) (λe=>h2 (l8 e))
def xh{N x a s z b:Nat}(h1:ncl z<N)(h2:z=x->b≠a):lI N x a s (inn z (b+1))=some (some (inn z (b+1))):=
 MN (by rw[fO];exact h1) (λe=>h2 (fJ e).1 (by have:=(fJ e).2;omega)) (λe=>by have:=(fJ e).2;omega)
def Vj{N x a s z:Nat}(h:yv N x s z=true):wf (lI N x a s) z:=by
 obtain⟨h1,h2,h3⟩:=BB h;intro b;cases b with
 |zero=>exact AT h1 h2
 |succ b=>exact xh h1 (by grind)
def Kf{N x a s:Nat}{v:SV}(h:yd N x s v=true):fw (lI N x a s) v.av v.av:=by
 unfold yd at h;split at h
 .rename_i y n;split at h
  .rename_i h1 h2;exact .inl ⟨_,AT ((kT _ _).1 h1) (mZ h2),rfl⟩
  .cases h
 .exact Am v λz hz=>Vj (iG h z hz)
def Jy{N x a s:Nat}:∀{cs:List SV},(∀v∈cs,yd N x s v=true)->fm (lI N x a s) (avs cs) (avs cs)
 |[],_=>by rfl
 |v::cs,h=>by
  exact⟨_,_,rfl,Kf (by grind),Jy (by grind)⟩
def BC{N x a s:Nat}{v:SV}(h:m9 N x s v=true):fw (lI N x a s) v.av v.av:=by
 unfold m9 at h;split at h
 .exact As (Jy (iG h))
 .exact Kf h
def ET{N x a s:Nat}:∀{cs:List SV},(∀v∈cs,m9 N x s v=true)->fm (lI N x a s) (avs cs) (avs cs)
 |[],_=>by rfl
 |v::cs,h=>by
  exact⟨_,_,rfl,BC (by grind),ET (by grind)⟩
def PP(F:Frm)(t:Nat):∀hav:List Nat,Frm.at ((hav.map λd=>(d,SV.any))++F) t=SV.any\/(t∉hav/\Frm.at ((hav.map λd=>(d,SV.any))++F) t=F.at t)
 |[] =>by grind
 |d::hav=>by
  rw[dX,List.cons_append,Frm.mF];by_cases h:t=d
  .grind
  .rw[if_neg h];rcases PP F t hav with h1|⟨h1,h2⟩
   .exact .inl h1
   grind
def z6{a i:Nat}(h:i≠a):∀ov:List (Nat×SV),(ov.filter λq=> !(bF q.1 a)).lookup i=ov.lookup i
 |[] =>rfl
 |q::ov=>by
  rw[List.filter_cons,dY];cases hq:bF q.1 a with
  |true=>
   have:=dN hq;rw[if_neg (by simp),z6 h ov,beq_eq_false_iff_ne.2 (by omega)]
  |false=>
   rw[if_pos (by simp),dY,z6 h ov]
def zw{a:Nat}:∀ov:List (Nat×SV),(ov.filter λq=> !(bF q.1 a)).lookup a=none
 |[] =>rfl
 |q::ov=>by
  rw[List.filter_cons];cases hq:bF q.1 a with
  |true=>exact zw ov
  |false=>rw[if_pos (by simp),dY,beq_eq_false_iff_ne.2 (λe=>mZ hq e.symm)];exact zw ov
def WT{n N0 N x a s k:Nat}{F:Frm}{L:aP}{ty ity:TypeId}{lt:LT}{M:List (List lt.ty)}{l:List lt.ty}{ov:List (Nat×SV)}{hav:List Nat}
  (hx:L.at x=some (.fam ty ity lt M ((a,.own s lt k)::ov))) (hs:L.at s=some (.row ity lt l)) (ha:a<M.length) (hk:k=l.length) (hxN:ncl x<N)
  (hov:∀q∈ov,q.1≠a->m9 N x s q.2=true) (hF:∀t,t<n->t∈hav\/m9 N x s (F.at t)=true) (hL:∀y ob,L.at y=some ob->y=x\/y=s\/CD N x s y ob=true):
  fe (F.av n) L.fn N0 (Frm.av n ((hav.map λd=>(d,SV.any))++F)) (aP.fn ((x,some (.fam ty ity lt (M.set a l) (ov.filter λq=> !(bF q.1 a))))::(s,none)::L)) N:=by
 have hxs:x≠s:=λe=>by grind
 refine Nn (lI N x a s) ?_ ?_ (by rw[Frm.jj,Frm.jj]) ?_ ?_
 .intro t y ht;unfold lI at ht;grind
 .intro t t' o ht ht';unfold lI at ht ht';grind
 .intro t ht;rw[Frm.jj]at ht;rw[Frm.mv ht,Frm.mv ht];rcases PP F t hav with h|⟨h1,h2⟩
  .rw[h];trivial
  .rw[h2];exact BC (by grind)
 .intro t ob' ht;have hat:∀y,aP.at ((x,some (.fam ty ity lt (M.set a l) (ov.filter λq=> !(bF q.1 a))))::(s,none)::L) y=if y=x then some (.fam ty ity lt (M.set a l) (ov.filter λq=> !(bF q.1 a)))else if y=s then none else L.at y:=by
   intro y;show(match bF y x with|true=>_|false=>(match bF y s with|true=>_|false=>_))=_;cases h1:bF y x with
   |true=>simp_all
   |false=>
    rw[if_neg (mZ h1)];cases h2:bF y s with
    |true=>simp_all
    |false=>rw[if_neg (mZ h2)]
  have hset:∀i,i≠a->(M.set a l).getD i [] =M.getD i [] :=by grind
  have hseta:(M.set a l).getD a [] =l:=by rw[eI,List.getElem?_set_self ha];rfl
  have hcons:∀i,i≠a->iU i ((a,SV.own s lt k)::ov)=ov.lookup i:=by grind
  rcases kq t with⟨y,rfl⟩|⟨y,b,rfl⟩|hno
  .change Sg.a _ (aO y)=some ob' at ht;rw[Sg.cP,hat y]at ht;by_cases hyx:y=x
   .subst hyx;rw[if_pos rfl]at ht;have ht:=nT ht;rw[AT hxN hxs];refine⟨_,by show Sg.a L.at (aO y)=_;rw[Sg.cP,hx];rfl,?_⟩;rw[<-ht];refine⟨rfl,rfl,?_⟩;show fm _ ((bM (M.set a l).length).map (jJ y (M.set a l) (ov.filter λq=> !(bF q.1 a)))) ((bM M.length).map (jJ y M ((a,.own s lt k)::ov)));rw[zf];refine vF _ _ _ λi _=> ?_;unfold jJ;by_cases hi:i=a
    .subst hi;rw[zw,dY,beq_iff_eq.2 rfl,hseta];show fw _ (.own (inn y (i+1)) 0 l.length) (.own (aO s) 0 k);refine .inl ⟨aO s,?_,by rw[hk]⟩;unfold lI;rw[if_pos (by rw[fO];exact hxN),if_pos rfl]
    .rw[z6 hi,hcons i hi,hset i hi];cases ho:ov.lookup i with
     |some v=>exact BC (hov (i,v) (Ey ho) hi)
     |none=>
      exact .inl ⟨_,xh hxN λ_=>hi,rfl⟩
   .rw[if_neg hyx]at ht;by_cases hys:y=s
    .grind
    .rw[if_neg hys]at ht;cases ho:L.at y with
     |none=>grind
     |some ob=>
      rw[ho]at ht;have ht:=nT ht;have hk':=((hL y ob ho).resolve_left hyx).resolve_left hys;unfold CD at hk';split at hk'
      case h_2=>cases hk'
      rename_i hz;rw[AT (BB hz).1 hys];refine⟨_,by show Sg.a L.at (aO y)=_;rw[Sg.cP,ho];rfl,?_⟩;rw[<-ht];split at hk'
      .exact⟨rfl,rfl,ET (iG hk')⟩
      .exact⟨rfl,rfl,ET (iG hk')⟩
      .exact⟨rfl,rfl,kQ _ _⟩
      .refine⟨rfl,rfl,?_⟩;show fm _ (gZ (gv _)) (gZ (gv _));rw[tR];exact kQ _ _
      .refine⟨rfl,rfl,vF _ _ _ λi _=> ?_⟩;unfold jJ;split
       .rename_i v hv;exact BC (iG hk' (i,v) (Ey hv))
       .exact .inl ⟨_,xh (BB hz).1 (by grind),rfl⟩
  .change Sg.a _ (inn y (b+1))=some ob' at ht;rw[Sg.fX,hat y]at ht;by_cases hyx:y=x
   .subst hyx;rw[if_pos rfl]at ht;change (match iU b (ov.filter λq=> !(bF q.1 a))with|some _=>none|none=>((M.set a l)[b]?).map λl=>(⟨ity,lt.w,(lt.enc l).map .p⟩:Ob))=some ob' at ht;by_cases hb:b=a
    .subst hb;rw[zw,List.getElem?_set_self ha]at ht;have ht:=nT ht;have hm:lI N y b s (inn y (b+1))=some (some (aO s)):=by unfold lI;rw[if_pos (by rw[fO];exact hxN),if_pos rfl]
     rw[hm];refine⟨_,by show Sg.a L.at (aO s)=_;rw[Sg.cP,hs];rfl,?_⟩;rw[<-ht];exact⟨rfl,rfl,kQ _ _⟩
    .rw[z6 hb,List.getElem?_set_ne (Ne.symm hb)]at ht;rw[xh hxN λ_=>hb];refine⟨ob',?_,?_⟩
     .show Sg.a L.at (inn y (b+1))=_;rw[Sg.fX,hx];show(match iU b ((a,SV.own s lt k)::ov)with|some _=>none|none=>(M[b]?).map λl=>(⟨ity,lt.w,(lt.enc l).map .p⟩:Ob))=_;grind
     .split at ht
      .cases ht
      .cases hM:M[b]? with
       |none=>grind
       |some l'=>
        rw[hM]at ht;rw[<-nT ht];exact⟨rfl,rfl,kQ _ _⟩
   .rw[if_neg hyx]at ht;by_cases hys:y=s
    .grind
    .rw[if_neg hys]at ht;cases ho:L.at y with
     |none=>grind
     |some ob=>
      have hk':=((hL y ob ho).resolve_left hyx).resolve_left hys;unfold CD at hk';split at hk'
      case h_2=>cases hk'
      rename_i hz;rw[xh (BB hz).1 (by grind)];rw[ho]at ht;refine⟨ob',by show Sg.a L.at (inn y (b+1))=_;rw[Sg.fX,ho];exact ht,?_⟩;change SOb.inner b ob=some ob' at ht;unfold SOb.inner at ht;split at ht
      .split at ht
       .cases ht
       .rename_i M' _ _ _;cases hM:M'[b]? with
        |none=>grind
        |some l'=>
         rw[hM]at ht;rw[<-nT ht];exact⟨rfl,rfl,kQ _ _⟩
      .cases ht
  .change Sg.a _ t=some ob' at ht;rw[Sg.kI _ hno]at ht;cases ht
def J0{a:Nat}:∀{ov:List (Nat×SV)},(∀p∈nC ov a,p)->(ov.filter λq=> !(bF q.1 a))=ov
 |[],_=>rfl
 |q::ov,h=>by
  have h1:a≠q.1:=h _ cI;have h2:bF q.1 a=false:=by
   cases hb:bF q.1 a with
   |true=>simp_all
   |false=>rfl
  rw[List.filter_cons,if_pos (by rw[h2];rfl),J0 λp hp=>h p (cG _ hp)]
def wZ(N x s:Nat)(F:Frm):Frm->List Nat
 |[] =>[]
 |(d,_)::r=>match m9 N x s (F.at d)with
  |true=>wZ N x s F r
  |false=>d::wZ N x s F r
def F9{N x s t:Nat}{F:Frm}:∀{G:Frm},t∈G.map (·.1)->t∈wZ N x s F G\/m9 N x s (F.at t)=true
 |[],h=>by grind
 |(d,v)::G,h=>by
  unfold wZ;cases hk:m9 N x s (F.at d)with
  |true=>
   rcases bI.1 h with h|h
   .grind
   .exact F9 h
  |false=>
   rcases bI.1 h with h|h
   .grind
   .rcases F9 (G:=G) h with h|h
    .exact .inl (cG _ h)
    grind
def P9{t:Nat}:∀{G:Frm},t∉G.map (·.1)->G.at t=Frm.at [] t
 |[],_=>rfl
 |(d,v)::G,h=>by
  rw[Frm.mF,if_neg (by grind),P9 (by grind)]
def yD(N x:Nat)(F:Frm)(L:aP):Option (List Prop×Frm×aP):=match L.at x with
 |some (.fam ty ity lt M ((a,.own s lt' k)::ov))=>(match L.at s with
  |some (.row ity' lt2 l)=>(match decEq lt' lt,decEq lt2 lt,bF ity' ity,i5 (ncl x) N,fF (λq:Nat×SV=>m9 N x s q.2) ov,fF (λq:Nat×Option SOb=>match bF q.1 x,bF q.1 s,L.at q.1 with|false,false,some ob=>CD N x s q.1 ob|_,_,_=>true) L with
   | .isTrue _,.isTrue h,true,true,true,true=>some ((a<M.length)::(k=l.length)::nC ov a,((wZ N x s F F).map λd=>(d,SV.any))++F,(x,some (.fam ty ity lt (M.set a (h▸l:List lt.ty)) ov))::(s,none)::L)
   |_,_,_,_,_,_=>none)
  |_=>none)
 |_=>none
def QA{y:Nat}{ob:SOb}:∀{L:aP},L.at y=some ob->∃q∈L,q.1=y
 |[],h=>by cases h
 |(k,o)::L,h=>by
  cases hb:bF y k with
  |true=>simp_all
  |false=>
   have:aP.at L y=some ob:=by change (match bF y k with|true=>o|false=>aP.at L y)=some ob at h;rw[hb]at h;exact h
   obtain⟨q,h1,h2⟩:=QA this;grind
def T9{n N0 N x:Nat}{F F':Frm}{L L':aP}{ps:List Prop}(h:yD N x F L=some (ps,F',L'))(hp:∀p∈ps,p):fe (F.av n) L.fn N0 (F'.av n) L'.fn N:=by
 unfold yD at h;split at h
 case h_2=>cases h
 rename_i ty ity lt M a s lt' k ov hx;split at h
 case h_2=>cases h
 rename_i ity' lt2 l hs;split at h
 case h_2=>cases h
 rename_i e1 e2 _ _ hi hN hov hL;subst e1;subst e2;cases h;have hi:=dN hi;subst hi;have hne:∀p∈nC ov a,p:=by grind
 have:=WT (n:=n) (N0:=N0) (N:=N) (F:=F) (hav:=wZ N x s F F) hx hs (hp _ (by grind)) (hp _ (by grind)) ((kT _ _).1 hN) (λq hq _=>iG hov q hq) (λt _=> ?_) (λy ob ho=> ?_)
 .rw[J0 hne]at this;exact this
 .by_cases hm:t∈F.map (·.1)
  .exact F9 hm
  .right;rw[P9 hm];rfl
 .obtain⟨q,hq,rfl⟩:=QA ho;have:=iG hL q hq;split at this
  .grind
  .by_cases hx':q.1=x
   .omega
   .by_cases hs':q.1=s
    .omega
    .have b1:bF q.1 x=false:=by
      cases hb:bF q.1 x with
      |true=>exact absurd (dN hb) hx'
      |false=>rfl
     have b2:bF q.1 s=false:=by
      cases hb:bF q.1 s with
      |true=>exact absurd (dN hb) hs'
      |false=>rfl
     grind
def tw(N:Nat):Nat->List Nat->Frm->aP->List Prop×Frm×aP
 |0,_,F,L=>([],F,L)
 |_+1,[],F,L=>([],F,L)
 |f+1,x::xs,F,L=>match yD N x F L with
  |some (ps,F',L')=>(match tw N f (x::xs) F' L' with|(qs,r)=>(ps++qs,r))
  |none=>tw N f xs F L
def EM{n N:Nat}:∀{f:Nat} {xs:List Nat} {F F':Frm} {L L':aP} {ps:List Prop},tw N f xs F L=(ps,F',L')->(∀p∈ps,p)->∀N0,(ps=[]/\F'=F/\L'=L)\/fe (F.av n) L.fn N0 (F'.av n) L'.fn N
 |0,xs,F,F',L,L',ps,h,_,_=>by cases h;grind
 |f+1,[],F,F',L,L',ps,h,_,_=>by cases h;grind
 |f+1,x::xs,F,F',L,L',ps,h,hp,N0=>by
  unfold tw at h;split at h
  .rename_i p1 F1 L1 h1;split at h;rename_i qs r h2;cases h;have w1:=T9 (n:=n) (N0:=N0) h1 λp hq=>hp p (by grind);rcases EM (n:=n) h2 (λp hq=>hp p (by grind)) N with⟨_,rfl,rfl⟩|w2
   .exact .inr w1
   .exact .inr λC0 B wI a w hst=>w2 C0 B wI a w (w1 C0 B wI a w hst)
  .exact EM h hp N0
def UX{N x:Nat}{F F':Frm}{L L':aP}{ps:List Prop}(h:yD N x F L=some (ps,F',L')):(∃p,F'=p++F)/\∃q,L'=q++L:=by
 unfold yD at h;split at h
 case h_2=>cases h
 split at h
 case h_2=>cases h
 split at h
 case h_2=>cases h
 cases h;exact⟨⟨_,rfl⟩,⟨[(_,_),(_,_)],rfl⟩⟩
def Eh{N:Nat}:∀{f:Nat} {xs:List Nat} {F F':Frm} {L L':aP} {ps:List Prop},tw N f xs F L=(ps,F',L')->(∃p,F'=p++F)/\∃q,L'=q++L
 |0,xs,F,F',L,L',ps,h=>by cases h;simp_all
 |f+1,[],F,F',L,L',ps,h=>by cases h;simp_all
 |f+1,x::xs,F,F',L,L',ps,h=>by
  unfold tw at h;split at h
  .rename_i p1 F1 L1 h1;split at h;rename_i qs r h2;obtain⟨⟨p,e1⟩,⟨q,e2⟩⟩:=UX h1;obtain⟨⟨p',e3⟩,⟨q',e4⟩⟩:=Eh h2;grind
  .exact Eh h
def HU:aP->List Nat
 |[] =>[]
 |(k,some (.fam ..))::L=>k::HU L
 |_::L=>HU L
end
end
def frS(s:Nat)(cells:List PV)(x' y:AV):Prop:=x'= .any\/x'=y\/∃n,y= .own s 0 n/\x'= .p (.sl n cells)
def frO(s:Nat)(cells:List PV)(o:Option Ob)(ob:Ob):Prop:=o=some ob\/∃ob0,o=some ob0/\ob.ty=ob0.ty/\ob.esz=ob0.esz/\¬(ob.esz=0/\(ob.ty=0\/ob.ty=1))/\ob.cells.length=ob0.cells.length/\
 ∀(i:Nat) x,ob.cells[i]? =some x->∃y,ob0.cells[i]? =some y/\frS s cells x y
def frO.get{s:Nat}{cells:List PV}{o:Option Ob}{ob:Ob}(h:frO s cells o ob):∃ob0,o=some ob0/\ob.ty=ob0.ty/\ob.esz=ob0.esz:=by
 rcases h with h|⟨ob0,h1,h2,h3,_⟩
 .grind
 grind
def D3{F F':List AV}{L L':Sto}{N:Nat}{ty esz:Nat}(s:Nat)(cells:List PV)(hs:L s=some ⟨ty,esz,cells.map .p⟩)(hz:esz≠0)(hl:F'.length=F.length)
  (hF:∀t,t<F.length->frS s cells (F'.getD t .any) (F.getD t .any)) (hL:∀k ob,L' k=some ob->k≠s/\frO s cells (L k) ob):fe F L N F' L' N:=by
 intro C0 B wI a w ⟨⟨ρ,s1,s2,s3⟩,s4,s5,s6,s7⟩;have hdead:∀k,L k=none->L' k=none:=by
  intro k hk;cases h:L' k with
  |none=>rfl
  |some ob=>obtain⟨ob0,h0,_⟩:=(hL k ob h).2.get;grind
 have hmono:∀b o v,bC C0 B w ρ L b o v->bC C0 B w ρ L' b o v:=λb o v ⟨e1,e2,e3⟩=>⟨e1,λk c h=>hdead k (e2 k c h),e3⟩;have hone:∀x' y v,frS s cells x' y->aR ρ (bC C0 B w ρ L) y v->aR ρ (bC C0 B w ρ L') x' v:=by
  rintro x' y v (rfl|rfl|⟨n,rfl,rfl⟩) hv
  .unfold aR;trivial
  .exact aR.mono (λ_ _ h=>h) hmono _ v hv
  .unfold aR at hv|-;obtain⟨q,c,hρ,hcase⟩:=hv;obtain⟨q2,c2,hρ2,hob⟩:=s1.ob s _ hs;rw[hρ]at hρ2;cases hρ2;unfold aY;rcases hcase with⟨h1,h4,h5,_⟩|⟨b,o',c',h1,h4,h5,h6,h7⟩
   .subst h5;rcases hob with⟨_,⟨_,h8,_⟩|⟨h8,_⟩⟩|⟨b,arr,h8,_⟩
    .exact⟨none,0,h4,bZ _,λ_=>⟨rfl,by simp_all⟩,λad e=>by cases e⟩
    .grind
    grind
   .obtain⟨rfl,rfl⟩:=h7 rfl;rcases hob with⟨h8,_⟩|⟨b2,arr,h8,h9,h10⟩
    .grind
    .rw[h1]at h8;cases h8;refine⟨_,c',h4,h5,(λe=>by cases e),λad e=> ?_⟩;cases e;refine⟨λ_=>rfl,dA.of _ _ _ λi x hi=> ?_⟩;obtain⟨u,k1,k2,k3⟩:=h10.cells i (.p x) (by grind);unfold aR at k3;refine⟨u,⟨by rw[kN,h10.cell];exact k1,λk c2 hk=> ?_,.inl h9⟩,k2,aY.mono hmono x u k3⟩;cases h:L' k with
     |none=>rfl
     |some ob=>
      obtain⟨hne,h2⟩:=hL k ob h;obtain⟨ob0,h2,_⟩:=h2.get;exact absurd (s1.inj k s ob0 _ b c2 c' h2 hs hk (by rw[hρ,h1])) hne
 refine⟨⟨ρ,⟨?_,?_,?_⟩,s2,?_⟩,s4,s5,by rw[s6,hl],s7⟩
 .intro k ob hk;obtain⟨hne,h2|⟨ob0,h2,g1,g2,g3,g4,g5⟩⟩:=hL k ob hk
  .obtain⟨q,c,hρ,hcase⟩:=s1.ob k ob h2;refine⟨q,c,hρ,?_⟩;rcases hcase with⟨g1,g2⟩|⟨b,arr,g1,g2,g3⟩
   .refine .inl ⟨g1,?_⟩;rcases g2 with g2|⟨g2,g3⟩
    .exact .inl g2
    .exact .inr ⟨g2,g3.mono (λ_ _ h=>h) hmono λ_ _ _ _=>rfl⟩
   .refine .inr ⟨b,arr,g1,g2,⟨g3.blk,g3.box,g3.row,λi x hi=> ?_⟩⟩;obtain⟨v,m1,m2,m3⟩:=g3.cells i x hi;exact⟨v,m1,m2,aR.mono (λ_ _ h=>h) hmono _ v m3⟩
  .obtain⟨q,c,hρ,hcase⟩:=s1.ob k ob0 h2;refine⟨q,c,hρ,?_⟩;rcases hcase with⟨k1,⟨k2,k3,k4⟩|⟨k2,k3⟩⟩|⟨b,arr,k1,k2,k3⟩
   .grind
   .exfalso;refine g3 ⟨by omega,?_⟩;rw[g1];rcases k3 with⟨k3,_⟩|⟨k3,_⟩
    .exact .inl k3
    grind
   .refine .inr ⟨b,arr,k1,k2,⟨by rw[g1];exact k3.blk,λh=>by rw[g4];exact k3.box (by omega),λh=>by rw[g4,g2];exact k3.row (by omega),λi x hi=> ?_⟩⟩;obtain⟨y,y1,y2⟩:=g5 i x hi;obtain⟨v,m1,m2,m3⟩:=k3.cells i y y1;grind
 .intro k k' o o' b c c' h1 h2 h3 h4;obtain⟨o1,e1,_⟩:=(hL k o h1).2.get;obtain⟨o2,e2,_⟩:=(hL k' o' h2).2.get;exact s1.inj k k' o1 o2 b c c' e1 e2 h3 h4
 .intro k k' o o' c c' h1 h2 h3 h4 h5 h6 h7;obtain⟨o1,e1,a1,a2⟩:=(hL k o h1).2.get;obtain⟨o2,e2,b1,b2⟩:=(hL k' o' h2).2.get;refine s1.mpi k k' o1 o2 c c' e1 e2 (by omega) (by omega) h5 h6 ?_;unfold sT at h7|-;grind
 .intro t;rcases oZ t F.length with h|h
  .grind
  .rw[eI,mY (by omega)];show aR _ _ .any _;unfold aR;trivial
noncomputable section
def yf(d:Nat)(F:Frm)(L:aP):Option (List Prop×Frm×aP):=match F.at d with
 | .ownx s n=>(match L.at s with
   |some (.arr _ ez cs)=>(match bT (avs cs),bF ez 0 with
    |some _,false=>some ([],(d,.sl n cs)::F,(s,none)::L)
    |_,_=>none)
   |_=>none)
 | .own s _ n=>(match L.at s with
   |some (.row _ lt l)=>some ([n=l.length],(d,.lst lt l)::F,(s,none)::L)
   |_=>none)
 |_=>none
def Bk{L:aP}{s:Nat}{ob:SOb}(hs:L.at s=some ob)(hf:ob.flat=true){k:Nat}{o:Ob}(h:aP.fn ((s,none)::L) k=some o):k≠aO s/\L.fn k=some o:=by have h1:=(bY.flat (σ:=L.at) (rd:=[]) (W:=[(s,none)]) λq hq=>by rw[bn.1 hq,hs];exact⟨hf,rfl⟩).2.2;rw[aP.CO]at h1;have h2:aP.fn ((s,none)::L)=az L.fn [(aO s,none)] :=h1.symm;rw[h2]at h;unfold az at h;grind
def OR{n d t:Nat}{v:SV}{F:Frm}(ht:t<n):(Frm.av n ((d,v)::F)).getD t .any=if t=d then v.av else(F.av n).getD t .any:=by rw[Frm.mv ht,Frm.mv ht,Frm.mF];split<;>rfl
def Ur{n N d:Nat}{F F':Frm}{L L':aP}{ps:List Prop}(h:yf d F L=some (ps,F',L'))(hp:∀p∈ps,p):fe (F.av n) L.fn N (F'.av n) L'.fn N:=by
 unfold yf at h;split at h
 .rename_i s m hd;split at h
  case h_2=>cases h
  rename_i ty ez cs hs;split at h<;>cases h;rename_i q hq hz;refine D3 (aO s) q (ty:=ty) (esz:=ez) ?_ (mZ hz) (by rw[Frm.jj,Frm.jj]) ?_ λk ob hk=>⟨(Bk hs rfl hk).1,.inl (Bk hs rfl hk).2⟩
  .show Sg.a L.at (aO s)=_;rw[Sg.cP,hs,<-jX hq];rfl
  .intro t ht;rw[Frm.jj]at ht;rw[OR ht];by_cases e:t=d
   .subst e;rw[if_pos rfl,Frm.mv ht,hd];exact .inr (.inr ⟨m,rfl,by show(match bT (avs cs)with|some q=>AV.p (.sl m q)|none=> .any)=_;rw[hq]⟩)
   .rw[if_neg e];exact .inr (.inl rfl)
 .rename_i s t0 m hd;split at h<;>cases h;rename_i ty lt l hs;have hm:m=l.length:=hp _ (by grind);refine D3 (aO s) (lt.enc l) (ty:=ty) (esz:=lt.w) ?_ (oh lt.lH) (by rw[Frm.jj,Frm.jj]) ?_ λk ob hk=>⟨(Bk hs rfl hk).1,.inl (Bk hs rfl hk).2⟩
  .show Sg.a L.at (aO s)=_;rw[Sg.cP,hs];rfl
  .intro t ht;rw[Frm.jj]at ht;rw[OR ht];by_cases e:t=d
   .subst e;rw[if_pos rfl,Frm.mv ht,hd];exact .inr (.inr ⟨m,rfl,by rw[hm];rfl⟩)
   .rw[if_neg e];exact .inr (.inl rfl)
 .cases h
def IU(L:aP):SV->Option (List Prop×SV×Nat)
 | .ownx s n=>(match L.at s with
   |some (.arr _ ez cs)=>(match bT (avs cs),bF ez 0 with
    |some _,false=>some ([],.sl n cs,s)
    |_,_=>none)
   |_=>none)
 | .own s _ n=>(match L.at s with
   |some (.row _ lt l)=>some ([n=l.length],.lst lt l,s)
   |_=>none)
 |_=>none
def XL{L:aP}{v w:SV}{s:Nat}{ps:List Prop}(h:IU L v=some (ps,w,s))(hp:∀p∈ps,p):∃ob,L.at s=some ob/\ob.flat=true/\∃ty esz cells n,ob.ob s=⟨ty,esz,cells.map .p⟩/\esz≠0/\v.av= .own (aO s) 0 n/\w.av= .p (.sl n cells)/\(∀ty cs,ob≠ .box ty cs):=by
 unfold IU at h;split at h
 .rename_i s m;split at h
  case h_2=>cases h
  rename_i ty ez cs hs;split at h<;>cases h;rename_i q hq hz;exact⟨_,hs,rfl,ty,ez,q,m,by rw[<-jX hq];rfl,mZ hz,rfl,by show(match bT (avs cs)with|some q=>AV.p (.sl m q)|none=> .any)=_;rw[hq],λ_ _=>nofun⟩
 .rename_i s t0 m;split at h<;>cases h;rename_i ty lt l hs;have hm:m=l.length:=hp _ (by grind);exact⟨_,hs,rfl,ty,lt.w,lt.enc l,m,rfl,oh lt.lH,rfl,by rw[hm];rfl,λ_ _=>nofun⟩
 .cases h
def yg(k i:Nat)(L:aP):Option (List Prop×aP):=match L.at k with
 |some (.box ty cs)=>(match cs[i]?,nQ ty 1 with
  |some v,false=>(match IU L v with
   |some (ps,w,s)=>some (ps,(k,some (.box ty (cs.set i w)))::(s,none)::L)
   |none=>none)
  |_,_=>none)
 |_=>none
def Ut{n N k i:Nat}{F:Frm}{L L':aP}{ps:List Prop}(h:yg k i L=some (ps,L'))(hp:∀p∈ps,p):fe (F.av n) L.fn N (F.av n) L'.fn N:=by
 unfold yg at h;split at h
 case h_2=>cases h
 rename_i ty cs hk;split at h
 case h_2=>cases h
 rename_i v hv hty;split at h<;>cases h;rename_i w s hf;obtain⟨ob,e1,e2,tys,esz,cells,m,e3,e4,e5,e6,e7⟩:=XL hf hp;have hks:k≠s:=λe=>by grind
 have hty:¬ty<=1:=λhh=>by rw[Nat.ble_eq_true_of_le hh]at hty;cases hty
 have up:aP.fn ((k,some (.box ty (cs.set i w)))::(s,none)::L)=az L.fn [(aO k,some ((SOb.box ty (cs.set i w)).ob k)),(aO s,none)] :=by
  have h1:=(bY.flat (σ:=L.at) (rd:=[]) (W:=[(k,some (.box ty (cs.set i w))),(s,none)]) λq hq=>by
   rcases bI.1 hq with rfl|hq
   .rw[hk];exact⟨rfl,rfl⟩
   .rw[bn.1 hq,e1];exact⟨e2,rfl⟩).2.2
  rw[aP.CO]at h1;exact h1.symm
 refine D3 (aO s) cells (ty:=tys) (esz:=esz) ?_ e4 rfl (λt ht=> .inr (.inl rfl)) λj ob' hj=> ?_
 .show Sg.a L.at (aO s)=_;rw[Sg.cP,e1,eJ,e3]
 .rw[up]at hj;unfold az at hj;rw[dY,dY]at hj;by_cases h1:j=aO k
  .subst h1;rw[beq_iff_eq.2 rfl]at hj;cases hj;refine⟨λe=>hks (l8 e),.inr ⟨(SOb.box ty cs).ob k,by show Sg.a L.at (aO k)=_;rw[Sg.cP,hk];rfl,rfl,rfl,?_,?_,?_⟩⟩
   .rintro⟨_,hh|hh⟩
    .have hh:ty=0:=hh;grind
    .have hh:ty=1:=hh;grind
   .show(avs (cs.set i w)).length=(avs cs).length;rw[jv,jv,zf]
   .intro a x hx;have hx:(avs (cs.set i w))[a]? =some x:=hx;rw[PO,List.getElem?_set]at hx;by_cases ha:i=a
    .subst ha;rw[if_pos rfl,if_pos (by grind)]at hx;cases hx;exact⟨v.av,by show(avs cs)[i]? =_;rw[yP,hv];rfl,.inr (by grind)⟩
    .rw[if_neg ha]at hx;exact⟨x,hx,.inr (.inl rfl)⟩
  .rw[beq_eq_false_iff_ne.2 h1]at hj;by_cases h2:j=aO s
   .grind
   .rw[beq_eq_false_iff_ne.2 h2]at hj;exact⟨h2,.inl hj⟩
def Vx{k i:Nat}{L L':aP}{ps:List Prop}(h:yg k i L=some (ps,L')):∃q,L'=q++L:=by
 unfold yg at h;split at h
 case h_2=>cases h
 split at h
 case h_2=>cases h
 split at h<;>cases h;exact⟨[(_,_),(_,_)],rfl⟩
def Hy(k:Nat):Nat->List SV->List (Nat×Nat)
 |_,[] =>[]
 |i,.lst _ _::r=>(k,i)::Hy k (i+1) r
 |i,_::r=>Hy k (i+1) r
def IW:List (Nat×SOb)->List (Nat×Nat)
 |[] =>[]
 |(k,.box _ cs)::r=>Hy k 0 cs++IW r
 |_::r=>IW r
def uD:List (Nat×Nat)->aP->List Prop×aP
 |[],L=>([],L)
 |d::ds,L=>match yg d.1 d.2 L with
  |some (ps,L')=>(match uD ds L' with|(qs,r)=>(ps++qs,r))
  |none=>uD ds L
def EY{n N:Nat}{F:Frm}:∀{ds:List (Nat×Nat)} {L L':aP} {ps:List Prop},uD ds L=(ps,L')->(∀p∈ps,p)->fe (F.av n) L.fn N (F.av n) L'.fn N
 |[],L,L',ps,h,_=>by cases h;exact fe.rfl
 |d::ds,L,L',ps,h,hp=>by
  unfold uD at h;split at h
  .rename_i p1 L1 h1;split at h;rename_i qs r h2;cases h;have w1:=Ut (n:=n) (N:=N) (F:=F) h1 λp hq=>hp p (by grind);have w2:=EY (n:=n) (N:=N) (F:=F) h2 λp hq=>hp p (by grind);exact λC0 B wI a w hst=>w2 C0 B wI a w (w1 C0 B wI a w hst)
  .exact EY h hp
def E8:∀{ds:List (Nat×Nat)} {L L':aP} {ps:List Prop},uD ds L=(ps,L')->∃q,L'=q++L
 |[],L,L',ps,h=>by cases h;simp_all
 |d::ds,L,L',ps,h=>by
  unfold uD at h;split at h
  .rename_i p1 L1 h1;split at h;rename_i qs r h2;obtain⟨q,e2⟩:=Vx h1;obtain⟨q',e4⟩:=E8 h2;grind
  .exact E8 h
def IV:Frm->List Nat
 |[] =>[]
 |(d,.lst _ _)::r=>d::IV r
 |_::r=>IV r
def uK:List Nat->Frm->aP->List Prop×Frm×aP
 |[],F,L=>([],F,L)
 |d::ds,F,L=>match yf d F L with
  |some (ps,F',L')=>(match uK ds F' L' with|(qs,r)=>(ps++qs,r))
  |none=>uK ds F L
def E7{n N:Nat}:∀{ds:List Nat} {F F':Frm} {L L':aP} {ps:List Prop},uK ds F L=(ps,F',L')->(∀p∈ps,p)->fe (F.av n) L.fn N (F'.av n) L'.fn N
 |[],F,F',L,L',ps,h,_=>by cases h;exact fe.rfl
 |d::ds,F,F',L,L',ps,h,hp=>by
  unfold uK at h;split at h
  .rename_i p1 F1 L1 h1;split at h;rename_i qs r h2;cases h;have w1:=Ur (n:=n) (N:=N) h1 λp hq=>hp p (by grind);have w2:=E7 (n:=n) (N:=N) h2 λp hq=>hp p (by grind);exact λC0 B wI a w hst=>w2 C0 B wI a w (w1 C0 B wI a w hst)
  .exact E7 h hp
def Vw{d:Nat}{F F':Frm}{L L':aP}{ps:List Prop}(h:yf d F L=some (ps,F',L')):(∃p,F'=p++F)/\∃q,L'=q++L:=by
 unfold yf at h;split at h
 .split at h
  case h_2=>cases h
  split at h<;>cases h;exact⟨⟨[_],rfl⟩,⟨[_],rfl⟩⟩
 .split at h<;>cases h;exact⟨⟨[_],rfl⟩,⟨[_],rfl⟩⟩
 .cases h
def Fx:∀{ds:List Nat} {F F':Frm} {L L':aP} {ps:List Prop},uK ds F L=(ps,F',L')->(∃p,F'=p++F)/\∃q,L'=q++L
 |[],F,F',L,L',ps,h=>by cases h;simp_all
 |d::ds,F,F',L,L',ps,h=>by
  unfold uK at h;split at h
  .rename_i p1 F1 L1 h1;split at h;rename_i qs r h2;obtain⟨⟨p,e1⟩,⟨q,e2⟩⟩:=Vw h1;obtain⟨⟨p',e3⟩,⟨q',e4⟩⟩:=Fx h2;grind
  .exact Fx h
end
noncomputable section
inductive Ann:Type 1
 |mk (Y:Type) (wit:Frm->aP->Option Y) (rk:List Nat) (inv:Y->List Prop) (upd:Y->Frm) (obs:Y->List (Nat×SOb)) (mu:Y->Nat) (inner:Y->List (Nat×Ann))
def Qh:List (Nat×Ann)->Nat->Option Ann
 |[],_=>none
 |(k,a)::l,x=>match bF x k with|true=>some a|false=>Qh l x
def asg:Code->List Nat
 | .region _ ops _=>ops.toList.filterMap (·.dst)
 | .seq a b=>asg a++asg b
 | .cond _ t e=>asg t++asg e
 | .block _ c=>asg c
 | .loop c=>asg c
 | .scope c=>asg c
 |_=>[]
def sC:Code->Option Nat
 | .region id _ _=>some id
 | .seq a b=>(match sC a with|some k=>some k|none=>sC b)
 | .cond _ t e=>(match sC t with|some k=>some k|none=>sC e)
 | .block _ c=>sC c
 | .loop c=>sC c
 | .scope c=>sC c
 |_=>none
def H9(A:List (Nat×Ann))(c:Code)(j:Nat):Option Ann:=match sC c with
 |some k=>Qh A (k+j)
 |none=>none
def sJ(N:Nat):List Nat->Nat
 |[] =>N
 |s::l=>(match i5 (ncl s) (sJ N l)with|true=>sJ N l|false=>ncl s+1)
abbrev pV:=Exit->Frm->aP->Nat->Fm
def IB(X:Cx)(n:Nat)(raw:Nat->Nat->Bool)(id:Nat)(ops:List Oper)(draw:Bool)(F:Frm)(L:aP)(N:Nat)(K:Frm->aP->Fm):Fm:=match draw with
 |true=>(match X.P.follows .mixedOrders,Cc ops (Hc ops),dOk ops n with
  |true,true,true=>gu X n (raw id) N (ops.map (·.dst)) ops 0 F L [] λF L log=>(match yW (Hc ops) log with|true=>K F L|false=> .stuck (id+100000))
  |_,_,_=> .stuck (id+200000))
 |false=>(match gOk ops with
  |true=>gu X n (raw id) N (ops.map (·.dst)) ops 0 F L [] λF L _=>K F L
  |false=> .stuck (id+300000))
def zC(n:Nat)(F:Frm)(L:aP)(N:Nat)(rk:List Nat)(upd:Frm)(obs:List (Nat×SOb))(qs:List Prop)(F':Frm)(L':aP):Fm:=match uK (IV upd) F' L' with
 |(pz,F0,La)=>match uD (IW obs) La with
  |(pb,L0)=>match tw NM 100 (HU L0) F0 L0 with
   |(p0,F1,L1)=>(match fF (λq:Nat×SV=>mem ((F'.take (F'.length-F.length)).map (·.1)) q.1) (F1.take (F1.length-F'.length)),Ce n L N (sJ N rk) rk upd obs F1 L1 with
    |true,some ps=>rq (pz++(pb++(p0++(ps++qs)))) .tt
    |_,_=> .stuck 400000)
def exq{Y:Type}(w:Option Y)(f:Y->Fm):Fm:=match w with
 |some y=>f y
 |none=> .ex Y f
def FG{Y:Type}{w:Option Y}{f:Y->Fm}(h:(exq w f).holds):∃y,(f y).holds:=by
 cases w with
 |some y=>exact⟨y,h⟩
 |none=>exact h
def Pv(A:List (Nat×Ann))(c:Code):Nat->Option Nat
 |0=>none
 |k+1=>(match H9 A c (30001+k)with|some _=>some (k+1)|none=>Pv A c k)
def unr(body:pV->Frm->aP->Nat->Fm)(Q:pV):Nat->Frm->aP->Nat->Fm
 |0,_,_,_=> .stuck 810000
 |k+1,F,L,N=>body (λe F' L' N'=>match e with| .normal=>unr body Q k F' L' N'|e=>Q e F' L' N') F L N
abbrev Inl:=Nat->List SV->Frm->Nat->aP->Nat->(SV->aP->Nat->Fm)->Fm
def Hw:Inl:=λ_ _ _ _ _ _ _=> .stuck 990000
def yb:List Oper->Option (List Oper×Oper)
 |[] =>none
 |o::l=>(match yb l with|some (p,q)=>some (o::p,q)|none=>some ([],o))
def Ll:∀{l pre:List Oper} {o:Oper},yb l=some (pre,o)->l=pre++[o]
 |[],pre,o,h=>by cases h
 |x::l,pre,o,h=>by
  unfold yb at h;split at h
  .rename_i p q hp;cases h;rw[Ll hp];rfl
  .rename_i hp;cases h;cases l with
   |nil=>rfl
   |cons y l=>
    unfold yb at hp;grind
def H0(X:Cx)(ops:List Oper):Option (List Oper×Oper×Nat×List Operand):=match yb ops with
 |some (pre,o)=>(match o.guard,o.op with
  |none,.call {callee:= .value (.func f),args, .. }=>(match X.inl f with|true=>some (pre,o,f,args.toList)|false=>none)
  |_,_=>none)
 |none=>none
def Vm{X:Cx}{ops pre:List Oper}{o:Oper}{f:Nat}{args:List Operand}(h:H0 X ops=some (pre,o,f,args)):ops=pre++[o]/\o.guard=none/\∃c:Call,o.op= .call c/\c.callee= .value (.func f)/\c.args.toList=args:=by
 unfold H0 at h;split at h
 case h_2=>cases h
 rename_i p q hl;split at h
 case h_2=>cases h
 rename_i hg ho;split at h<;>cases h;exact⟨Ll hl,hg,_,ho,rfl,rfl⟩
def IA(X:Cx)(I:Inl):Prop:=∀(f:Nat) (xs:List SV) (F:Frm) (n:Nat) (L:aP) (N:Nat) (K:SV->aP->Nat->Fm) (o:Oper) (c:Call),o.op= .call c->c.callee= .value (.func f)->c.args.toList.map (kX (F.av n))=avs xs->(I f xs F n L N K).holds->
 uN X.P o (F.av n) L.fn N λFA LA N'=>∃r L',r.ok/\FA=eP (F.av n) o.dst r.av/\LA=L'.fn/\iC L L'/\(K r L' N').holds
def Mz(X:Cx):IA X Hw:=λ_ _ _ _ _ _ _ _ _ _ _ _ h=>h.elim
def vc(X:Cx)(I:Inl)(n:Nat)(raw:Nat->Nat->Bool):Code->(Nat->Bool)->List (Nat×Ann)->pV->Frm->aP->Nat->Fm
 | .skip,_,_,Q,F,L,N=>Q .normal F L N
 | .region id ops draw,_,_,Q,F,L,N=>(match draw,H0 X ops.toList with
   |false,some (pre,o,f,args)=>gu X n (raw id) N (ops.toList.map (·.dst)) pre 0 F L [] λF L _=>I f (args.map (uF n F)) F n L (N+pre.length) λr L' N'=>Q .normal (pY n F o.dst r) L' N'
   |_,_=>IB X n raw id ops.toList draw F L N λF L=>Q .normal F L (N+ops.size))
 | .seq a b,al,A,Q,F,L,N=>(match H9 A b 10000 with
   |none=>vc X I n raw a al A (λe F L N=>match e with| .normal=>vc X I n raw b al A Q F L N|e=>Q e F L N) F L N
   |some (.mk Y wit rk inv upd obs _ inner)=>(match fF al (kH F rk N F)with
    |true=> .both
     (vc X I n raw a (mem (asg a)) A (λe F1 L1 N1=>match e with| .normal=>exq (wit F1 L1) λy=>zC n F L N rk (upd y) (obs y) (inv y) F1 L1|e=>Q e F1 L1 N1) F L N)
     (.all Y λy=>IR (inv y) (match fF (λq=>mem (asg a++kH F rk N F) q.1) (upd y)with
       |true=>vc X I n raw b al (inner y++A) Q (lj F (upd y) (asg a++kH F rk N F)) (ja L (obs y)) (sJ N rk)
       |false=> .stuck 500000))
    |false=> .stuck 600000))
 | .cond c t e,al,A,Q,F,L,N=>(match uF n F c with
   | .lit true=>vc X I n raw t al A Q F L N
   | .lit false=>vc X I n raw e al A Q F L N
   | .prop p _=> .both (.imp p (vc X I n raw t al A Q F L N)) (.imp (¬p) (vc X I n raw e al A Q F L N))
   | .bool b=> .both (.imp (b=true) (vc X I n raw t al A Q F L N)) (.imp (b=false) (vc X I n raw e al A Q F L N))
   |_=> .stuck 700000)
 | .block id c,al,A,Q,F,L,N=>vc X I n raw c al A (λe F L N=>match e with| .exit id'=>(match bF id' id with|true=>Q .normal F L N|false=>Q (.exit id') F L N)|e=>Q e F L N) F L N
 | .loop c,al,A,Q,F,L,N=>(match H9 A c 0 with
   |none=>(match Pv A c 6 with
    |some k=>unr (λQ F L N=>vc X I n raw c al A Q F L N) Q k F L N
    |none=> .stuck 800000)
   |some (.mk Y wit rk inv upd obs mu inner)=>(match fF al (kH F rk N F)with
    |true=> .both
     (exq (wit F L) λy=>zC n F L N rk (upd y) (obs y) (inv y) F L)
     (.all Y λx=>IR (inv x) (match fF (λq=>mem (asg c++kH F rk N F) q.1) (upd x)with
       |true=>vc X I n raw c (mem (asg c)) (inner x++A) (λe F1 L1 N1=>match e with| .normal=>exq (wit F1 L1) λy=>zC n F L N rk (upd y) (obs y) (inv y++[mu y<mu x]) F1 L1|e=>Q e F1 L1 N1) (lj F (upd x) (asg c++kH F rk N F)) (ja L (obs x)) (sJ N rk)
       |false=> .stuck 500000))
    |false=> .stuck 600000))
 | .exit id,_,_,Q,F,L,N=>Q (.exit id) F L N
 | .ret,_,_,Q,F,L,N=>Q .ret F L N
 | .scope c,al,A,Q,F,L,N=>vc X I n raw c al A (λe F L N=>match e with| .goto _=> .stuck 910001|e=>Q e F L N) F L N
 | .label _,_,_,Q,F,L,N=>Q .normal F L N
 |_,_,_,_,_,_,_=> .stuck 900000
def iR.mono{n:Nat}{S T:Nat->Prop}{F:Frm}{L:aP}{FA:List AV}{LA:Sto}{G H:Frm->aP->Prop}(hS:∀d,S d->T d)(hG:∀F L,F.ok->G F L->H F L)(h:iR n S F L FA LA G):iR n T F L FA LA H:=by obtain⟨F',L',a,b,c,d,e,f⟩:=h;exact⟨F',L',a,b,c,d.mono hS,e,hG F' L' c f⟩
def least{p:Nat->Prop}(h:∃k,p k):∃k,p k/\∀j,p j->k<=j:=by
 obtain⟨k,hk⟩:=h;induction k using Nat.strongRecOn with
 |ind k ih=>
  grind
def Lt{F upd:Frm}{hav:List Nat}:Pre (λd=>d∈upd.map (·.1)\/d∈hav) F (lj F upd hav):=by refine⟨upd++(hav.map λd=>(d,SV.any)),by unfold lj;simp,λq hq=> ?_⟩;grind
def E6{L:aP}{obs:List (Nat×SOb)}:iC L (ja L obs):=⟨_,rfl⟩
def NJ{F upd:Frm}{hav:List Nat}(hF:F.ok)(hu:∀q∈upd,q.2.ok):(lj F upd hav).ok:=by
 intro t;unfold lj;rw[Frm.qE,Frm.qE];split
 .split
  .rename_i h;exact hu _ (wM h)
  .rw[QD];split<;>trivial
 .exact hF t
def PB{n:Nat}{F':Frm}:∀{upd:Frm} {ps:List Prop} {r:Rm},wV n F' upd=some (ps,r)->∀q∈upd,q.2.ok
 |[],ps,r,_,q,hq=>by cases hq
 |(d,v)::upd,ps,r,h,q,hq=>by
  unfold wV at h;split at h<;>cases h;rename_i p1 m1 p2 m2 h1 h2 h3 h4;rcases bI.1 hq with rfl|hq
  .exact SV.oJ h2
  .exact PB h4 q hq
def Gq{n:Nat}{F F' upd:Frm}{L L':aP}{N N':Nat}{rk:List Nat}{obs:List (Nat×SOb)}{hav:List Nat}{qs:List Prop}(h:(zC n F L N rk upd obs qs F' L').holds)
  (hF:Pre (λd=>d∈hav) F F') (hbad:∀d∈kH F rk N F,d∈hav) (hL:iC L L'):
  fe (F'.av n) L'.fn N' ((lj F upd hav).av n) (ja L obs).fn (sJ N rk)/\(∀p∈qs,p)/\∀q∈upd,q.2.ok:=by
 unfold zC at h;split at h;rename_i pz F0 La hz;split at h;rename_i pb L0 hb;split at h;rename_i p0 F1 L1 h0;split at h
 .rename_i ps hc hm;have hp:=(ss h).1;obtain⟨⟨pa,ea1⟩,⟨qa,ea2⟩⟩:=Eh h0;obtain⟨⟨pb',eb1⟩,⟨qb,eb2⟩⟩:=Fx hz;obtain⟨qc,ec2⟩:=E8 hb;obtain⟨p,e1⟩:∃p,F1=p++F':=by grind
  obtain⟨q,e2⟩:∃q,L1=q++L':=by grind
  have wz1:=E7 (n:=n) (N:=N') hz λp hpp=>hp p (by grind);have wz2:=EY (n:=n) (N:=N') (F:=F0) hb λp hpp=>hp p (by grind);have wz:fe (F'.av n) L'.fn N' (F0.av n) L0.fn N':=λC0 B wI a w hst=>wz2 C0 B wI a w (wz1 C0 B wI a w hst);have hp:∀p∈p0++(ps++qs),p:=λp hpp=>hp p (by grind);have hF1:Pre (λd=>d∈hav) F F1:=by
   obtain⟨pre,e3,hpre⟩:=hF;refine⟨p++pre,by grind,λr hr=> ?_⟩;rcases bl.1 hr with hr|hr
   .have:=iG hc r (by rw[e1,show(p++F').length-F'.length=p.length by simp,Dc];exact hr);obtain⟨r',h1,h2⟩:=bR.1 ((mem_iff _ _).1 this);grind
   .grind
  have hL1:iC L L1:=by obtain⟨pre,e3⟩:=hL;exact⟨q++pre,by grind⟩
  have hps:∀p∈ps,p:=λp hpp=>hp p (by grind);refine⟨?_,λp hpp=>hp p (by grind),?_⟩
  .rcases EM (n:=n) h0 (λp hpp=>hp p (by grind)) N' with⟨_,f1,f2⟩|w
   .have:=Ld (N':=N') hm hps hF1 hbad hL1;rw[f1,f2]at this;exact λC0 B wI a w' hst=>this C0 B wI a w' (wz C0 B wI a w' hst)
   .have:=Ld (N':=NM) hm hps hF1 hbad hL1;exact λC0 B wI a w' hst=>this C0 B wI a w' (w C0 B wI a w' (wz C0 B wI a w' hst))
  unfold Ce at hm;split at hm
  .cases hm
  .rename_i h1;exact PB h1
 .exact h.elim
def Np{X:Cx}(hX:X.Ok){n:Nat}{raw:Nat->Nat->Bool}{id:Nat}{ops:Array Oper}{draw:Bool}{F:Frm}{L:aP}{N:Nat}{K:Frm->aP->Fm}(hF:F.ok)(h:(IB X n raw id ops.toList draw F L N K).holds):
  Sv X.P draw ops.toList (F.av n) L.fn N λFA LA=>iR n (λd=>d∈asg (.region id ops draw)) F L FA LA λF' L'=>(K F' L').holds:=by
 have hd:∀o∈ops.toList,o.dst∈ops.toList.map (·.dst):=by grind
 have hS:∀d,some d∈ops.toList.map (·.dst)->d∈asg (.region id ops draw):=by intro d hd;obtain⟨o,ho,e⟩:=bR.1 hd;exact I8.2 ⟨o,ho,e⟩
 unfold IB at h;split at h
 .split at h
  .rename_i h1 h2 h3;refine⟨_,h1,h2,by rw[Frm.jj];exact h3,?_⟩;refine jk ?_ (yF hX ops.toList 0 F L [] hd hF h);intro FA LA log ht;have hf:yW (Hc ops.toList) log=true:=by
    obtain⟨_,_,_,_,_,_,_,hh⟩:=ht;split at hh
    .assumption
    .exact hh.elim
   refine⟨hf,ht.mono hS λF L _ hh=> ?_⟩;grind
  .exact h.elim
 .split at h
  .rename_i h1;exact⟨h1,jk (λ_ _ _ ht=>ht.mono hS λ_ _ _ h=>h) (yF hX ops.toList 0 F L [] hd hF h)⟩
  .exact h.elim
def FR{X:Cx}(hX:X.Ok){I:Inl}(hI:IA X I){n:Nat}{raw:Nat->Nat->Bool}:∀(c:Code) (al:Nat->Bool) (A:List (Nat×Ann)) (Q:pV) (F:Frm) (L:aP) (N:Nat),(∀d∈asg c,al d=true)->F.ok->(vc X I n raw c al A Q F L N).holds->
  awp X.P c (λe FA LA N'=>iR n (λd=>al d=true) F L FA LA λF' L'=>(Q e F' L' N').holds) (F.av n) L.fn N:=by
 intro c;induction c with
 |skip=>intro al A Q F L N hal hF h;exact⟨F,L,rfl,rfl,hF,Pre.rfl,iC.rfl,h⟩
 |region id ops draw=>
  intro al A Q F L N hal hF h;unfold vc at h;cases draw with
  |true=>
   have:=Np (draw:=true) hX hF h;left;obtain⟨anc,h1,h2,h3,h4⟩:=this;exact⟨anc,h1,h2,h3,jk (λF L log ⟨a,b⟩=>⟨a,b.mono hal λ_ _ _ h=>h⟩) h4⟩
  |false=>
  split at h
  .rename_i pre o f args _ hin;obtain⟨e1,e2,c,e3,e4,e5⟩:=Vm hin;have hd:∀o'∈pre,o'.dst∈ops.toList.map (·.dst):=by grind
   have hS:∀d,some d∈ops.toList.map (·.dst)->al d=true:=by intro d hd;obtain⟨o',ho,e⟩:=bR.1 hd;exact hal d (I8.2 ⟨o',ho,e⟩)
   refine .inr ⟨rfl,pre,o,e1,e2,jk ?_ (yF hX pre 0 F L [] hd hF h)⟩;rintro FA LA log ⟨F',L',rfl,rfl,hF',hpre,hpreL,hh⟩;refine(hI f _ F' n L' _ _ o c e3 e4 ?_ hh).mono ?_
   .rw[e5,jY,dU];exact List.map_congr_left λx _=>(F5 x).symm
   .rintro FA LA N' ⟨r,L2,hr,rfl,rfl,hpl,hq⟩;refine⟨pY n F' o.dst r,L2,by rw[GV],rfl,GU hF' hr,((hpre.mono hS).trans (Ff λt ht=>hS t ?_)),hpreL.trans hpl,hq⟩;grind
  .have:=Np (draw:=false) hX hF h;left;obtain⟨h1,h2⟩:=this;exact⟨h1,jk (λF L log b=>b.mono hal λ_ _ _ h=>h) h2⟩
 |seq a b iha ihb=>
  intro al A Q F L N hal hF h;have hala:∀d∈asg a,al d=true:=λd hd=>hal d (ig _ hd);have halb:∀d∈asg b,al d=true:=λd hd=>hal d (gq _ hd);unfold vc at h;split at h
  .have h1:=iha al A _ F L N hala hF h;refine⟨λFA LA N'=>iR n (λd=>al d=true) F L FA LA λF' L'=>(vc X I n raw b al A Q F' L' N').holds,ng a ?_ h1,?_⟩
   .grind
   .rintro FA LA N' ⟨F',L',rfl,rfl,hF',hpre,hpreL,hh⟩;refine⟨_,_,_,fe.rfl,ng b ?_ (ihb al A Q F' L' N' halb hF' hh)⟩;intro e FA LA N' ht;exact ht.step hpre hpreL
  .rename_i Y wit rk inv upd obs mu inner hA;split at h
   case h_2=>exact h.elim
   rename_i hbad;have hbad:=iG hbad;obtain⟨h1,h2⟩:=Fm.ut h;have hmem:∀d,mem (asg a) d=true->d∈asg a:=λd=>(mem_iff d _).1;have h1:=iha (mem (asg a)) A _ F L N (λd hd=>(mem_iff _ _).2 hd) hF h1;refine UO (λFA LA N'=>∃y,(∀p∈inv y,p)/\(∀q∈upd y,q.2.ok)/\FA=(lj F (upd y) (asg a++kH F rk N F)).av n/\LA=(ja L (obs y)).fn/\N'=sJ N rk) (ng a ?_ h1) ?_
   .intro e FA LA N' ht;cases e
    case normal=>
     obtain⟨F',L',rfl,rfl,hF',hpre,hpreL,hh⟩:=ht;obtain⟨y,hh⟩:=FG hh;obtain⟨k1,k2,k3⟩:=Gq (N':=N') (hav:=asg a++kH F rk N F) hh (hpre.mono (by grind)) (by grind) hpreL;grind
    all_goals exact ht.mono (by grind) λ_ _ _ h=>h
   .rintro FA LA N' ⟨y,hy,hok,rfl,rfl,rfl⟩;have h2:=Ki ((h2:∀y:Y,Fm.holds _) y) hy;split at h2
    case h_2=>exact h2.elim
    rename_i hu;have hu:=iG hu;refine ng b ?_ (ihb al (inner y++A) Q _ _ _ halb (NJ hF hok) h2);intro e FA LA N' ht;refine ht.step (Lt.mono ?_) E6;rintro d (hd|hd)
    .obtain⟨q,hq,rfl⟩:=bR.1 hd;rcases bl.1 ((mem_iff _ _).1 (hu q hq))with hd|hd
     .grind
     grind
    grind
 |cond c t e iht ihe=>
  intro al A Q F L N hal hF h;have halt:∀d∈asg t,al d=true:=λd hd=>hal d (ig _ hd);have hale:∀d∈asg e,al d=true:=λd hd=>hal d (gq _ hd);unfold vc at h;have ev:∀v,uF n F c=v->kX (F.av n) c=v.av:=λv hv=>by rw[<-F5,hv]
  split at h
  .rename_i hc;exact⟨true,ev _ hc,by grind,by grind⟩
  .rename_i hc;exact⟨false,ev _ hc,(by grind),by grind⟩
  .rename_i p d hc;obtain⟨h1,h2⟩:=Fm.ut h;refine⟨@decide p d,ev _ hc,λhh=>iht al A Q F L N halt hF ((h1:p->_) (by grind)),λhh=>ihe al A Q F L N hale hF ((h2:¬p->_) (by grind))⟩
  .rename_i b hc;obtain⟨h1,h2⟩:=Fm.ut h;exact⟨b,ev _ hc,λhh=>iht al A Q F L N halt hF ((h1:b=true->_) hh),λhh=>ihe al A Q F L N hale hF ((h2:b=false->_) hh)⟩
  .exact h.elim
 |block id c ih=>
  intro al A Q F L N hal hF h;have:=ih al A _ F L N hal hF h;refine ng c ?_ this;intro e FA LA N' ht;cases e
  case exit id'=>
   dsimp only at ht|-;cases hb:bF id' id with
   |true=>
    simp_all
   |false=>
    rw[if_neg (mZ hb)];grind
  all_goals exact ht
 |loop c ih=>
  intro al A Q F L N hal hF h;unfold vc at h;split at h
  .split at h
   case h_2=>exact h.elim
   rename_i k0 _
   let rep:Nat->List AV->Sto->Nat->Prop:=λk FA LA N'=>iR n (λd=>al d=true) F L FA LA λF' L'=>(unr (λQ F L N=>vc X I n raw c al A Q F L N) Q k F' L' N').holds
   have hmu:∃μ:List AV->Sto->Nat->Nat,∀FA LA N',(∃k,rep k FA LA N')->rep (μ FA LA N') FA LA N'/\∀k,rep k FA LA N'->μ FA LA N'<=k:=by
    have:∀FA LA N',∃k,(∃k,rep k FA LA N')->rep k FA LA N'/\∀j,rep j FA LA N'->k<=j:=by
     intro FA LA N';by_cases hh:∃k,rep k FA LA N'
     .obtain⟨k,h1,h2⟩:=least hh;exact⟨k,by grind⟩
     .simp_all
    exact⟨λFA LA N'=>Classical.choose (this FA LA N'),λFA LA N'=>Classical.choose_spec (this FA LA N')⟩
   obtain⟨μ,hμ⟩:=hmu;refine Xs (λFA LA N'=>∃k,rep k FA LA N') μ ⟨_,_,_,fe.rfl,k0,⟨F,L,rfl,rfl,hF,Pre.rfl,iC.rfl,h⟩⟩ ?_;intro FA LA N' hr;have hk:=(hμ FA LA N' hr).1;generalize hkk:μ FA LA N'=k at hk|-;obtain⟨F',L',rfl,rfl,hF',hpre,hpreL,hh⟩:=hk;cases k with
   |zero=>exact hh.elim
   |succ k=>
    refine ng c ?_ (ih al A _ F' L' N' hal hF' hh);intro e FA LA N2 ht;have ht:=ht.step hpre hpreL;cases e
    case normal=>
     have hr2:rep k FA LA N2:=ht;exact⟨_,_,_,fe.rfl,⟨k,hr2⟩,Nat.lt_succ_of_le ((hμ _ _ _ ⟨k,hr2⟩).2 k hr2)⟩
    all_goals exact ht
  rename_i Y wit rk inv upd obs mu inner hA;split at h
  case h_2=>exact h.elim
  rename_i hbad;have hbad:=iG hbad;obtain⟨h1,h2⟩:=Fm.ut h;obtain⟨y0,h1⟩:=FG h1;have hmem:∀d,mem (asg c) d=true->d∈asg c:=λd=>(mem_iff d _).1
  let hav:=asg c++kH F rk N F
  let rep:Y->List AV->Sto->Prop:=λy FA LA=>(∀p∈inv y,p)/\(∀q∈upd y,q.2.ok)/\FA=(lj F (upd y) hav).av n/\LA=(ja L (obs y)).fn
  obtain⟨k1,k2,k3⟩:=Gq (N':=N) (hav:=hav) h1 Pre.rfl (by grind) iC.rfl;have hmu:∃μ:List AV->Sto->Nat,∀FA LA,(∃y,rep y FA LA)->∃y,rep y FA LA/\mu y=μ FA LA/\∀z,rep z FA LA->μ FA LA<=mu z:=by
   have:∀FA LA,∃k,(∃y,rep y FA LA)->∃y,rep y FA LA/\mu y=k/\∀z,rep z FA LA->k<=mu z:=by
    intro FA LA;by_cases hh:∃y,rep y FA LA
    .obtain⟨y,hy⟩:=hh;obtain⟨k,⟨z,hz,e⟩,hk⟩:=least (p:=λk=>∃y,rep y FA LA/\mu y=k) ⟨_,y,hy,rfl⟩;exact⟨k,by grind⟩
    .exact⟨0,by grind⟩
   exact⟨λFA LA=>Classical.choose (this FA LA),λFA LA=>Classical.choose_spec (this FA LA)⟩
  obtain⟨μ,hμ⟩:=hmu;refine Ze (λFA LA N'=>(∃y,rep y FA LA)/\N'=sJ N rk) μ (by grind) ?_;rintro FA LA N' ⟨hr,rfl⟩;obtain⟨x,⟨hx,hok,rfl,rfl⟩,hmx,_⟩:=hμ FA LA hr;have h2:=Ki ((h2:∀x:Y,Fm.holds _) x) hx;split at h2
  case h_2=>exact h2.elim
  rename_i hu;have hu:=iG hu;have hpre0:Pre (λd=>d∈hav) F (lj F (upd x) hav):=by
   refine Lt.mono ?_;rintro d (hd|hd)
   .obtain⟨q,hq,rfl⟩:=bR.1 hd;exact(mem_iff _ _).1 (hu q hq)
   .exact hd
  refine ng c ?_ (ih (mem (asg c)) (inner x++A) _ _ _ _ (λd hd=>(mem_iff _ _).2 hd) (NJ hF hok) h2);intro e FA' LA' N' ht;have up:∀(G:Frm->aP->Prop),iR n (λd=>mem (asg c) d=true) (lj F (upd x) hav) (ja L (obs x)) FA' LA' G->iR n (λd=>al d=true) F L FA' LA' G:=by
   intro G ht;refine(ht.mono (λd hd=>hal d (hmem d hd)) λ_ _ _ h=>h).step (hpre0.mono ?_) E6;intro d hd;rcases bl.1 hd with hd|hd
   .exact hal d hd
   .grind
  cases e
  case normal=>
   obtain⟨F',L',rfl,rfl,hF',hpre,hpreL,hh⟩:=ht;obtain⟨y,hh⟩:=FG hh;obtain⟨k1,k2,k3⟩:=Gq (N':=N') (hav:=hav) hh (hpre0.trans (hpre.mono (by grind))) (by grind) (E6.trans hpreL);have hry:rep y ((lj F (upd y) hav).av n) (ja L (obs y)).fn:=⟨λp h=>k2 p (by grind),k3,rfl,rfl⟩;refine⟨_,_,_,k1,by grind,?_⟩;obtain⟨z,_,ez,hz⟩:=hμ _ _ ⟨y,hry⟩;have g1:=hz y hry;have g2:mu y<mu x:=k2 _ (by grind);omega
  all_goals exact up _ ht
 |exit id=>intro al A Q F L N hal hF h;exact⟨F,L,rfl,rfl,hF,Pre.rfl,iC.rfl,h⟩
 |ret=>intro al A Q F L N hal hF h;exact⟨F,L,rfl,rfl,hF,Pre.rfl,iC.rfl,h⟩
 |rangeFunc f params x y _ _=>intro al A Q F L N hal hF h;exact h.elim
 |scope c ih=>
  intro al A Q F L N hal hF h;refine ng c ?_ (ih al A _ F L N hal hF h);intro e FA LA N' ht;cases e<;>first|exact ht|(obtain⟨_,_,_,_,_,_,_,hh⟩:=ht;exact hh.elim)
 |label l=>intro al A Q F L N hal hF h;exact⟨F,L,rfl,rfl,hF,Pre.rfl,iC.rfl,h⟩
 |goto l=>intro al A Q F L N hal hF h;exact h.elim
 |refuse s=>intro al A Q F L N hal hF h;exact h.elim
end
section
noncomputable section
def pX(P:Program)(n:Nat)(F:Frm)(σ:Sg):List ResultVar->Option (List SV)
 |[] =>some []
 | .tmp t::rs=>(match i5 t n,pX P n F σ rs with|true,some l=>some (F.at t::l)|_,_=>none)
 | .cell a t::rs=>(match i5 a n,F.at a,pX P n F σ rs with
   |true,.ptr s off,some l=>(match σ s with
    |some (.box _ cs)=>(match pS P t cs off with|some r=>some (r::l)|none=>none)
    |some (.arr _ _ cs)=>(match pS P t cs off with|some r=>some (r::l)|none=>none)
    |_=>none)
   |_,_,_=>none)
def rY{P:Program}{n:Nat}{F:Frm}{σ:Sg}:∀{rs:List ResultVar} {l:List SV} {K:List AV->Prop},pX P n F σ rs=some l->K (avs l)->jI P rs (F.av n) σ.a K
 |[],l,K,h,hK=>by cases h;exact hK
 | .tmp t::rs,l,K,h,hK=>by
   unfold pX at h;split at h<;>cases h;rename_i l' h1 h2;unfold jI;refine rY h2 ?_;rw[Frm.mv ((kT _ _).1 h1)];exact hK
 | .cell a t::rs,l,K,h,hK=>by
   unfold pX at h;split at h
   case h_2=>cases h
   rename_i s off l' h1 h2 h3;unfold jI;rw[Frm.mv ((kT _ _).1 h1),h2];split at h
   .rename_i ty cs hs;split at h<;>cases h;rename_i r hr;exact⟨_,by rw[Sg.cP,hs];rfl,rO hr (rY h3 hK)⟩
   .rename_i ty ez cs hs;split at h<;>cases h;rename_i r hr;exact⟨_,by rw[Sg.cP,hs];rfl,rO hr (rY h3 hK)⟩
   .cases h
def uI:List SV->SV
 |[x] =>x
 |l=> .tup l
def DA(P:Program)(n:Nat)(rs:List ResultVar)(r:SV)(F:Frm)(L:aP):Fm:=match pX P n F L.at rs with
 |some l=>(match kc (lJ 3 L.at) l with
  |some (ps,m)=>(match eqv 3 r (uI m)with
   |some (qs,[])=>rq (ps++qs) .tt
   |_=> .stuck 920000)
  |none=> .stuck 930000)
 |none=> .stuck 940000
def Sa(P:Program)(n:Nat)(rs:List ResultVar)(r:SV):pV:=λe F L _=>match e with
 | .normal=>DA P n rs r F L
 | .ret=>DA P n rs r F L
 |_=> .stuck 910000
def aAc{P:Program}{n:Nat}{rs:List ResultVar}{r:SV}{q:PV}(hr:r.av= .p q){e:Exit}{F:Frm}{L:aP}{N:Nat}(h:(Sa P n rs r e F L N).holds):IJ P rs q e (F.av n) L.fn N:=by
 have key:(DA P n rs r F L).holds->jI P rs (F.av n) L.fn λl=>∃m,dr (dL 3 L.fn) l=some m/\wQ m=q:=by
  intro h;unfold DA at h;split at h
  case h_2=>exact h.elim
  rename_i l hl;split at h
  case h_2=>exact h.elim
  rename_i ps m hm;split at h
  case h_2=>exact h.elim
  rename_i qs he;have hp:=(ss h).1;have e2:Sg.a L.at=L.fn:=rfl;rw[<-e2];refine rY hl ?_;obtain⟨u,h1,h2⟩:=yK (λx ps y=>FX) hm (λp hpp=>hp p (by grind));refine⟨u,h1,?_⟩;have h3:=vT (m:=λ_=>none) 3 r (uI m) qs [] he (λp hpp=>hp p (by grind)) (λq hq=>by cases hq);rw[hr]at h3;unfold fw at h3;have h4:(uI m).av= .p (wQ u):=by
   cases m with
   |nil=>
    have:u=[] :=by have:=congrArg eQ h2;simp[avs]at this;grind
    subst this;rfl
   |cons x m=>
    cases m with
    |nil=>
     cases u with
     |nil=>simp[avs]at h2
     |cons y u=>
      have h5:u=[] :=by have:=congrArg eQ h2;simp only[avs,dX,List.length_cons,List.length_nil,di]at this;grind
      subst h5;simp only[avs,dX,po,List.cons.injEq,and_true]at h2;exact h2
    |cons y m=>
     have h5:(uI (x::y::m)).av=kW (avs (x::y::m)):=rfl;rw[h5,h2];unfold kW;rw[dV];cases u with
     |nil=>simp[avs]at h2
     |cons a u=>
      cases u with
      |nil=>simp[avs]at h2
      |cons b u=>rfl
  rw[h4]at h3;cases h3;rfl
 cases e<;>first|exact h.elim|exact key h
structure Ar(α:Type) where
 enc:α->SV
 dec:SV->Option α
 ok:∀s a,dec s=some a->s.av=(enc a).av
 pl:∀a,∃q,(enc a).av= .p q
structure Arl(α:Type) where
 enc:α->List SV
 dec:List SV->Option α
 ok:∀s a,dec s=some a->avs s=avs (enc a)
 pl:∀a,∃q:List PV,avs (enc a)=q.map .p
def a0:Arl Unit:=⟨λ_=>[],λl=>match l with|[] =>some ()|_=>none,by grind,λ_=>⟨[],rfl⟩⟩
def a1{α:Type}(A:Ar α):Arl α:=⟨λa=>[A.enc a],λl=>match l with|[x] =>A.dec x|_=>none,λs a h=>by
  match s,h with
  |[x],h=>simp only[avs,A.ok x a h],
 λa=>by obtain⟨q,h⟩:=A.pl a;exact⟨[q],by simp only[avs,h,dX,po]⟩⟩
def ac{α β:Type}(A:Ar α)(B:Arl β):Arl (α×β):=⟨λa=>A.enc a.1::B.enc a.2,λl=>match l with
  |x::r=>(match A.dec x,B.dec r with|some a,some b=>some (a,b)|_,_=>none)
  |_=>none,λs a h=>by
  match s,h with
  |x::r,h=>
   dsimp only at h;split at h<;>cases h;rename_i a b h1 h2;simp only[avs,A.ok x a h1,B.ok r b h2],
 λa=>by obtain⟨q,h⟩:=A.pl a.1;obtain⟨r,k⟩:=B.pl a.2;exact⟨q::r,by simp only[avs,h,k,dX]⟩⟩
def aI:Ar Int:=⟨λn=> .int .i64 n,λs=>match s with| .int .i64 n=>some n|_=>none,by grind,λ_=>⟨_,rfl⟩⟩
def aN:Ar Nat:=⟨λn=> .int .i64 (n:Int),λs=>match s with| .int .i64 (.ofNat n)=>some n|_=>none,λ_ _ h=>by
 (split at h<;>cases h;rfl),λ_=>⟨_,rfl⟩⟩
def aB:Ar Bool:=⟨λb=> .bool b,y6,λ_ _ h=>x9 h,λ_=>⟨_,rfl⟩⟩
def aV:Ar V:=⟨λv=> .agg [.int .i64 v.x,.int .i64 v.y],λs=>match s with| .agg [.int .i64 x,.int .i64 y] =>some ⟨x,y⟩|_=>none,by grind,λ_=>⟨_,rfl⟩⟩
def aS:Ar Geo.S:=⟨λs=> .agg [.int .i64 s.a.x,.int .i64 s.a.y,.int .i64 s.b.x,.int .i64 s.b.y],λs=>match s with| .agg [.int .i64 x,.int .i64 y,.int .i64 z,.int .i64 w] =>some ⟨⟨x,y⟩,⟨z,w⟩⟩|_=>none,by grind,λ_=>⟨_,rfl⟩⟩
def aT:Ar Pt:=⟨λp=> .agg [.int .i64 p.x,.int .i64 p.y,.int .i64 p.den],λs=>match s with| .agg [.int .i64 x,.int .i64 y,.int .i64 z] =>some ⟨x,y,z⟩|_=>none,by grind,λ_=>⟨_,rfl⟩⟩
def pZ(t:LT)(s:SV):Option (List t.ty):=match s with
 | .lst t' l=>(match decEq t' t with| .isTrue h=>some (h▸l)| .isFalse _=>none)
 | .sl 0 [] =>some []
 | .sl n cs=>t.decs n cs
 |_=>none
def rZ{t:LT}{s:SV}{l:List t.ty}(h:pZ t s=some l):s.av= .p (.sl l.length (t.enc l)):=by
 unfold pZ at h;split at h
 .split at h
  .rename_i e _;subst e;cases h;rfl
  .cases h
 .cases h;rfl
 .rename_i n cs _;obtain⟨e1,e2⟩:=LT.vV h;show(match bT (avs cs)with|some q=>AV.p (.sl n q)|none=> .any)=_;rw[e2,dV,e1]
 .cases h
def aL(t:LT):Ar (List t.ty):=⟨λl=> .lst t l,pZ t,λ_ _ h=>rZ h,λ_=>⟨_,rfl⟩⟩
def shD(s:SV):Option Shape:=match s with
 | .agg [r,h] =>(match pZ .V r,pZ .R h with|some o,some hs=>some ⟨o,hs⟩|_,_=>none)
 |_=>none
def aBl(s:SV)(a:Shape)(h:shD s=some a):s.av=(SV.agg [.lst .V a.outer,.lst .R a.holes]).av:=by
 unfold shD at h;split at h
 .split at h<;>cases h;rename_i o hs h1 h2;simp only[SV.av,avs,rZ h1,rZ h2]
 .cases h
def aSh:Ar Shape:=⟨λs=> .agg [.lst .V s.outer,.lst .R s.holes],shD,aBl,λ_=>⟨_,rfl⟩⟩
def con{α:Type}(A:Arl α)(pre:α->List Prop)(res:α->SV):Con:=⟨α,A.dec,pre,.val false res⟩
def ph(l:List SV):Nat->Frm
 |k=>match l with
  |[] =>[]
  |x::l=>(k,x)::ph l (k+1)
def Gv:∀(l:List SV) (k t:Nat),(ph l k).at t=if k<=t then(match l[t-k]? with|some x=>x|none=> .undef)else .undef
 |[],k,t=>by simp[ph,Frm.at]
 |x::l,k,t=>by
  unfold ph;rw[Frm.mF,Gv l (k+1) t];grind
def Nj{l:List SV}{n:Nat}(hn:l.length<=n):(ph l 0).av n=avs l++cl (n-(avs l).length) .undef:=by
 apply List.ext_getElem?;intro i;unfold Frm.av;rw[gr];by_cases hi:i<n
 .rw[List.getElem?_range hi,eJ,Gv,if_pos (kK _),Nat.sub_zero];by_cases h2:i<l.length
  .rw[List.getElem?_append_left (by rw[jv];exact h2),yP,dw h2];rfl
  .rw[List.getElem?_append_right (by rw[jv];omega),List.getElem?_replicate,mY (by omega),jv,if_pos (by omega)];rfl
 .rw[mY (by simp;omega),mY (by simp[jv];omega)];rfl
def Gu{args:List SV}(hpe:∀v∈args,v.ape=false):(ph args 0).ok:=by
 intro t;rw[Gv,if_pos (kK _)];split
 .rename_i x hx;exact SV.oJ (by grind)
 .trivial
def aBP:aP.fn [] =λ_=>none:=by
 funext s
 rcases kq s with⟨x,rfl⟩|⟨x,a,rfl⟩|hno
 .exact Sg.cP _ x
 .exact Sg.fX _ x a
 .exact Sg.kI _ hno
def uB:Nat->Nat->Bool:=λ_ _=>false
def IQ(X:Cx):Inl:=λf xs F n L N K=>match kE X.P f,X.P.funcs[f]?,L.at 0 with
 |true,some fn,some (.box 0 (.undef::S))=>(match fn.body with
  |some c=>(match nQ xs.length fn.ntmps,fF (λv:SV=>match v.ape with|true=>false|false=>true) xs with
   |true,true=>
    let fin:Frm->aP->Nat->Fm:=λF' L' N'=>match fF (λq:Nat×Option SOb=>match bF q.1 0 with|true=>false|false=>true) (L'.take (L'.length-(L.length+1)))with
     |true=>(match pX X.P fn.ntmps F' L'.at fn.results.toList with
      |some [] =>K .undef ((0,some (.box 0 (.undef::S)))::L') N'
      |some [r] =>(match r.ape with|false=>K r ((0,some (.box 0 (.undef::S)))::L') N'|true=> .stuck 991001)
      |_=> .stuck 991002)
     |false=> .stuck 991003
    vc X Hw fn.ntmps uB c (λ_=>true) [] (λe F' L' N'=>match e with
     | .normal=>fin F' L' N'
     | .ret=>fin F' L' N'
     |_=> .stuck 991004) (ph xs 0) ((0,some (.box 0 (.undef::(S++(bM n).map F.at))))::L) N
   |_,_=> .stuck 991005)
  |none=> .stuck 991006)
 |_,_,_=> .stuck 991007
def Zg{L:aP}{pre:aP}{s:Nat}(h:∀q∈pre,q.1≠s):aP.at (pre++L) s=L.at s:=by
 induction pre with
 |nil=>rfl
 |cons q pre ih=>
  obtain⟨k,x⟩:=q;have hk:bF s k=false:=by
   cases hb:bF s k with
   |false=>rfl
   |true=>simp_all
  show(match bF s k with|true=>x|false=>aP.at (pre++L) s)=_;grind
def N9{L:aP}{cs T:List SV}(hL:L.at 0=some (.box 0 cs)):aP.fn ((0,some (.box 0 T))::L)=az L.fn [(eY,some ⟨0,0,avs T⟩)] :=by have h:=(bY.flat (σ:=L.at) (rd:=[]) (W:=[(0,some (.box 0 T))]) λq hq=>by rw[bn.1 hq,hL];exact⟨rfl,rfl⟩).2.2;rw[aP.CO]at h;have e:aO 0=eY:=Ad (by unfold NM;omega);unfold aP.fn;rw[show aP.at ((0,some (.box 0 T))::L)=aP.at ([(0,some (SOb.box 0 T))] ++L)from rfl,<-h,<-e];rfl
def PY{L:aP}{cs:List SV}(hL:L.at 0=some (.box 0 cs)):L.fn eY=some ⟨0,0,avs cs⟩:=by have e:aO 0=eY:=Ad (by unfold NM;omega);rw[<-e];show Sg.a L.at (aO 0)=_;rw[Sg.cP,hL];rfl
def Xt(F:Frm)(n:Nat):avs ((bM n).map F.at)=F.av n:=by rw[jY,dU];rfl
def aAC{X:Cx}(hX:X.Ok):IA X (IQ X):=by
 intro f xs F n L N K o c ho hc hargs h;unfold IQ at h;split at h
 case h_2=>exact h.elim
 rename_i fn S hok hf hL;split at h
 case h_2=>exact h.elim
 rename_i body hb;split at h
 case h_2=>exact h.elim
 rename_i hn hpe;have hn:=qB hn;have hpe:∀v∈xs,v.ape=false:=λv hv=>by have:=iG hpe v hv;grind
 have hw:=FR hX (Mz X) body (λ_=>true) [] _ _ _ N (λ_ _=>rfl) (Gu hpe) h;rw[Nj hn,N9 hL]at hw;have hT:avs (.undef::(S++(bM n).map F.at))= .undef::(avs S++F.av n):=by rw[Zf,tI,Xt];rfl
 rw[hT]at hw;refine Y7 (fid:=f) (A:=avs xs) (S:=avs S) (f:= .func f) ho hc rfl hargs hok hf hb (by rw[PY hL];rfl) (ng body ?_ hw);rintro e FA LA N' ⟨F',L',rfl,rfl,hF',hpre,⟨pre,hpl⟩,hh⟩;have fin:(match fF (λq:Nat×Option SOb=>match bF q.1 0 with|true=>false|false=>true) (L'.take (L'.length-(L.length+1)))with
    |true=>(match pX X.P fn.ntmps F' L'.at fn.results.toList with
     |some [] =>K .undef ((0,some (.box 0 (.undef::S)))::L') N'
     |some [r] =>(match r.ape with|false=>K r ((0,some (.box 0 (.undef::S)))::L') N'|true=> .stuck 991001)
     |_=> .stuck 991002)
    |false=> .stuck 991003).holds->
   jI X.P fn.results.toList (F'.av fn.ntmps) L'.fn λl=>∃S2 F2,L'.fn eY=some ⟨0,0,.undef::(S2++F2)⟩/\S2.length=(avs S).length/\F2.length=(F.av n).length/\
    (λFA LA N'=>∃r L2,r.ok/\FA=eP (F.av n) o.dst r.av/\LA=aP.fn L2/\iC L L2/\(K r L2 N').holds) (eP F2 o.dst (sP l)) (az L'.fn [(eY,some ⟨0,0,.undef::S2⟩)]) N':=by
  intro hh;split at hh
  case h_2=>exact hh.elim
  rename_i h0;have hat:L'.at 0=some (.box 0 (.undef::(S++(bM n).map F.at))):=by rw[hpl];have h1:=iG h0;rw[hpl,show(pre++(0,some (SOb.box 0 (.undef::(S++(bM n).map F.at))))::L).length-(L.length+1)=pre.length by simp,Dc]at h1;rw[Zg λq hq e=>by have:=h1 q hq;simp_all];rfl
  have hst:L'.fn eY=some ⟨0,0,.undef::(avs S++F.av n)⟩:=by rw[PY hat,hT]
  have hL2:aP.fn ((0,some (.box 0 (.undef::S)))::L')=az L'.fn [(eY,some ⟨0,0,.undef::avs S⟩)] :=N9 hat;have hpl2:iC L ((0,some (.box 0 (.undef::S)))::L'):=⟨(0,some (.box 0 (.undef::S)))::(pre++[(0,some (.box 0 (.undef::(S++(bM n).map F.at))))]),by grind⟩;split at hh
  .rename_i hr;exact rY hr ⟨avs S,F.av n,hst,rfl,rfl,.undef,_,trivial,rfl,hL2.symm,hpl2,hh⟩
  .rename_i r hr;split at hh
   .rename_i hrp;exact rY hr ⟨avs S,F.av n,hst,rfl,rfl,r,_,SV.oJ hrp,rfl,hL2.symm,hpl2,hh⟩
   .exact hh.elim
  .exact hh.elim
 cases e<;>first|exact fin hh|exact hh.elim
def CN(X:Cx)(st:Bool)(raw:Nat->Nat->Bool)(f:Nat)(ann:List (Nat×Ann))(args:List SV)(post:Nat->List ResultVar->pV):Fm:=match kE X.P f,X.P.funcs[f]? with
 |true,some fn=>(match fn.body with
  |some c=>(match nQ args.length fn.ntmps,fF (λv=>match v.ape with|true=>false|false=>true) args with
   |true,true=>(match st with
    |false=>vc X Hw fn.ntmps raw c (λ_=>true) ann (post fn.ntmps fn.results.toList) (ph args 0) [] 0
    |true=>vc X (IQ X) fn.ntmps raw c (λ_=>true) ann (post fn.ntmps fn.results.toList) (ph args 0) [(0,some (.box 0 [.undef]))] 1)
   |_,_=> .stuck 950000)
  |none=> .stuck 960000)
 |_,_=> .stuck 970000
def QG(X:Cx)(raw:Nat->Nat->Bool)(f:Nat)(ann:List (Nat×Ann))(args:List SV)(post:Nat->List ResultVar->pV):Fm:=CN X false raw f ann args post
def wP(X:Cx)(raw:Nat->Nat->Bool)(f:Nat)(ann:List (Nat×Ann))(args:List SV)(r:SV):Fm:=QG X raw f ann args λn rs=>Sa X.P n rs r
def aBO:aP.fn [(0,some (.box 0 [.undef]))] =y8:=by
 have e:aO 0=eY:=Ad (by unfold NM;omega)
 funext s
 unfold y8;rcases kq s with⟨x,rfl⟩|⟨x,a,rfl⟩|hno
 .show Sg.a _ (aO x)=_;rw[Sg.cP];by_cases hx:x=0
  .subst hx;rw[if_pos e];rfl
  .rw[if_neg (λh=>hx (l8 (h.trans e.symm)))];show Option.map _ (match bF x 0 with|true=>_|false=>none)=none;cases hb:bF x 0 with
   |true=>simp_all
   |false=>rfl
 .show Sg.a _ (inn x (a+1))=_;rw[Sg.fX,if_neg (λh=>by have h:inn x (a+1)=aO 0:=h.trans e.symm;have:=(fJ h).2;omega)];show Option.bind (match bF x 0 with|true=>_|false=>none) _=none;cases bF x 0<;>rfl
 .show Sg.a _ s=_;rw[Sg.kI _ hno,if_neg (λh=>hno 0 0 (h.trans e.symm))]
def FP{X:Cx}(hX:X.Ok){st:Bool}{raw:Nat->Nat->Bool}{f:Nat}{ann:List (Nat×Ann)}{args:List SV}{post:Nat->List ResultVar->pV}{A:List PV}{Q:List ResultVar->pW}(hA:avs args=A.map .p)
  (hQ:∀n rs e (F:Frm) (L:aP) N,(post n rs e F L N).holds->Q rs e (F.av n) L.fn N) (h:(CN X st raw f ann args post).holds):
  kE X.P f=true/\∃fn c L0 N0,X.P.funcs[f]? =some fn/\fn.body=some c/\tq L0 N0/\awp X.P c (Q fn.results.toList) (A.map .p++cl (fn.ntmps-A.length) .undef) L0 N0:=by
 unfold CN at h;split at h
 case h_2=>exact h.elim
 rename_i fn hok hf;split at h
 case h_2=>exact h.elim
 rename_i c hb;split at h
 case h_2=>exact h.elim
 rename_i hn hpe;have hn:=qB hn;have hpe:∀v∈args,v.ape=false:=λv hv=>by have:=iG hpe v hv;grind
 have hal:(A.map AV.p).length=A.length:=by grind
 have hAF:A.map .p++cl (fn.ntmps-A.length) .undef=(ph args 0).av fn.ntmps:=by rw[Nj hn,hA,hal]
 split at h
 .refine⟨hok,fn,c,aP.fn [],0,hf,hb,.inl ⟨aBP,rfl⟩,?_⟩;rw[hAF];refine ng c ?_ (FR hX (Mz X) c (λ_=>true) ann _ _ [] 0 (λ_ _=>rfl) (Gu hpe) h);rintro e FA LA N' ⟨F',L',rfl,rfl,_,_,_,hh⟩;grind
 .refine⟨hok,fn,c,aP.fn [(0,some (.box 0 [.undef]))],1,hf,hb,.inr ⟨aBO,rfl⟩,?_⟩;rw[hAF];refine ng c ?_ (FR hX (aAC hX) c (λ_=>true) ann _ _ _ 1 (λ_ _=>rfl) (Gu hpe) h);rintro e FA LA N' ⟨F',L',rfl,rfl,_,_,_,hh⟩;grind
def Xz{X:Cx}(hX:X.Ok){raw:Nat->Nat->Bool}{f:Nat}{ann:List (Nat×Ann)}{args:List SV}{r:SV}{A:List PV}{q:PV}(hA:avs args=A.map .p)(hq:r.av= .p q)(h:(wP X raw f ann args r).holds):Sat X.P false f A q:=by obtain⟨hok,fn,c,L0,N0,hf,hb,h0,hw⟩:=FP hX (st:=false) (Q:=λrs=>IJ X.P rs q) hA (λn rs e F L N hh=>aAc hq hh) h;exact VU hok hf hb h0 hw
def DB(P:Program)(n:Nat)(rs:List ResultVar)(ty:Nat)(t:LT)(l:List t.ty)(ys:List SV)(F:Frm)(L:aP):Fm:=match pX P n F L.at rs with
 |some (v::r)=>(match pf (eqv 3) ys r with
  |some (qs,[])=>(match v with
   | .nil=>rq ((l=[])::qs) .tt
   | .own s _ k=>(match L.at s with
     |some (.row ty' t' l')=>(match bF ty' ty,decEq t' t with
      |true,.isTrue h=>rq ([(h▸l':List t.ty)=l,k=l'.length] ++qs) .tt
      |_,_=> .stuck 980001)
     |_=> .stuck 980002)
   |_=> .stuck 980003)
  |_=> .stuck 980004)
 |_=> .stuck 980005
def QU(P:Program)(ty:Nat)(t:LT)(l:List t.ty)(ys:List SV)(n:Nat)(rs:List ResultVar):pV:=λe F L _=>match e with
 | .normal=>DB P n rs ty t l ys F L
 | .ret=>DB P n rs ty t l ys F L
 |_=> .stuck 910000
def Ml{m:Rf}:∀{q:List PV} {r:List AV},fm m (q.map .p) r->r=q.map .p
 |[],r,h=>by exact h
 |x::q,r,h=>by
  obtain⟨y,r',rfl,h1,h2⟩:=h;rw[h1,Ml h2];rfl
def Ye{P:Program}{n:Nat}{rs:List ResultVar}{ty:Nat}{t:LT}{l:List t.ty}{ys:List SV}{Y:List PV}(hY:avs ys=Y.map .p){e:Exit}{F:Frm}{L:aP}{N:Nat}(h:(QU P ty t l ys n rs e F L N).holds):IK P rs ty t.w (t.enc l) l.length Y e (F.av n) L.fn N:=by
 have key:(DB P n rs ty t l ys F L).holds->jI P rs (F.av n) L.fn λlA=>(∃s,lA= .own s 0 l.length::Y.map .p/\L.fn s=some ⟨ty,t.w,(t.enc l).map .p⟩)\/(lA= .nil::Y.map .p/\l.length=0/\t.enc l=[]):=by
  intro h;unfold DB at h;split at h
  case h_2=>exact h.elim
  rename_i v r hl;split at h
  case h_2=>exact h.elim
  rename_i qs he;have e2:Sg.a L.at=L.fn:=rfl;have hr:(∀p∈qs,p)->avs r=Y.map .p:=λhp=>by have:=rS (m:=λ_=>none) (vT 3) he hp (λq hq=>by cases hq);rw[hY]at this;exact Ml this
  rw[<-e2];refine rY hl ?_;split at h
  .have hp:=(ss h).1;have hl0:l=[] :=hp _ (by grind);subst hl0;refine .inr ⟨?_,rfl,rfl⟩;show AV.nil::avs r=_;grind
  .rename_i s t2 k;split at h
   case h_2=>exact h.elim
   rename_i ty' t' l' hs;split at h
   case h_2=>exact h.elim
   rename_i h2 hty _;subst h2;have hp:=(ss h).1;have h3:l'=l:=hp _ (by grind);have h4:k=l'.length:=hp _ (by grind);subst h3;refine .inl ⟨aO s,?_,?_⟩
   .show AV.own (aO s) 0 k::avs r=_;grind
   .rw[Sg.cP,hs,<-dN hty];rfl
  .exact h.elim
 cases e<;>first|exact h.elim|exact key h
def DE{α:Type}(A:Arl α)(pre:α->List Prop)(ty:Nat)(t:LT)(l:α->List t.ty)(ys:α->List SV):Con:=⟨α,A.dec,pre,.own ty t l ys⟩
def Gs{X:Cx}(hX:X.Ok){raw:Nat->Nat->Bool}{f:Nat}{α:Type}{A:Arl α}{pre:α->List Prop}{ty:Nat}{t:LT}{l:α->List t.ty}{ys:α->List SV}(ann:α->List (Nat×Ann))(hr:∀x,∃q:List PV,avs (ys x)=q.map .p)
  (h:∀x,pi (pre x)->(QG X raw f (ann x) (A.enc x) (QU X.P ty t (l x) (ys x))).holds):(DE A pre ty t l ys).Ok X.P f:=by
 intro s x hd hp;obtain⟨B,hB⟩:=A.pl x;obtain⟨q,hq⟩:=hr x;obtain⟨hok,fn,c,L0,N0,hf,hb,h0,hw⟩:=FP hX (st:=false) (Q:=λrs=>IK X.P rs ty t.w (t.enc (l x)) (l x).length q) hB (λn rs e F L N hh=>Ye hq hh) (h x (jz.2 hp));exact⟨B,q,by rw[A.ok s x hd,hB],hq,Ub hok (oh t.lH) hf hb h0 hw⟩
def vq{X:Cx}(hX:X.Ok){raw:Nat->Nat->Bool}{f:Nat}{α:Type}{A:Arl α}{pre:α->List Prop}{res:α->SV}(ann:α->List (Nat×Ann))(hr:∀x,∃q,(res x).av= .p q)(h:∀x,pi (pre x)->(wP X raw f (ann x) (A.enc x) (res x)).holds):(con A pre res).Ok X.P f:=by intro s x hd hp;obtain⟨B,hB⟩:=A.pl x;obtain⟨q,hq⟩:=hr x;exact⟨B,q,by rw[A.ok s x hd,hB],hq,Xz hX hB hq (h x (jz.2 hp))⟩
def yY(r:Rm):List Nat:=match r with
 |[] =>[]
 |(k,none)::r=>k::yY r
 |(_,some _)::r=>yY r
def Ht(ns:List Nat)(r:Rm):Bool:=fF (λq:Nat×Option Nat=>match q.2 with
 |some k=>(match bF q.1 k,mem ns q.1 with|true,false=>true|_,_=>false)
 |none=>mem ns q.1) r
open Classical in
def idm(ns:List Nat):Rf:=λs=>if∃k∈ns,s=aO k then some none else some (some s)
def Qf{ns:List Nat}{k:Nat}(h:mem ns k=false):idm ns (aO k)=some (some (aO k)):=by unfold idm;rw[if_neg];rintro⟨x,hx,e⟩;rw[l8 e,(mem_iff x ns).2 hx]at h;cases h
def Pu(ns:List Nat)(x a:Nat):idm ns (inn x (a+1))=some (some (inn x (a+1))):=by unfold idm;rw[if_neg];rintro⟨y,hy,e⟩;have:=(fJ e).2;omega
def Md{ns:List Nat}{r:Rm}(h:Ht ns r=true):kV (idm ns) r:=by
 intro q hq;have h:=iG h q hq;obtain⟨s,o⟩:=q;cases o with
 |none=>
  exact if_pos ⟨s,(mem_iff s ns).1 h,rfl⟩
 |some k=>
  dsimp only at h;split at h
  .rename_i e1 e2;rw[<-dN e1];exact Qf e2
  .cases h
def yh(ns:List Nat)(σ:Sg):aP->Option (List Prop)
 |[] =>some []
 |(_,none)::_=>none
 |(k,some ob)::l=>match yh ns σ l with
  |none=>none
  |some ps=>(match mem ns k with
   |true=>(match ob with| .row _ _ c=>some ((c=[])::ps)|_=>none)
   |false=>(match σ k with
    |none=>none
    |some ob'=>(match wJ ob ob' with
     |some (p,r)=>(match Ht ns r with|true=>some (p++ps)|false=>none)
     |none=>(match y4 [] k k ob ob' with
      |some p=>some (p++ps)
      |none=>none))))
def Lx{ns:List Nat}{σ:Sg}:∀{l:aP} {ps:List Prop},yh ns σ l=some ps->(∀p∈ps,p)->∀k o,(k,o)∈l->∃ob,o=some ob/\
  ((mem ns k=true/\∃ty t,ob= .row ty t [])\/(mem ns k=false/\∃ob',σ k=some ob'/\qj (idm ns) (ob.ob k) (ob'.ob k)/\(ob.flat=true\/ob=ob')))
 |[],_,_,_,_,_,hk=>by cases hk
 |(_,none)::_,_,h,_,_,_,_=>by cases h
 |(k,some ob)::l,ps,h,hp,k1,o1,hk=>by
  unfold yh at h;split at h
  .cases h
  rename_i qs hqs;have ih:=Lx hqs;split at h
  .split at h<;>cases h;rename_i ty t c;rcases bI.1 hk with e|hk
   .have:c=[] :=hp _ (by grind);grind
   grind
  .rename_i hm;split at h
   .cases h
   rename_i ob' hob';split at h
   .rename_i p r he;split at h<;>cases h;rename_i hs;rcases bI.1 hk with e|hk
    .cases e;exact⟨_,rfl,.inr ⟨hm,ob',hob',Lw he (λq hq=>hp q (by grind)) (Md hs) _ _,.inl (Kr he)⟩⟩
    .exact ih (λp hpp=>hp p (by grind)) k1 o1 hk
   .split at h<;>cases h;rename_i p hf;rcases bI.1 hk with e|hk
    .cases e;obtain⟨_,_,e3,_⟩:=NQ hf λq hq=>hp q (by grind);subst e3;refine⟨_,rfl,.inr ⟨hm,_,hob',?_,.inr rfl⟩⟩;unfold y4 at hf;split at hf
     .refine⟨rfl,rfl,vF _ _ _ λi _=> ?_⟩;exact .inl ⟨_,Pu ns k (i+1-1),rfl⟩
     .cases hf
    .exact ih (λp hpp=>hp p (by grind)) k1 o1 hk
def Vy{ns:List Nat}{L:aP}{l:aP}{ps:List Prop}(h:yh ns L.at l=some ps)(hp:∀p∈ps,p):y7 (idm ns) (Sg.a (aP.at l)) L.fn:=by
 have key:=Lx h hp;constructor
 .intro s s' o h1 h2;unfold idm at h1 h2;split at h1<;>cases h1;split at h2<;>cases h2;rfl
 .intro s ob' hs;rcases kq s with⟨x,rfl⟩|⟨x,a,rfl⟩|hno
  .rw[Sg.cP]at hs;cases hx:aP.at l x with
   |none=>grind
   |some ob=>
    rw[hx]at hs;cases hs;obtain⟨ob1,e,h1⟩:=key x (some ob) (aP.wM hx);cases e;rcases h1 with⟨hm,ty,t,rfl⟩|⟨hm,ob2,h2,h3,_⟩
    .rw[show idm ns (aO x)=some none from if_pos ⟨x,(mem_iff x ns).1 hm,rfl⟩];exact⟨oh t.lH,by rfl⟩
    .rw[Qf hm];exact⟨_,by show Sg.a L.at (aO x)=_;rw[Sg.cP,h2];rfl,h3⟩
  .rw[Sg.fX]at hs;cases hx:aP.at l x with
   |none=>grind
   |some ob=>
    rw[hx]at hs;obtain⟨ob1,e,h1⟩:=key x (some ob) (aP.wM hx);cases e;have hs:ob.inner a=some ob':=hs;rw[Pu];rcases h1 with⟨hm,ty,t,rfl⟩|⟨hm,ob2,h2,h3,h4⟩
    .cases hs
    .rcases h4 with h4|h4
     .rw[SOb.Af h4]at hs;cases hs
     .subst h4;refine⟨ob',by show Sg.a L.at (inn x (a+1))=_;rw[Sg.fX,h2];exact hs,rfl,rfl,?_⟩;cases ob with
      |fam ty ity t M ov=>
       have hs:(match ov.lookup a with|some _=>none|none=>(M[a]?).map λl=>(⟨ity,t.w,(t.enc l).map .p⟩:Ob))=some ob':=hs;cases ho:ov.lookup a with
       |some v=>grind
       |none=>
        rw[ho]at hs;cases hm:M[a]? with
        |none=>grind
        |some c=>rw[hm]at hs;cases hs;exact kQ _ _
      |_=>cases hs
  .rw[Sg.kI _ hno]at hs;cases hs
def Sb(l:List SV):Bool:=match l with
 |[_] =>true
 |[] =>false
 |l=>(match bT (avs l)with|none=>true|some _=>false)
def C8(P:Program)(n:Nat)(rs:List ResultVar)(r:SV)(obs:aP)(F:Frm)(L:aP):Fm:=match pX P n F L.at rs with
 |some l=>(match Sb l,eqv 3 r (uI l)with
  |true,some (ps,m)=>(match Ht (yY m) m,yh (yY m) L.at obs with
   |true,some qs=>rq (ps++qs) .tt
   |_,_=> .stuck 990001)
  |_,_=> .stuck 990002)
 |none=> .stuck 990003
def SZ(P:Program)(r:SV)(obs:aP)(n:Nat)(rs:List ResultVar):pV:=λe F L _=>match e with
 | .normal=>C8 P n rs r obs F L
 | .ret=>C8 P n rs r obs F L
 |_=> .stuck 910000
def aAk{l:List SV}(h:Sb l=true):sP (avs l)=(uI l).av:=by
 match l,h with
 |[x],_=>rfl
 |x::y::r,h=>
  show AV.tup (avs (x::y::r))=kW (avs (x::y::r));have h:(match bT (avs (x::y::r))with|none=>true|some _=>false)=true:=h;unfold kW;grind
def aAb{P:Program}{n:Nat}{rs:List ResultVar}{r:SV}{obs:aP}{e:Exit}{F:Frm}{L:aP}{N:Nat}(h:(SZ P r obs n rs e F L N).holds):II P rs r.av (Sg.a (aP.at obs)) e (F.av n) L.fn N:=by
 have key:(C8 P n rs r obs F L).holds->jI P rs (F.av n) L.fn λl=>∃m:Rf,y7 m (Sg.a (aP.at obs)) L.fn/\fw m r.av (sP l):=by
  intro h;unfold C8 at h;split at h
  case h_2=>exact h.elim
  rename_i l hl;split at h
  case h_2=>exact h.elim
  rename_i ps m h1 he;split at h
  case h_2=>exact h.elim
  rename_i qs hs hq;have hp:=(ss h).1;rw[show L.fn=Sg.a L.at from rfl];refine rY hl ⟨idm (yY m),Vy hq λp hpp=>hp p (by grind),?_⟩;rw[aAk h1];exact vT 3 r (uI l) ps m he (λp hpp=>hp p (by grind)) (Md hs)
 cases e<;>first|exact h.elim|exact key h
def Ie{α:Type}(A:Arl α)(pre:α->List Prop)(res:α->SV)(obs:α->aP):Con:=⟨α,A.dec,pre,.tree res obs⟩
def PL{X:Cx}(hX:X.Ok){st:Bool}{raw:Nat->Nat->Bool}{f:Nat}{α:Type}{A:Arl α}{pre:α->List Prop}{res:α->SV}{obs:α->aP}(ann:α->List (Nat×Ann))
  (h:∀x,pi (pre x)->(CN X st raw f (ann x) (A.enc x) (SZ X.P (res x) (obs x))).holds):(Ie A pre res obs).Ok X.P f:=by
 intro s x hd hp;obtain⟨B,hB⟩:=A.pl x;obtain⟨hok,fn,c,L0,N0,hf,hb,h0,hw⟩:=FP hX (Q:=λrs=>II X.P rs (res x).av (Sg.a (aP.at (obs x)))) hB (λn rs e F L N hh=>aAb hh) (h x (jz.2 hp));exact⟨B,by rw[A.ok s x hd,hB],Ua hok hf hb h0 hw⟩
def aCx{p q:Prop}(h:p=q)(hq:q):p:=h▸hq
def Cq:List (Nat×Con)->Tab->Tab
 |[],T,f=>T f
 |(k,c)::l,T,f=>match bF f k with|true=>some c|false=>Cq l T f
def Qs(P:Program):List (Nat×Con)->Prop
 |[] =>True
 |q::l=>q.2.Ok P q.1/\Qs P l
def Ny{P:Program}{T:Tab}(hT:T.Ok P):∀{l:List (Nat×Con)},Qs P l->(Cq l T).Ok P
 |[],_=>hT
 |(k,c)::l,h=>by
  intro f d hd;unfold Cq at hd;split at hd
  .rename_i e;cases hd;rw[dN e];exact h.1
  .exact Ny hT h.2 f d hd
def Qu:Tab:=λ_=>none
def Zq{P:Program}:Qu.Ok P:=λ_ _ h=>by cases h
end
end
noncomputable section
def aCo(N:Nat)(a b c d:Int)(w:World):gF bH (uY (N+1+1) 44 (.agg #[.int .i64 a,.int .i64 b]) (.agg #[.int .i64 c,.int .i64 d])) w= .ok (a==c&&b==d) w:=by
 have hS:bH.underlying 44=some (.struct (bH.fieldsOf 44)):=by kernel_rfl
 have hp:bH.stoodInHeld 44=false:=by kernel_rfl
 rw[run_equalIn_agg w (N+1) 44 _ _ hS hp];simp only[Program.fieldsOf,Tryz.underlying44]
 go_simp
 grind
def aCp(a b c d a' b' c' d':Int)(w:World)(N:Nat):gF bH (uY (N+1+1+1) 46 (.agg #[.int .i64 a,.int .i64 b,.int .i64 c,.int .i64 d]) (.agg #[.int .i64 a',.int .i64 b',.int .i64 c',.int .i64 d'])) w= .ok ((a==a'&&b==b')&&(c==c'&&d==d')) w:=by
 have hS6:bH.underlying 46=some (.struct (bH.fieldsOf 46)):=by kernel_rfl
 have hp6:bH.stoodInHeld 46=false:=by kernel_rfl
 rw[run_equalIn_agg w (N+1+1) 46 _ _ hS6 hp6];unfold Program.fieldsOf;rw[Tryz.underlying46];have a44:=Tryz.isAgg44;have z44:=Tryz.sizeOf44;have p1:∀a b c d:Int,(part 44 #[cg .i64 a,cg .i64 b,cg .i64 c,cg .i64 d] 0).run bH w= .ok (.agg #[.int .i64 a,.int .i64 b]) w:=by intro a b c d;simp[part,a44,z44]
 have p2:∀a b c d:Int,(part 44 #[cg .i64 a,cg .i64 b,cg .i64 c,cg .i64 d] 2).run bH w= .ok (.agg #[.int .i64 c,.int .i64 d]) w:=by intro a b c d;simp[part,a44,z44]
 have hE:=aCo N;unfold Op.eqFields;unfold Op.eqFields;unfold Op.eqFields;rw[if_pos (by decide)];simp only[cr,p1,dB,hE];cases h1:(a==a')<;>cases h2:(b==b')<;>simp[hE,p2,cr,dB];grind
def ZO:yo bH 46 4:=by
 intro xs ys x y w hx hy;match xs,ys,hx,hy with
 |[a,b,c,d],[a',b',c',d'],_,_=>
  have h1:=aCp a b c d a' b' c' d' w 9997;have e:(([a,b,c,d] :List Int)==[a',b',c',d'])=((a==a'&&b==b')&&(c==c'&&d==d')):=by rw[fL];simp[and_assoc]
  refine⟨?_,?_⟩
  .simp only[eqGuard,cr];simp[Result.andThen];rw[run_eql_struct,h1];simp_all
  .unfold bne;rw[e];simp[eqGuard];rw[run_neq_struct,h1];simp_all
noncomputable def ltL:List (Nat×LT)->Nat->Option LT
 |[],_=>none
 |(k,x)::l,t=>match bF t k with|true=>some x|false=>ltL l t
def u67:bH.underlying 69=some (.array 2 3):=by kernel_rfl
def aCC:bH.underlying 114=some (.map 69 4):=by kernel_rfl
def wA(w:World)(xs:Array Value)(i:Nat)(a:Value)(h:xs[i]? =some a):(part 3 xs i).run bH w= .ok a w:=by have a3:=xG;simp[part,a3,h]
def aBF:MKey bH 69 2:=by
 have hu3:bH.underlying 3=some (.int .i64):=by kernel_rfl
 obtain⟨i3,hi3⟩:=info_of_underlying hu3;have c3:bH.cellsOf 3=1:=by kernel_rfl
 have two:∀{xs:List Int},xs.length=2->∃a b,xs=[a,b] :=λ{xs} h=>by
  match xs,h with
  |[a,b],_=>grind
 refine⟨?_,?_,⟨_,u67,λa b=>rfl⟩⟩
 .intro w em xs hx;obtain⟨a,b,rfl⟩:=two hx;show(zX em (9999+1) 69 (.agg #[.int .i64 a,.int .i64 b])).run _ w=_;have p0:=wA w #[cg .i64 a,.int .i64 b] 0 (.int .i64 a) rfl;have p1:=wA w #[cg .i64 a,.int .i64 b] 1 (.int .i64 b) rfl;have ck:∀a:Int,(zX em 9999 3 (.int .i64 a)).run bH w= .ok () w:=by intro a;show(zX em (9998+1) 3 (.int .i64 a)).run _ w=_;generalize 9998=N;simp only[zX,cr,run_underlying hu3,dB,da]
  rw[zX];simp only[cr,run_underlying u67,dB];simp only[Std.Legacy.Range.forIn_eq_forIn_range',Std.Legacy.Range.size,Nat.sub_zero,Nat.add_one_sub_one,Nat.div_one];simp only[show List.range' 0 2=[0,1]from rfl,List.forIn_cons,List.forIn_nil,cr,run_sizeOf w hi3,dB,c3,p0,p1,ck,da,Nat.zero_mul,Nat.one_mul]
 .intro w xs ys hx hy;obtain⟨a,b,rfl⟩:=two hx;obtain⟨c,d,rfl⟩:=two hy;have p0:=wA w #[cg .i64 a,.int .i64 b] 0 (.int .i64 a) rfl;have p1:=wA w #[cg .i64 a,.int .i64 b] 1 (.int .i64 b) rfl;have q0:=wA w #[cg .i64 c,.int .i64 d] 0 (.int .i64 c) rfl;have q1:=wA w #[cg .i64 c,.int .i64 d] 1 (.int .i64 d) rfl;have e1:∀a b:Int,(uY 9999 3 (.int .i64 a) (.int .i64 b)).run bH w= .ok (a==b) w:=λa b=>run_equalIn_int w 9998 3 _ _ a b hu3;show(uY (9999+1) 69 (.agg #[.int .i64 a,.int .i64 b]) (.agg #[.int .i64 c,.int .i64 d])).run _ w=_;rw[run_equalIn_array w 9999 _ _ u67 hi3,c3,show bM 2=[0,1]from rfl];simp only[Op.eqItems,cr,Nat.zero_mul,Nat.one_mul,p0,q0,e1,dB];by_cases h1:a=c
  .subst h1;simp only[beq_self_eq_true,mS,lN,if_false,cr];by_cases h2:b=d
   .simp_all
   simp_all
  simp_all
def aAx:Sx bH 114:=⟨69,4,aCC,aBF,λw=>by kernel_rfl⟩
noncomputable def cx(T:Tab):Cx:=⟨bH,T,ltL [(44,.V),(46,.S),(23,.R),(69,.P),(3,.I),(2,.I),(1,.I),(4,.B)],[(44,2),(46,4)],λt=>bF t 114,λf=>match bF f 201 with|true=>true|false=>bF f 168⟩
def oO{T:Tab}(h:T.Ok bH):(cx T).Ok:=⟨h,λt m hm=>by
 rcases bI.1 hm with h|h
 .cases h;exact ZP
 .rw[bn]at h;cases h;exact ZO,λt ht=>by rw[show t=114 from dN ht];exact aAx⟩
noncomputable def lh(F:Frm)(d:Nat):Option Nat:=match F.at d with
 | .int _ v=>some v.toNat
 |_=>none
noncomputable def Qe(F:Frm)(d:Nat):Option Int:=match F.at d with
 | .int _ v=>some v
 |_=>none
noncomputable def IP(F:Frm)(d e:Nat):Option (Int×Int):=match Qe F d,Qe F e with
 |some x,some y=>some (x,y)
 |_,_=>none
noncomputable def lp(key d n:Nat)(I:Nat->List Prop)(rk:List Nat)(upd:Nat->Frm)(obs:Nat->List (Nat×SOb))(inner:Nat->List (Nat×Ann):=λ_=>[]):Nat×Ann:=
 (key,.mk Nat (λF _=>lh F d) rk (λk=>(k<=n)::I k) (λk=>(d,.int .i64 (k:Int))::upd k) obs (λk=>n-k) inner)
noncomputable def cnt(key d n:Nat)(I:Nat->Prop)(inner:Nat->List (Nat×Ann):=λ_=>[]):Nat×Ann:=lp key d n (λk=>[I k]) [] (λ_=>[]) (λ_=>[]) inner
noncomputable def jb(key d:Nat)(b:Bool):Nat×Ann:=(key+10000,.mk Unit (λ_ _=>some ()) [] (λ_=>[]) (λ_=>[(d,.bool b)]) (λ_=>[]) (λ_=>0) (λ_=>[]))
noncomputable def jP(key:Nat)(I:List Prop):Nat×Ann:=(key+10000,.mk Unit (λ_ _=>some ()) [] (λ_=>I) (λ_=>[]) (λ_=>[]) (λ_=>0) (λ_=>[]))
noncomputable def jU(key:Nat)(u:Frm):Nat×Ann:=(key+10000,.mk Unit (λ_ _=>some ()) [] (λ_=>[]) (λ_=>u) (λ_=>[]) (λ_=>0) (λ_=>[]))
noncomputable def jN(key d:Nat)(I:Nat->List Prop)(inner:Nat->List (Nat×Ann):=λ_=>[]):Nat×Ann:=(key+10000,.mk Nat (λF _=>lh F d) [] I (λk=>[(d,.int .i64 (k:Int))]) (λ_=>[]) (λ_=>0) inner)
noncomputable def jR(key d s ty:Nat)(t:LT)(l:List t.ty):Nat×Ann:=(key+10000,.mk Unit (λ_ _=>some ()) [s] (λ_=>[]) (λ_=>[(d,.own s t l.length)]) (λ_=>[(s,.row ty t l)]) (λ_=>0) (λ_=>[]))
noncomputable def lU(key k:Nat):Nat×Ann:=(key+30000+k,.mk Unit (λ_ _=>none) [] (λ_=>[]) (λ_=>[]) (λ_=>[]) (λ_=>0) (λ_=>[]))
noncomputable def aK(q:Nat->Prop)(k:Nat):Prop:=∀j,j<k->q j
def nb{b:Bool}(h:(!b)=false):b=true:=by grind
def nb'{b:Bool}(h:(!b)=true):b=false:=by grind
theorem gG(q:Nat->Prop):aK q 0:=λj h=>by grind
theorem cB{q:Nat->Prop}{k:Nat}(h:aK q k)(hk:q k):aK q (k+1):=λj hj=>by
 rcases oZ j k with h1|h1
 .exact h j h1
 grind
def aFF(a b:V):a=b↔a.x=b.x/\a.y=b.y:=by cases a;cases b;grind
end
attribute [grind =] aH ix
attribute [grind ←] gG cB
structure TTab where
 t:Tab
 o:t.Ok bH
noncomputable def TTab.adk(T:TTab){f:Nat}{c:Con}(k:c.Ok bH f):TTab:=⟨Cq [(f,c)] T.t,Ny T.o ⟨k,trivial⟩⟩
def ak(T:TTab){f:Nat}{α:Type}{A:Arl α}{pre:α->List Prop}{res:α->SV}(ann:α->List (Nat×Ann))(hr:∀x,∃q,(res x).av= .p q)(h:∀x,pi (pre x)->(wP (cx T.t) uB f (ann x) (A.enc x) (res x)).holds):(con A pre res).Ok bH f:=vq (oO T.o) ann hr h
abbrev Con.Okz(c:Con)(f:Nat):Prop:=c.Ok bH f
abbrev SV.iqz(n:Int):SV:= .int .i64 n
abbrev bX{α:Type _}{β:Type _}:α->List β:=λ_=>[]
def aZ{p:Prop}(q:Prop)(h:p=q)(hq:q):p:=aCx h hq
noncomputable def CU:TTab:=⟨Qu,Zq⟩
end Go.Proofs.YthbofdolalagjaaGreat
namespace Go.Proofs
open Go.Shelf
def Tryz.sort220_ren:Go.Shelf.Ren:=⟨λ|6=>220|15=>143|14=>228|28=>194|29=>195|20=>229|21=>230|22=>231|23=>232|24=>233|25=>234|26=>235|27=>236|46=>237|47=>210|48=>211|49=>238|50=>239|57=>240|n=>n,λ|22=>111|24=>3|25=>132|3=>3|39=>135|0=>0|53=>170|55=>172|4=>4|46=>163|45=>162|50=>167|5=>5|9=>9|66=>180|70=>184|76=>193|77=>59|n=>n,λ|n=>n⟩
def Tryz.sort220:Go.Proofs.SlLaysF.n6 bH Tryz.sort220_ren:={
 mixed:=by kernel_rfl
 f6:=⟨Tryz.f220.name,by decide,Tryz.func220.trans (congrArg some (by kernel_rfl))⟩
 f14:=⟨Tryz.f228.name,by decide,Tryz.func228.trans (congrArg some (by kernel_rfl))⟩
 f15:=Tryz.func143.trans (congrArg some (by kernel_rfl))
 f20:=⟨Tryz.f229.name,by decide,Tryz.func229.trans (congrArg some (by kernel_rfl))⟩
 f21:=⟨Tryz.f230.name,by decide,Tryz.func230.trans (congrArg some (by kernel_rfl))⟩
 f22:=⟨Tryz.f231.name,by decide,Tryz.func231.trans (congrArg some (by kernel_rfl))⟩
 f23:=⟨Tryz.f232.name,by decide,Tryz.func232.trans (congrArg some (by kernel_rfl))⟩
 f24:=⟨Tryz.f233.name,by decide,Tryz.func233.trans (congrArg some (by kernel_rfl))⟩
 f25:=⟨Tryz.f234.name,by decide,Tryz.func234.trans (congrArg some (by kernel_rfl))⟩
 f26:=⟨Tryz.f235.name,by decide,Tryz.func235.trans (congrArg some (by kernel_rfl))⟩
 f27:=⟨Tryz.f236.name,by decide,Tryz.func236.trans (congrArg some (by kernel_rfl))⟩
 f28:=Tryz.func194.trans (congrArg some (by kernel_rfl))
 f29:=Tryz.func195.trans (congrArg some (by kernel_rfl))
 f46:=⟨Tryz.f237.name,by decide,Tryz.func237.trans (congrArg some (by kernel_rfl))⟩
 f47:=Tryz.func210.trans (congrArg some (by kernel_rfl))
 f48:=Tryz.func211.trans (congrArg some (by kernel_rfl))
 f49:=⟨Tryz.f238.name,by decide,Tryz.func238.trans (congrArg some (by kernel_rfl))⟩
 f50:=⟨Tryz.f239.name,by decide,Tryz.func239.trans (congrArg some (by kernel_rfl))⟩
 f57:=⟨Tryz.f240.name,by decide,Tryz.func240.trans (congrArg some (by kernel_rfl))⟩
 t0:=Tryz.underlying0
 a0:=Tryz.isAgg0
 z0:=Tryz.sizeOf0
 v0:=Tryz.zeroValue0
 t3:=xF
 a3:=xG
 z3:=zd
 v3:=Tryz.zeroValue3
 t4:=JC
 a4:=Tryz.isAgg4
 z4:=Tryz.sizeOf4
 v4:=Tryz.zeroValue4
 t5:=Tryz.underlying5
 a5:=Tryz.isAgg5
 z5:=Tryz.sizeOf5
 v5:=Tryz.zeroValue5
 t9:=Tryz.underlying9
 a9:=Tryz.isAgg9
 z9:=Tryz.sizeOf9
 v9:=Tryz.zeroValue9
 t22:=Tryz.underlying111
 a22:=Tryz.isAgg111
 z22:=Tryz.sizeOf111
 v22:=Tryz.zeroValue111
 a24:=xG
 z24:=zd
 t25:=Tryz.underlying132
 a25:=Tryz.isAgg132
 z25:=Tryz.sizeOf132
 v25:=Tryz.zeroValue132
 t39:=Tryz.underlying135
 a39:=Tryz.isAgg135
 z39:=Tryz.sizeOf135
 v39:=Tryz.zeroValue135
 t45:=Tryz.underlying162
 a45:=Tryz.isAgg162
 z45:=Tryz.sizeOf162
 v45:=Tryz.zeroValue162
 t46:=Tryz.underlying163
 a46:=Tryz.isAgg163
 z46:=Tryz.sizeOf163
 v46:=Tryz.zeroValue163
 t50:=Tryz.underlying167
 a50:=Tryz.isAgg167
 z50:=Tryz.sizeOf167
 v50:=Tryz.zeroValue167
 t53:=Tryz.underlying170
 a53:=Tryz.isAgg170
 z53:=Tryz.sizeOf170
 v53:=Tryz.zeroValue170
 t55:=Tryz.underlying172
 a55:=Tryz.isAgg172
 z55:=Tryz.sizeOf172
 v55:=Tryz.zeroValue172
 t66:=Tryz.underlying180
 a66:=Tryz.isAgg180
 z66:=Tryz.sizeOf180
 v66:=Tryz.zeroValue180
 t70:=Tryz.underlying184
 a70:=Tryz.isAgg184
 z70:=Tryz.sizeOf184
 v70:=Tryz.zeroValue184
 t76:=Tryz.underlying193
 a76:=Tryz.isAgg193
 z76:=Tryz.sizeOf193
 v76:=Tryz.zeroValue193
 t77:=Tryz.underlying59
 a77:=Tryz.isAgg59
 z77:=Tryz.sizeOf59
 v77:=Tryz.zeroValue59}
def Tryz.del202_ren:Go.Shelf.Ren:=⟨λ|10=>202|6=>223|n=>n,λ|22=>111|23=>3|25=>159|3=>3|4=>4|0=>0|n=>n,λ|n=>n⟩
def Tryz.del202:Go.Proofs.SlLaysH.n10 bH Tryz.del202_ren:={
 mixed:=by kernel_rfl
 f6:=⟨Tryz.f223.name,by decide,Tryz.func223.trans (congrArg some (by kernel_rfl))⟩
 f10:=⟨Tryz.f202.name,by decide,Tryz.func202.trans (congrArg some (by kernel_rfl))⟩
 t0:=Tryz.underlying0
 a0:=Tryz.isAgg0
 z0:=Tryz.sizeOf0
 v0:=Tryz.zeroValue0
 t3:=xF
 a3:=xG
 z3:=zd
 v3:=Tryz.zeroValue3
 t4:=JC
 a4:=Tryz.isAgg4
 z4:=Tryz.sizeOf4
 v4:=Tryz.zeroValue4
 t22:=Tryz.underlying111
 a22:=Tryz.isAgg111
 z22:=Tryz.sizeOf111
 v22:=Tryz.zeroValue111
 a23:=xG
 z23:=zd
 t25:=Tryz.underlying159
 a25:=Tryz.isAgg159
 z25:=Tryz.sizeOf159
 v25:=Tryz.zeroValue159}
end Go.Proofs
namespace Go.Proofs.YthbofdolalagjaaGreat
section
open Go.RowKit Go.Sort Go.Shelf Go.Lib
def ZH(q x:Int)(B o:Nat)(W:World)(hc:W.cell? ⟨B,o,none⟩=some (.int .i64 q)):FnGives bH 203 #[.pointer (some ⟨B,o,none⟩)] #[.int .i64 x] (.bool (x==q)) W:=by
 go_enter Tryz.func203,Tryz.ntmps203
 go_wp2
 all_goals (go_ret;exact⟨by simp_all,0,rfl⟩)
def ZG(q x:Int)(B o:Nat)(W:World)(hc:W.cell? ⟨B,o,none⟩=some (.int .i64 q)):FnGives bH 204 #[.pointer (some ⟨B,o,none⟩)] #[.int .i64 x] (.bool (x==q)) W:=by
 go_enter Tryz.func204,Tryz.ntmps204
 go_wp2
 all_goals (go_ret;exact⟨by simp_all,0,rfl⟩)
def Ue{enc:Int->Value}{d:Array Int}{cur:Array Value}{i:Nat}(h:i<d.size)(hc:i<cur.size):(putCells enc 0 d cur)[i]? =some (enc d[i]!):=by unfold putCells;simp[h,hc]
def Tz{enc:Int->Value}{d:Array Int}{cur:Array Value}:(putCells enc 0 d cur).size=cur.size:=by unfold putCells;simp
def VY{enc:Int->Value}{w:World}{b:Nat}{d:Array Int}{cur:Array Value}{t:TypeId}(h:w.heap[b]? =some (.cells cur t (0,0))):(putRow enc w b 0 d).heap[b]? =some (.cells (putCells enc 0 d cur) t (0,0)):=by show(w.heap.modify b _)[b]? =_;rw[Array.getElem?_modify,if_pos rfl,h];rfl
def UG{enc:Int->Value}{w:World}{b q:Nat}{d:Array Int}:w.grownBy (putRow enc (Sort.ahead w q) b 0 d) (some b):=by
 refine⟨rfl,rfl,rfl,?_,?_⟩
 .simp_all
 .intro k hk hne;show(w.heap.modify b _)[k]? =_;grind
def pU(l:List Int):LT.I.enc l=l.map (PV.int .i64):=by show IY l=_;exact E9 (λn=>PV.int .i64 n) l
def Lk{C:bG}{w:World}{b c:Nat}{l:List Int}{arr:Array Value}{ty:TypeId}(hL:Lent C w b c ty 1 (LT.I.enc l) arr):Holds (cg .i64) w b 0 l.toArray/\l.length<=arr.size:=by
 obtain⟨_,h2,_⟩:=hL.row (by decide);rw[pU,di]at h2;refine⟨λj hj=> ?_,h2⟩;obtain⟨v,h3,_,h4⟩:=hL.cells j (.int .i64 l[j]) (by rw[pU,gr,dw hj];rfl);subst h4;refine⟨?_,?_⟩
 .rw[kN];refine(cell_of_row w b j arr ty (0,0) hL.blk).trans (h3.trans ?_);grind
 .simp[World.frozen?,hL.blk]
def aAX{C:bG}{w:World}{g:Nat}{q:Int}{vs:List Value}(hC:∀b o v,C b o v->w.cell? ⟨b,o,none⟩=some v)(h:bK C [.fn (.func g) [] [.pro [.int .i64 q] 0]] vs):∃B o,vs=[.func (.func g) #[] #[.pointer (some ⟨B,o,none⟩)]]/\C B o (.int .i64 q):=by obtain⟨v,r,rfl,h1,h2⟩:=h;subst h2;obtain⟨a,b,rfl,h3,h4⟩:=h1;subst h3;obtain⟨u,r,rfl,h5,h6⟩:=h4;subst h6;obtain⟨B,o,rfl,h7⟩:=h5;obtain⟨⟨x,h8,_,h9⟩,_⟩:=h7;unfold aY at h9;grind
def OH(g:Nat)(eg:∀args w,(callFunc g args).run bH w= .ok (.enter g args) w)(hg:∀(q x:Int) (B o:Nat) (W:World),W.cell? ⟨B,o,none⟩=some (.int .i64 q)->FnGives bH g #[.pointer (some ⟨B,o,none⟩)] #[.int .i64 x] (.bool (x==q)) W)
  (l:List Int) (q:Int) (hn:l.length<=1000000):
  Ii bH 202 l.length [.fn (.func g) [] [.pro [.int .i64 q] 0]] 3 1 (LT.I.enc l) (LT.I.enc (l.filter λx=> !(x==q))) (l.filter λx=> !(x==q)).length:=by
 refine⟨by kernel_rfl,?_,by grind,?_,?_⟩
 .rw[pU,pU,di,di];grind
 .rw[pU,bh];intro x hx;obtain⟨n,_,rfl⟩:=bR.1 hx;rfl
 intro C w b c arr vs hC hL hnc hA;obtain⟨B,o,rfl,hBo⟩:=aAX (λb o v h=>(hC b o v h).1) hA;obtain⟨hcell,hne⟩:=hC _ _ _ hBo;obtain⟨hH,hsz⟩:=Lk hL;have hB:B<w.heap.size:=World.block_lt_of_cell? w ⟨B,o,none⟩ hcell;have hcon:=AnyE.slices_DeleteFunc (P:=bH) (ρ:=Tryz.del202_ren) Tryz.del202 (cg .i64) (λ_=>rfl) (λx:Int=>x==q) g #[.pointer (some ⟨B,o,none⟩)] eg 0 (λw=>by kernel_rfl) b 0 c l.toArray w
  (λW x hb=>hg q x B o W ((hb.cell (p:=⟨B,o,none⟩) hB).trans hcell))
  (λn os dk x _=>hg q x B o _ (by unfold sortWorld;rw[cell?_grow _ _ _ (by simp_all),cell?_putRow_other _ _ b 0 _ _ (Or.inl hne)];exact hcell)) hH (by simp;omega) (by omega)
 have e1:l.toArray.toList=l:=rfl;refine hcon.mono ?_;rintro e w' ⟨rfl,q',rfl⟩;have hfl:=TK (λx=> !(x==q)) l;generalize (l.filter λx=> !(x==q))=m at hfl|-;refine⟨_,rfl,VY (w:=Sort.ahead w q') hL.blk,Tz,?_,UG⟩;intro i x hi;rw[pU,gr]at hi;cases hx:m[i]? with
 |none=>grind
 |some y=>
  rw[hx]at hi;cases hi;have hi':i<m.length:=by grind
  refine⟨.int .i64 y,?_,rfl,by rfl⟩;rw[Ue (by simp;omega) (by omega)];grind
def aBq(args:Array Value)(w:World):(callFunc 203 args).run bH w= .ok (.enter 203 args) w:=l5 (by kernel_rfl) args w
def aBp(args:Array Value)(w:World):(callFunc 204 args).run bH w= .ok (.enter 204 args) w:=l5 (by kernel_rfl) args w
def Ib:List SV->Option (List Int×Bool×Int)
 |[.lst .I l,.fnp 203 [] [.pro [.int .i64 q] 0]] =>some (l,true,q)
 |[.lst .I l,.fnp 204 [] [.pro [.int .i64 q] 0]] =>some (l,false,q)
 |_=>none
def XY{l:List Int}{rest:List SV}{x:List Int×Bool×Int}(h:Ib (.lst .I l::rest)=some x):∃q,(rest=[.fnp 203 [] [.pro [.int .i64 q] 0]]/\x=(l,true,q))\/(rest=[.fnp 204 [] [.pro [.int .i64 q] 0]]/\x=(l,false,q)):=by unfold Ib at h;grind
noncomputable def aEv:Con:=⟨List Int×Bool×Int,Ib,λx=>[x.1.length<=1000000],.rowB .I 3 λx=>x.1.filter λy=> !(y==x.2.2)⟩
def aC0:aEv.Okz 202:=by
 intro l rest x hd hp;obtain⟨q,⟨rfl,rfl⟩|⟨rfl,rfl⟩⟩:=XY hd
 .exact⟨[.fn (.func 203) [] [.pro [.int .i64 q] 0]],rfl,OH 203 aBq ZH l q (hp _ cI)⟩
 .exact⟨[.fn (.func 204) [] [.pro [.int .i64 q] 0]],rfl,OH 204 aBp ZG l q (hp _ cI)⟩
end
def iI{x y A B:Int}(hx: -A<=x/\x<=A)(hy: -B<=y/\y<=B): -(A*B)<=x*y/\x*y<=A*B:=by have h1:0<=(A-x)*(B-y):=cJ (by omega) (by omega);have h2:0<=(A+x)*(B+y):=cJ (by omega) (by omega);have h3:0<=(A-x)*(B+y):=cJ (by omega) (by omega);have h4:0<=(A+x)*(B-y):=cJ (by omega) (by omega);grind
def bd(M:Int)(v:V):Prop:=(-M<=v.x/\v.x<=M)/\ -M<=v.y/\v.y<=M
def uH{m M:Int}{v:V}(h:aX v m=true)(hm:m<=M:=by decide):bd M v:=by unfold aX at h;unfold bd;grind
def bd.mono{m M:Int}{v:V}(h:bd m v)(hm:m<=M:=by decide):bd M v:=by unfold bd at*;omega
def nZ{M:Int}{a b:V}(ha:bd M a)(hb:bd M b):(-(M*M)<=a.x*b.y/\a.x*b.y<=M*M)/\ -(M*M)<=a.y*b.x/\a.y*b.x<=M*M:=⟨iI ha.1 hb.2,iI ha.2 hb.1⟩
def jD{m:Int}{a b:V}(ha:bd m a)(hb:bd m b):bd (m+m) (aFJ a b):=by unfold bd aFJ at*;grind
def aBm(n:Int): -1<=sgn n/\sgn n<=1:=by unfold sgn;grind
def bV{x:Int}(h: -9000000000000000000<=x/\x<=9000000000000000000):aH x:=by unfold aH;omega
noncomputable def aE5:Con:=con (ac aV (a1 aV)) (λ(_,_)=>[]) (λ(a,b)=> .bool (bf a b)
 )
def aDy:aE5.Okz 148:=ak CU (λ(_,_)=>[]) (λ(_,_)=>⟨_,rfl⟩) λ(a,b) _=>aZ ((a.y<b.y->true=bf a b)/\
 (¬a.y<b.y->(a.y=b.y->decide (a.x<b.x)=bf a b)/\
  (¬a.y=b.y->false=bf a b))) (by kernel_rfl) (by
  unfold bf;grind)
noncomputable def Rq:=CU.adk aDy
noncomputable def c80:Con:=con (a1 aI) (λ_=>[]) (λn=> .iqz (sgn n)
 )
def k80:c80.Okz 79:=ak Rq bX (λ_=>⟨_,rfl⟩) λn _=>aZ ((0<n->1=sgn n)/\
 (¬0<n->(n<0-> -1=sgn n)/\
  (¬n<0->0=sgn n))) (by kernel_rfl) (by
  unfold sgn;grind)
noncomputable def t80:=Rq.adk k80
noncomputable def c79:Con:=con (ac aV (a1 aV)) (λ(_,_)=>[]) (λ(a,b)=> .iqz (bq a b)
 )
def k79:c79.Okz 78:=ak t80 (λ(_,_)=>[]) (λ(_,_)=>⟨_,rfl⟩) λ(a,b) _=>aZ ((bf a b=true-> -1=bq a b)/\
 (bf a b=false->(a=b->0=bq a b)/\
  (¬a=b->1=bq a b))) (by kernel_rfl) (by
  unfold bq aFK bf;simp only[aFF];grind)
noncomputable def t79:=t80.adk k79
noncomputable def c35:Con:=con (ac aV (a1 aI)) (λ(_,m)=>[0<=m,m<=1000000000000]) (λ(a,m)=> .bool (aX a m)
 )
def k35:c35.Okz 35:=ak t79 (λ(_,_)=>[]) (λ(_,_)=>⟨_,rfl⟩) λ(a,m) hp=>aZ (aH (0-m)/\(0-m<=a.x->(a.x<=m->aH (0-m)/\(0-m<=a.y->decide (a.y<=m)=aX a m)/\
   (¬0-m<=a.y->false=aX a m))/\
  (¬a.x<=m->false=aX a m))/\
 (¬0-m<=a.x->false=aX a m)) (by kernel_rfl) (by change 0<=m/\m<=1000000000000 at hp;unfold aX;have:= @aH;grind[aH])
noncomputable def t35:=t79.adk k35
noncomputable def c98:Con:=con (a1 aS) (λ_=>[]) (λs=> .bool (bD s)
 )
def k98:c98.Okz 97:=ak t35 bX (λ_=>⟨_,rfl⟩) λs _=>aZ ((0:Int)<=4000/\(4000:Int)<=1000000000000/\(aX s.a 4000=true->(0:Int)<=4000/\(4000:Int)<=1000000000000/\aX s.b 4000=bD s)/\
 (aX s.a 4000=false->false=bD s)) (by kernel_rfl) (by unfold bD;grind)
noncomputable def t98:=t35.adk k98
noncomputable def aFA:Con:=con (a1 aV) (λ_=>[]) (λv=>(aT).enc (dq v)
 )
def aD4:aFA.Okz 103:=ak t98 bX (λ_=>⟨_,rfl⟩) λv _=>aZ (aA (dq v) λA=>v.x=A.x/\v.y=A.y/\1=A.den) (by kernel_rfl) (by exact⟨rfl,rfl,rfl⟩)
noncomputable def SP:=t98.adk aD4
noncomputable def aFa:Con:=con (ac aV (a1 aV)) (λ(a,b)=>[bd 2000000000 a,bd 2000000000 b]) (λ(a,b)=> .iqz (cross a b)
 )
def aDD:aFa.Okz 144:=ak SP (λ(_,_)=>[]) (λ(_,_)=>⟨_,rfl⟩) λ(a,b) hp=>aZ (aH (a.x*b.y)/\aH (a.y*b.x)/\aH (a.x*b.y-a.y*b.x)/\a.x*b.y-a.y*b.x=cross a b) (by kernel_rfl) (by change bd 2000000000 a/\bd 2000000000 b at hp;have:=nZ hp.1 hp.2;exact⟨bV (by omega),bV (by omega),bV (by omega),rfl⟩)
noncomputable def Ry:=SP.adk aDD
noncomputable def aE9:Con:=con (ac aV (a1 aV)) (λ(a,b)=>[bd 1000000000 a,bd 1000000000 b]) (λ(a,b)=>aV.enc (aFJ a b)
 )
def aDC:aE9.Okz 145:=ak Ry (λ(_,_)=>[]) (λ(_,_)=>⟨_,rfl⟩) λ(a,b) hp=>aZ (aH (a.x-b.x)/\aH (a.y-b.y)/\a.x-b.x=(aFJ a b).x/\a.y-b.y=(aFJ a b).y) (by kernel_rfl) (by change bd 1000000000 a/\bd 1000000000 b at hp;unfold bd at hp;exact⟨bV (by omega),bV (by omega),rfl,rfl⟩)
noncomputable def Rx:=Ry.adk aDC
def oA{s:S}(h:(!bD s)=false){M:Int}(hM:4000<=M:=by decide):bd M s.a/\bd M s.b:=by unfold bD at h;simp only[Bool.not_eq_false',bj]at h;exact⟨uH h.1 hM,uH h.2 hM⟩
def Ps{s:S}{p:V}{M:Int}(h1:bd M s.a/\bd M s.b)(h:fW s p=true):bd M p:=by unfold fW at h;unfold bd at*;grind
def BH(s:S)(p:V): -1<=gk s p/\gk s p<=1:=by
 unfold gk turn;split
 .omega
 .exact aBm _
noncomputable def c70:Con:=con (ac aV (ac aV (a1 aV))) (λ(a,b,c)=>[bd 1000000000 a,bd 1000000000 b,bd 1000000000 c]) (λ(a,b,c)=> .iqz (turn a b c)
 )
def k70:c70.Okz 71:=ak Rx (λ(_,_,_)=>[]) (λ(_,_,_)=>⟨_,rfl⟩) λ(a,b,c) hp=>aZ (bd 1000000000 b/\bd 1000000000 a/\bd 1000000000 c/\bd 1000000000 a/\bd 2000000000 (aFJ b a)/\bd 2000000000 (aFJ c a)/\sgn (cross (aFJ b a) (aFJ c a))=turn a b c) (by kernel_rfl) (by change bd 1000000000 a/\bd 1000000000 b/\bd 1000000000 c at hp;exact⟨hp.2.1,hp.1,hp.2.2,hp.1,jD hp.2.1 hp.1,jD hp.2.2 hp.1,rfl⟩)
noncomputable def t70:=Rx.adk k70
noncomputable def aFE:Con:=con (ac aS (a1 aV)) (λ(_,_)=>[]) (λ(s,p)=> .iqz (gk s p)
 )
def aD8:aFE.Okz 99:=ak t70 (λ(_,_)=>[]) (λ(_,_)=>⟨_,rfl⟩) λ(s,p) _=>aZ (aA (!bD s) λA=>aA (!aX p 4000) λB=>(A=true->0=gk s p)/\
 (A=false->(0:Int)<=4000/\(4000:Int)<=1000000000000/\(B=true->0=gk s p)/\
  (B=false->bd 1000000000 s.a/\bd 1000000000 s.b/\bd 1000000000 p/\turn s.a s.b p=gk s p))) (by kernel_rfl) (by
  unfold gk;refine⟨λh=>by rw[h];rfl,λh=>⟨by decide,by decide,λh2=>by grind,λh2=>⟨(oA h).1,(oA h).2,uH (by simpa using h2),by grind⟩⟩⟩)
noncomputable def SW:=t70.adk aD8
noncomputable def aEU:Con:=con (ac aS (a1 aV)) (λ(_,_)=>[]) (λ(s,p)=> .bool (onS s p))
def aDp:aEU.Okz 162:=ak SW (λ(s,p)=>[jb 4 5 (fW s p)]
  ) (λ(_,_)=>⟨_,rfl⟩) λ(s,p) _=>aZ (aA (!bD s) λA=>(A=true->false=onS s p)/\
 (A=false->((Min.min s.a.x s.b.x<=p.x->(p.x<=Max.max s.a.x s.b.x->(Min.min s.a.y s.b.y<=p.y->decide (p.y<=Max.max s.a.y s.b.y)=fW s p)/\
     (¬Min.min s.a.y s.b.y<=p.y->false=fW s p))/\
    (¬p.x<=Max.max s.a.x s.b.x->false=fW s p))/\
   (¬Min.min s.a.x s.b.x<=p.x->false=fW s p))/\
  (∀y:Unit,(fW s p=true->bd 1000000000 s.a/\bd 1000000000 s.b/\bd 1000000000 p/\decide (turn s.a s.b p=0)=onS s p)/\
   (fW s p=false->false=onS s p)))) (by kernel_rfl) (by
  refine⟨λh=>by unfold onS;grind,λh=>⟨by unfold fW;grind,λ_=>⟨λh2=>⟨(oA h).1,(oA h).2,Ps (oA h) h2,by unfold onS;grind⟩,λh2=>by unfold onS;rw[h2];simp⟩⟩⟩)
noncomputable def Ra:=SW.adk aDp
def so(l:List V)(k:Nat):List V:=mC (l.take k)
def qso(l:List V)(k j:Nat):Prop:=bf (aFG (so l k) j) (aFG l k)=true
def cm(s t:S)(k:Nat):List V:=([s.a,s.b,t.a,t.b].take k).filter λp=>onS s p&&onS t p
def GN{l:List V}{k:Nat}(h:k<l.length):so l (k+1)=kF (so l k) (aFG l k):=by unfold so mC;rw[l0,dw h,zh,nth_eq h];rfl
def E2{p:V}:∀{l:List V} {k:Nat},k<=l.length->(∀j,j<k->bf (aFG l j) p=true)->(k<l.length->¬bf (aFG l k) p=true)->
  kF l p=if k<l.length/\aFG l k=p then l else l.take k++p::l.drop k
 |[],k,h1,_,_=>by simp at h1;subst h1;rfl
 |q::r,0,_,_,h3=>by
  have h3:¬bf q p=true:=h3 (by simp);unfold kF;rw[if_neg h3];show(if q=p then q::r else p::q::r)=if 0<(q::r).length/\q=p then q::r else p::q::r;simp
 |q::r,k+1,h1,h2,h3=>by
  have h0:bf q p=true:=h2 0 (by omega);unfold kF;rw[if_pos h0,E2 (l:=r) (k:=k) (by grind) (λj hj=>h2 (j+1) (by omega)) (λhk=>h3 (by grind))];show(q::if _ then _ else _)=if k+1<(q::r).length/\aFG r k=p then q::r else q::(r.take k++p::r.drop k);grind
def Y5(l:List V)(p:V):(kF l p).length<=l.length+1:=by
 induction l with
 |nil=>simp[kF]
 |cons q r ih=>unfold kF;grind
def Pa{l:List V}{k y:Nat}(hk:k<l.length)(h1:y<=(so l k).length)(h2:aK (qso l k) y)(h3:y<(so l k).length->¬qso l k y)(h4:¬(y<(so l k).length/\aFG (so l k) y=aFG l k)):
  ([] :List V)++aU y (db 0 (so l k))++[aFG l k] ++aU ((so l k).length-y) (db y (so l k))=so l (k+1):=by
 have e:aU ((so l k).length-y) (db y (so l k))=db y (so l k):=iV (by simp);rw[GN hk,E2 h1 h2 h3,if_neg h4,e];simp
def OC{l:List V}{k y:Nat}(hk:k<l.length)(h1:y<=(so l k).length)(h2:aK (qso l k) y)(h3:y<(so l k).length->¬qso l k y)(h4:y<(so l k).length)(h5:aFG (so l k) y=aFG l k):so l k=so l (k+1):=by rw[GN hk,E2 h1 h2 h3,if_pos ⟨h4,h5⟩]
def aAS(s t:S){k:Nat}(h:k<4):cm s t (k+1)=if(onS s (aFG [s.a,s.b,t.a,t.b] k)&&onS t (aFG [s.a,s.b,t.a,t.b] k))=true then cm s t k++[aFG [s.a,s.b,t.a,t.b] k]else cm s t k:=by unfold cm;rw[l0,dw (show k<[s.a,s.b,t.a,t.b].length from h),List.filter_append,nth_eq (show k<[s.a,s.b,t.a,t.b].length from h)];grind
def aBW(s t:S)(k:Nat):(cm s t k).length<=4:=cL (TK _ _) (by simp;omega)
noncomputable def aET:Con:=con (a1 (aL .V)) (λl=>[l.length<=1000]) (λl=> .lst .V (mC l))
def aDo:aET.Okz 163:=ak Ra (λl=>[lp 3 4 l.length (λk=>[(so l k).length<=k]) [900] (λk=>[(3,.own 900 .V (so l k).length)]) (λk=>[(900,.row 44 .V (so l k))]) λk=>[cnt 6 5 (so l k).length (aK (qso l k)),jN 8 5 (λj=>[j<=(so l k).length,aK (qso l k) j,j<(so l k).length->¬qso l k j]) λj=>[jP 9 [¬(j<(so l k).length/\aFG (so l k) j=aFG l k)]]]]
  ) (λ_=>⟨_,rfl⟩) λl hp=>aZ (aA (so l 0).length λL=>aA ([] :List V) λN=>(0=(0:Int)/\L=0/\so l 0=N/\(0:Nat)<=l.length/\L<=0)/\
 (∀x:Nat,aA (x+1) λA=>aA (so l x) λB=>aA (so l A) λC=>aA (x:Int) λD=>aA (qso l x) λF=>aA (aFG l x) λH=>aA (db 0 B) λJ=>aA ((x+1:Nat):Int) λP=>x<=l.length/\B.length<=x->(D<l.length->((0=(0:Int)/\(0:Nat)<=B.length/\aK F 0)/\
    (∀x_1:Nat,aA (x_1:Int) λG=>aA (aFG B x_1) λM=>x_1<=B.length/\aK F x_1->(G<B.length->ix G B.length/\x_1<B.length/\ix D l.length/\(bf M H=true->aH (G+1)/\G+1=((x_1+1:Nat):Int)/\x_1+1<=B.length/\aK F (x_1+1)/\B.length-(x_1+1)<B.length-x_1)/\
      (bf M H=false->G=x_1/\x_1<=B.length/\aK F x_1/\(x_1<B.length->¬qso l x x_1)))/\
     (¬G<B.length->G=x_1/\x_1<=B.length/\aK F x_1/\(x_1<B.length->¬qso l x x_1))))/\
   (∀y:Nat,aA (y:Int) λE=>aA (B.length-y) λI=>aA (db y B) λK=>aA (N++aU y J) λO=>aA (N++aU y J++[H]) λQ=>y<=B.length/\aK F y/\(y<B.length->¬qso l x y)->((E<B.length->ix E B.length/\y<B.length/\ix D l.length/\((aFG B y)=H->aH (D+1)/\D+1=P/\B.length=C.length/\so l x=so l A/\x+1<=l.length/\C.length<=x+1/\l.length-A<l.length-x)/\
      (¬(aFG B y)=H->¬(y<B.length/\aFG B y=aFG l x)))/\
     (¬E<B.length->¬(y<B.length/\aFG B y=aFG l x)))/\
    (∀y_1:Unit,¬(y<B.length/\aFG B y=aFG l x)->(0<=E/\E<=B.length)/\0+y<=B.length/\N.length+(aU y J).length<=1000000/\ix D l.length/\O.length=O.length/\O.length+[H].length<=1000000/\(0<=E/\E<=B.length)/\Q.length=Q.length/\y+I<=B.length/\Q.length+(aU I K).length<=1000000/\aH (D+1)/\D+1=P/\(N++aU y J++[H] ++aU I K).length=C.length/\N++aU y J++[H] ++aU I K=so l A/\x+1<=l.length/\C.length<=x+1/\l.length-A<l.length-x)))/\
  (¬D<l.length->B.length=B.length/\so l x=mC l))) (by kernel_rfl) (by
  change l.length<=1000 at hp;have e0:so l 0=[] :=rfl;have e1:so l l.length=mC l:=by unfold so;rw[si]
  have el:∀x,x<l.length->(so l x).length<=x->(so l (x+1)).length<=x+1:=by intro x h h2;rw[GN h];exact cL (Y5 _ _) (by omega)
  have e2:(so l 0).length=0:=rfl
  with_reducible ((repeat' first|apply br|intro);all_goals repeat cases‹_/\_›)
  all_goals first|assumption|rfl|exact trivial|exact nb ‹_› |exact nb' ‹_› |omega|exact gQ (by omega)|(unfold ix;omega)|(unfold aH;omega)|exact gG _|exact cB ‹_› ‹_› |(refine cB ‹_› ?_;simp_all;done)|exact Pa (by omega) ‹_› ‹_› ‹_› ‹_› |exact congrArg eQ (Pa (by omega) ‹_› ‹_› ‹_› ‹_›)|exact OC (by omega) ‹_› ‹_› ‹_› (by omega) ‹_› |exact congrArg eQ (OC (by omega) ‹_› ‹_› ‹_› (by omega) ‹_›)|exact el _ (by omega) ‹_› |(unfold qso at*;simp_all;done)|grind)
noncomputable def RZ:=Ra.adk aDo
noncomputable def c99:Con:=con (ac aS (a1 aS)) (λ(_,_)=>[]) (λ(s,t)=> .lst .V (dx s t))
def k99:c99.Okz 98:=ak RZ (λ(s,t)=>[lp 4 7 4 bX [900,11] (λk=>[(6,.own 900 .V (cm s t k).length),(5,.own 11 .V 4)]) (λk=>[(900,.row 44 .V (cm s t k)),(11,.row 44 .V [s.a,s.b,t.a,t.b])]) λk=>[jb 7 34 (onS s (aFG [s.a,s.b,t.a,t.b] k)&&onS t (aFG [s.a,s.b,t.a,t.b] k))]]
  ) (λ(_,_)=>⟨_,rfl⟩) λ(s,t) _=>aZ (aA (4:Nat) λC=>(0=(0:Int)/\(cm s t 0).length=0/\C=4/\cm s t 0=([] :List V)/\[s.a,s.b,t.a,t.b] =[s.a,s.b,t.a,t.b]/\(0:Nat)<=4)/\
 (∀x:Nat,aA (x+1) λA=>aA (x:Int) λB=>aA (cm s t x) λD=>aA (cm s t A).length λE=>aA ((x+1:Nat):Int) λF=>aA (aFG [s.a,s.b,t.a,t.b] x) λG=>aA (onS s G&&onS t G) λH=>x<=4->(B<4->(ix B 4/\x<[s.a,s.b,t.a,t.b].length/\(onS s G=true->ix B 4/\x<[s.a,s.b,t.a,t.b].length/\onS t G=H)/\
    (onS s G=false->false=H))/\
   (∀y:Unit,(H=true->ix B 4/\x<[s.a,s.b,t.a,t.b].length/\D.length=D.length/\D.length+[G].length<=1000000/\aH (B+1)/\B+1=F/\(cm s t x++[G]).length=E/\C=4/\cm s t x++[G] =cm s t A/\[s.a,s.b,t.a,t.b] =[s.a,s.b,t.a,t.b]/\x+1<=4/\4-A<4-x)/\
    (H=false->aH (B+1)/\B+1=F/\D.length=E/\C=4/\cm s t x=cm s t A/\[s.a,s.b,t.a,t.b] =[s.a,s.b,t.a,t.b]/\x+1<=4/\4-A<4-x)))/\
  (¬B<4->D.length=D.length/\D.length<=1000/\mC D=dx s t))) (by kernel_rfl) (by
  have e0:cm s t 0=[] :=rfl;have e4:mC (cm s t 4)=dx s t:=rfl;have es:=λk=> @aAS s t k;have el:=aBW s t
  with_reducible ((repeat' first|apply br|intro);all_goals repeat cases‹_/\_›)
  all_goals grind)
noncomputable def t99:=RZ.adk k99
noncomputable def c32:Con:=con (ac aS (a1 aS)) (λ(_,_)=>[]) (λ(s,t)=> .iqz (bi s t)
 )
def k32:c32.Okz 32:=ak t99 (λ(_,_)=>[]) (λ(_,_)=>⟨_,rfl⟩) λ(s,t) _=>aZ (aA (!bD s) λA=>aA (!bD t) λB=>aA ((dx s t).length:Int) λD=>(A=true->0=bi s t)/\
 (A=false->(B=true->0=bi s t)/\
  (B=false->(1<D->3=bi s t)/\
   (¬1<D->(D=1->1=bi s t)/\
    (¬D=1->aH (gk s t.a*gk s t.b)/\(gk s t.a*gk s t.b<0->aH (gk t s.a*gk t s.b)/\(gk t s.a*gk t s.b<0->2=bi s t)/\
      (¬gk t s.a*gk t s.b<0->0=bi s t))/\
     (¬gk s t.a*gk s t.b<0->0=bi s t)))))) (by kernel_rfl) (by
  have d1:=BH s t.a;have d2:=BH s t.b;have d3:=BH t s.a;have d4:=BH t s.b;have m1:=iI d1 d2;have m2:=iI d3 d4;unfold bi
  with_reducible ((repeat' first|apply br|intro);all_goals repeat cases‹_/\_›)
  all_goals grind)
noncomputable def t32:=t99.adk k32
def eg(r:aD)(k:Nat):List S:=(bM k).map (bO r)
def aAN(r:aD)(k:Nat):eg r k++[(⟨aFG r k,aFG r ((k+1) % r.length)⟩:S)] =eg r (k+1):=by unfold eg;rw[q8,dM];rfl
def aBS(r:aD)(k:Nat):(eg r k).length=k:=by unfold eg;simp
def ar(r:aD)(k:Nat):Int:=((bM k).map λi=>cross (aFG r i) (nxt r i)).sum
def Bu(r:aD)(k:Nat):ar r (k+1)=ar r k+cross (aFG r k) (aFG r ((k+1) % r.length)):=by unfold ar;rw[q8,dM,uU];simp[nxt]
def ni{r:aD}(h:near r=true){i:Nat}(hi:i<r.length){M:Int}(hM:2000<=M:=by decide):bd M (aFG r i):=uH (vL h i hi) hM
def aAr{r:aD}{i:Nat}(hi:i<r.length)(h:(!aX (aFG r i) 2000)=true):near r=false:=by
 cases hn:near r with
 |false=>rfl
 |true=>have:=vL hn i hi;grind
def Ys{r:aD}(h:aK (λi=>aX (aFG r i) 2000=true) r.length):near r=true:=by unfold near;rw[bh];intro v hv;obtain⟨j,hj,rfl⟩:=jS hv;rw[<-nth_eq hj];exact h j hj
def wN{r:aD}(h:near r=true):∀k:Nat,k<=r.length-> -8000000*(k:Int)<=ar r k/\ar r k<=8000000*k
 |0,_=>by simp[ar]
 |k+1,hk=>by
  have ih:=wN h k (by omega);have:=nZ (ni h (i:=k) (by omega) (M:=2000)) (ni h (i:=(k+1) % r.length) (bz _ (by omega)) (M:=2000));rw[Bu];unfold cross;omega
noncomputable def aFC:Con:=con (a1 (aL .V)) (λr=>[r.length<=100000]) (λr=> .lst .S (aJ r))
def aD6:aFC.Okz 101:=ak t32 (λr=>[lp 5 4 r.length bX [900] (λk=>[(3,.own 900 .S (eg r k).length)]) (λk=>[(900,.row 46 .S (eg r k))])]
  ) (λ_=>⟨_,rfl⟩) λr hp=>aZ (aA (r.length:Int) λG=>aA ([] :List S) λI=>(G<2->aJ r=I)/\
 (¬G<2->(0=(0:Int)/\(eg r 0).length=0/\eg r 0=I/\(0:Nat)<=r.length)/\
  (∀x:Nat,aA (x+1) λA=>aA (eg r x) λB=>aA (x:Int) λC=>aA (⟨(aFG r x),(aFG r (A % r.length))⟩:S) λH=>x<=r.length->(C<r.length->ix C r.length/\aH (C+1)/\G≠0/\ix ((A % r.length:Nat):Int) r.length/\B.length=B.length/\B.length+[H].length<=1000000/\aH (C+1)/\C+1=((x+1:Nat):Int)/\(eg r x++[H]).length=(eg r A).length/\eg r x++[H] =eg r A/\x+1<=r.length/\r.length-A<r.length-x)/\
   (¬C<r.length->B.length=B.length/\eg r x=aJ r)))) (by kernel_rfl) (by
  change r.length<=100000 at hp;have e0:eg r 0=[] :=rfl;have es:=aAN r;have el:=aBS r;have ee:aJ r=if r.length<2 then []else eg r r.length:=rfl
  repeat' first|with_reducible apply br|with_reducible intro
  all_goals repeat with_reducible cases‹_/\_›
  all_goals first|assumption|rfl|exact trivial|exact nb ‹_› |exact nb' ‹_› |omega|exact gQ (by omega)|(unfold ix;omega)|(unfold aH;omega)|exact gG _|exact cB ‹_› ‹_› |(refine cB ‹_› ?_;simp_all;done)|grind)
noncomputable def SS:=t32.adk aD6
noncomputable def aEW:Con:=con (a1 (aL .V)) (λr=>[r.length<=100000]) (λr=> .bool (near r))
def Se:aEW.Okz 159:=ak SS (λr=>[cnt 2 3 r.length (aK λi=>aX (aFG r i) 2000=true)]
  ) (λ_=>⟨_,rfl⟩) λr hp=>aZ ((0=(0:Int)/\(0:Nat)<=r.length/\aK (λi=>aX (aFG r i) 2000=true) 0)/\
 (∀x:Nat,aA (x:Int) λA=>aA (!aX (aFG r x) 2000) λB=>x<=r.length/\aK (λi=>aX (aFG r i) 2000=true) x->(A<r.length->ix A r.length/\(0:Int)<=2000/\(2000:Int)<=1000000000000/\(B=true->false=near r)/\
   (B=false->aH (A+1)/\A+1=((x+1:Nat):Int)/\x+1<=r.length/\aK (λi=>aX (aFG r i) 2000=true) (x+1)/\r.length-(x+1)<r.length-x))/\
  (¬A<r.length->true=near r))) (by kernel_rfl) (by
  change r.length<=100000 at hp;have e1:= @aAr r;have e2:= @Ys r
  repeat' first|with_reducible apply br|with_reducible intro
  all_goals repeat with_reducible cases‹_/\_›
  all_goals first|assumption|rfl|exact trivial|exact nb ‹_› |exact nb' ‹_› |omega|exact gQ (by omega)|(unfold ix;omega)|(unfold aH;omega)|exact gG _|exact cB ‹_› ‹_› |(refine cB ‹_› ?_;simp_all;done)|exact(e2 (by rw[show r.length=_ from(by omega)];assumption)).symm|grind)
noncomputable def Re:=SS.adk Se
noncomputable def aFs:Con:=con (a1 (aL .V)) (λr=>[near r=true,r.length<=100000]) (λr=> .iqz (area r))
def aDW:aFs.Okz 116:=ak Re (λr=>[lp 3 4 r.length bX [] (λk=>[(3,.iqz (ar r k))]) bX]
  ) (λ_=>⟨_,rfl⟩) λr hp=>aZ ((0=(0:Int)/\0=ar r 0/\(0:Nat)<=r.length)/\
 (∀x:Nat,aA (x+1) λA=>aA (x:Int) λB=>aA (aFG r x) λC=>aA (aFG r (A % r.length)) λE=>x<=r.length->(B<r.length->ix B r.length/\aH (B+1)/\(r.length:Int)≠0/\ix ((A % r.length:Nat):Int) r.length/\bd 2000000000 C/\bd 2000000000 E/\aH (ar r x+cross C E)/\aH (B+1)/\B+1=((x+1:Nat):Int)/\ar r x+cross C E=ar r A/\x+1<=r.length/\r.length-A<r.length-x)/\
  (¬B<r.length->ar r x=area r))) (by kernel_rfl) (by
  change near r=true/\r.length<=100000 at hp;have e0:ar r r.length=area r:=rfl;have es:=Bu r;have eb:∀x,x<r.length->aH (ar r x+cross (aFG r x) (aFG r ((x+1) % r.length))):=λx h=>by rw[<-es];exact bV (by have:=wN hp.1 (x+1) (by omega);omega)
  have en:=λi hi=> @ni r hp.1 i hi 2000000000
  repeat' first|with_reducible apply br|with_reducible intro
  all_goals repeat with_reducible cases‹_/\_›
  all_goals first|assumption|rfl|exact trivial|exact nb ‹_› |exact nb' ‹_› |omega|exact gQ (by omega)|(unfold ix;omega)|(unfold aH;omega)|exact gG _|exact cB ‹_› ‹_› |(refine cB ‹_› ?_;simp_all;done)|exact eb _ (by omega)|exact en _ (by omega) (by decide)|exact en _ (bz _ (by omega)) (by decide)|(rw[es])|grind)
noncomputable def SJ:=Re.adk aDW
noncomputable def aEw:Con:=con (a1 aI) (λn=>[-9000000000000000000<=n,n<=9000000000000000000]) (λn=> .iqz (n.natAbs:Int)
 )
def aC1:aEw.Okz 200:=ak SJ bX (λ_=>⟨_,rfl⟩) λn hp=>aZ ((0<=n->n=cM n)/\
 (¬0<=n->aH (0-n)/\0-n=cM n)) (by kernel_rfl) (by
  change-9000000000000000000<=n/\n<=9000000000000000000 at hp
  repeat' first|with_reducible apply br|with_reducible intro
  all_goals repeat with_reducible cases‹_/\_›
  all_goals first|assumption|rfl|exact trivial|exact nb ‹_› |exact nb' ‹_› |omega|exact gQ (by omega)|(unfold ix;omega)|(unfold aH;omega)|exact gG _|exact cB ‹_› ‹_› |(refine cB ‹_› ?_;simp_all;done)|grind)
noncomputable def RA:=SJ.adk aC1
noncomputable def aEx:Con:=con (ac aI (a1 aI)) (λ(a,b)=>[0<=a,0<=b]) (λ(a,b)=> .iqz ((bB a.natAbs b.natAbs:Nat):Int))
def aC2:aEx.Okz 199:=ak RA (λ(a,b)=>[(1,.mk (Int×Int) (λF _=>IP F 0 1) [] (λp=>[0<=p.1,0<=p.2,bB p.1.natAbs p.2.natAbs=bB a.natAbs b.natAbs]) (λp=>[(0,.iqz p.1),(1,.iqz p.2)]) bX (λp=>p.2.natAbs) bX)]
  ) (λ(_,_)=>⟨_,rfl⟩) λ(a,b) hp=>aZ (aA (cM a) λA=>aA (cM b) λB=>(a=a/\b=b/\0<=a/\0<=b/\bB A B=bB A B)/\
 (∀x:Prod Int Int,aA (cZ x.1 x.2) λC=>0<=x.1/\0<=x.2/\bB (cM x.1) (cM x.2)=bB A B->(¬x.2=0->x.2≠0/\x.2=x.2/\cZ x.1 x.2=cZ x.1 x.2/\0<=x.2/\0<=cZ x.1 x.2/\bB (cM x.snd) (cM C)=bB A B/\cM C<cM x.2)/\
  (¬(¬x.2=0)->x.1=bB A B))) (by kernel_rfl) (by
  change 0<=a/\0<=b at hp;have e1:∀x y:Int,0<=x->0<=y->bB y.natAbs (cZ x y).natAbs=bB x.natAbs y.natAbs:=λx y _ _=>by rw[zl,zm,<-Nat.gcd_rec,zm]
  have e2:∀x y:Int,0<=x->¬y=0->(cZ x y).natAbs<y.natAbs:=λx y _ h=>by rw[zl];exact bz _ (by omega)
  have e3:∀x y:Int,0<=x->0<=cZ x y:=λx y h=>Int.tmod_nonneg _ h
  repeat' first|with_reducible apply br|with_reducible intro
  all_goals repeat with_reducible cases‹_/\_›
  all_goals first|assumption|rfl|exact trivial|exact nb ‹_› |exact nb' ‹_› |omega|exact gQ (by omega)|(unfold ix;omega)|(unfold aH;omega)|exact gG _|exact cB ‹_› ‹_› |(refine cB ‹_› ?_;simp_all;done)|exact e3 _ _ ‹_› |exact e2 _ _ (by assumption) ‹_› |(rw[e1 _ _ (by assumption) (by assumption)];assumption)|(have h0:=sk ‹¬¬_›;simp_all;omega)|grind)
noncomputable def RB:=RA.adk aC2
def PtB(p:Pt):Prop:=(1<=p.den/\p.den<=134217728)/\(-600000000000<=p.x/\p.x<=600000000000)/\(-600000000000<=p.y/\p.y<=600000000000)
def PtB.of{p:Pt}(h:cn p=true):PtB p:=by unfold cn ii aX at h;simp only[bj,decide_eq_true_eq]at h;unfold PtB;omega
def PtB.off{p:Pt}(hp:PtB p){v:V}(hv:bd 10000 v):(-1400000000000<=v.x*p.den/\v.x*p.den<=1400000000000)/\(-1400000000000<=v.y*p.den/\v.y*p.den<=1400000000000):=by have h1:=iI (x:=v.x) (y:=p.den) (A:=10000) (B:=134217728) (by unfold bd at hv;omega) (by unfold PtB at hp;omega);have h2:=iI (x:=v.y) (y:=p.den) (A:=10000) (B:=134217728) (by unfold bd at hv;omega) (by unfold PtB at hp;omega);omega
noncomputable def aEV:Con:=con (a1 aT) (λ_=>[]) (λp=> .bool (cn p))
def aDq:aEV.Okz 161:=ak RB (λp=>[jb 2 42 (!ii p 4000)]
  ) (λ_=>⟨_,rfl⟩) λp _=>aZ (aA (-4000*p.den) λA=>aA (!ii p 4000) λB=>aA (cM p.x:Int) λC=>aA (cM p.y:Int) λD=>aA (bB (cM C) (cM D):Int) λE=>((p.den<1->true=B)/\
  (¬p.den<1->(134217728<p.den->true=B)/\
   (¬134217728<p.den->aH A/\(p.x< -4000*p.den->true=B)/\
    (¬p.x< -4000*p.den->aH (4000*p.den)/\(4000*p.den<p.x->true=B)/\
     (¬4000*p.den<p.x->aH A/\(p.y< -4000*p.den->true=B)/\
      (¬p.y< -4000*p.den->aH (4000*p.den)/\decide (4000*p.den<p.y)=B))))))/\
 (∀y:Unit,(B=true->false=cn p)/\
  (B=false-> -9000000000000000000<=p.x/\p.x<=9000000000000000000/\ -9000000000000000000<=p.y/\p.y<=9000000000000000000/\0<=C/\0<=D/\0<=E/\0<=p.den/\decide ((bB (cM E) (cM p.den):Int)=1)=cn p))) (by kernel_rfl) (by
  unfold cn ii aX;simp only[Int.natAbs_natCast]
  repeat' first|with_reducible apply br|with_reducible intro
  all_goals repeat with_reducible cases‹_/\_›
  all_goals first|assumption|rfl|exact trivial|exact nb ‹_› |exact nb' ‹_› |omega|exact gQ (by omega)|(unfold ix;omega)|(unfold aH;omega)|exact gG _|exact cB ‹_› ‹_› |(refine cB ‹_› ?_;simp_all;done)|grind)
noncomputable def Rb:=RB.adk aDq
noncomputable def aER:Con:=con (ac aV (ac aV (a1 aT))) (λ(a,b,p)=>[bd 10000 a,bd 10000 b,PtB p]) (λ(a,b,p)=> .iqz (sgn (fP ⟨a,b⟩ p))
 )
def aDm:aER.Okz 165:=ak Rb (λ(_,_,_)=>[]) (λ(_,_,_)=>⟨_,rfl⟩) λ(a,b,p) hp=>aZ (aA (aFJ b a) λA=>aA (p.y-a.y*p.den) λB=>aA (p.x-a.x*p.den) λC=>aA (A.x*B-A.y*C) λD=>bd 1000000000 b/\bd 1000000000 a/\aH (a.y*p.den)/\aH B/\aH (A.x*B)/\aH (a.x*p.den)/\aH C/\aH (A.y*C)/\aH D/\sgn D=sgn (fP (⟨a,b⟩:S) p)) (by kernel_rfl) (by change bd 10000 a/\bd 10000 b/\PtB p at hp;have h1:=hp.2.2.off hp.1;have h2:=jD hp.2.1 hp.1;have h3:=hp.2.2;unfold PtB at h3;have m1:=iI (A:=20000) (B:=2000000000000) h2.1 (y:=p.y-a.y*p.den) (by omega);have m2:=iI (A:=20000) (B:=2000000000000) h2.2 (y:=p.x-a.x*p.den) (by omega);exact⟨hp.2.1.mono,hp.1.mono,bV (by omega),bV (by omega),bV (by omega),bV (by omega),bV (by omega),bV (by omega),bV (by omega),rfl⟩)
noncomputable def RX:=Rb.adk aDm
def inR(s:S)(p:Pt):Bool:=decide (min s.a.x s.b.x*p.den<=p.x)&&decide (p.x<=max s.a.x s.b.x*p.den)&&decide (min s.a.y s.b.y*p.den<=p.y)&&decide (p.y<=max s.a.y s.b.y*p.den)
noncomputable def aES:Con:=con (ac aS (a1 aT)) (λ(s,p)=>[bd 10000 s.a,bd 10000 s.b,PtB p]) (λ(s,p)=> .bool (onR s p))
def aDn:aES.Okz 164:=ak RX (λ(s,p)=>[jb 2 5 (inR s p)]
  ) (λ(_,_)=>⟨_,rfl⟩) λ(s,p) hp=>aZ ((aH (Min.min s.a.x s.b.x*p.den)/\(Min.min s.a.x s.b.x*p.den<=p.x->aH (Max.max s.a.x s.b.x*p.den)/\(p.x<=Max.max s.a.x s.b.x*p.den->aH (Min.min s.a.y s.b.y*p.den)/\(Min.min s.a.y s.b.y*p.den<=p.y->aH (Max.max s.a.y s.b.y*p.den)/\decide (p.y<=Max.max s.a.y s.b.y*p.den)=inR s p)/\
    (¬Min.min s.a.y s.b.y*p.den<=p.y->false=inR s p))/\
   (¬p.x<=Max.max s.a.x s.b.x*p.den->false=inR s p))/\
  (¬Min.min s.a.x s.b.x*p.den<=p.x->false=inR s p))/\
 (∀y:Unit,(inR s p=true->bd 10000 s.a/\bd 10000 s.b/\PtB p/\decide (sgn (fP s p)=0)=onR s p)/\
  (inR s p=false->false=onR s p))) (by kernel_rfl) (by
  change bd 10000 s.a/\bd 10000 s.b/\PtB p at hp;have h1:=hp.2.2.off (v:=⟨min s.a.x s.b.x,min s.a.y s.b.y⟩) (by unfold bd at*;grind);have h2:=hp.2.2.off (v:=⟨max s.a.x s.b.x,max s.a.y s.b.y⟩) (by unfold bd at*;grind);dsimp only at h1 h2;have e:onR s p=(inR s p&&sgn (fP s p)==0):=rfl;unfold inR at*
  repeat' first|with_reducible apply br|with_reducible intro
  all_goals repeat with_reducible cases‹_/\_›
  all_goals first|assumption|rfl|exact trivial|exact nb ‹_› |exact nb' ‹_› |omega|exact gQ (by omega)|(unfold ix;omega)|(unfold aH;omega)|exact gG _|exact cB ‹_› ‹_› |(refine cB ‹_› ?_;simp_all;done)|grind)
noncomputable def RY:=RX.adk aDn
def lg(r:aD)(i k:Nat):Bool:=if k=i+1\/(i=0/\k=r.length-1)then bi (bO r i) (bO r k)==1 else bi (bO r i) (bO r k)==0
def AR(r:aD):dj r=true↔3<=r.length/\r.length<=40/\near r=true/\(∀i,i<r.length->turn (aFG r i) (aFG r ((i+1) % r.length)) (aFG r ((i+2) % r.length))≠0)/\(∀i k,i<k->k<r.length->lg r i k=true)/\0<area r:=by
 unfold dj;simp only[bj,decide_eq_true_eq,bh,cD,bne_iff_ne,jQ];constructor
 .rintro⟨⟨⟨⟨⟨h1,h2⟩,h3⟩,h4⟩,h5⟩,h6⟩;refine⟨h1,h2,h3,h4,λi k hik hk=> ?_,h6⟩;rcases h5 i (by omega) k hk with h|h
  .omega
  .exact h
 .rintro⟨h1,h2,h3,h4,h5,h6⟩;refine⟨⟨⟨⟨⟨h1,h2⟩,h3⟩,h4⟩,λi hi k hk=> ?_⟩,h6⟩;by_cases h:k<=i
  .exact .inl h
  .exact .inr (h5 i k (by omega) hk)
def xQ(r:aD)(h:2<=r.length):(aJ r).length=r.length:=by unfold aJ;grind
def xb{r:aD}{i:Nat}(h:2<=r.length)(hi:i<r.length):aW (aJ r) i=bO r i:=by rw[jB (by rw[xQ r h];exact hi)];simp only[aJ,if_neg (show¬r.length<2 by omega),List.getElem_map,List.getElem_range]
def cK(p:Pt)(l:List S):Bool:=l.foldl (λb s=>b !=kG s p) false
def W2{p:Pt}{l:List S}{k:Nat}(h:k<l.length):cK p (l.take (k+1))=(cK p (l.take k) !=kG (aW l k) p):=by unfold cK;rw[l0,dw h,zh,jB h];rfl
def Ma{p:Pt}:∀{l:List S} {k:Nat} (ins:Bool),k<l.length->(∀j,j<k->onR (aW l j) p=false)->onR (aW l k) p=true->m5 p l ins=1
 |[],k,ins,h,_,_=>by simp at h
 |s::l,0,ins,h,_,h2=>by
  unfold m5;rw[show onR s p=true from h2];rfl
 |s::l,k+1,ins,h,h1,h2=>by
  unfold m5;rw[show onR s p=false from h1 0 (by omega)];exact Ma (l:=l) (k:=k) _ (by simpa using h) (λj hj=>h1 (j+1) (by omega)) h2
def LE{p:Pt}:∀{l:List S} (ins:Bool),(∀j,j<l.length->onR (aW l j) p=false)->m5 p l ins=if l.foldl (λb s=>b !=kG s p) ins=true then 2 else 0
 |[],ins,_=>rfl
 |s::l,ins,h1=>by
  unfold m5;rw[show onR s p=false from h1 0 (by simp)];exact LE (l:=l) _ (λj hj=>h1 (j+1) (by grind))
def pr(r:aD)(p:Pt)(k:Nat):Bool:=cK p ((aJ r).take k)
def PD{r:aD}(h:dj r=true){j:Nat}(hj:j<(aJ r).length):bd 2000 (aW (aJ r) j).a/\bd 2000 (aW (aJ r) j).b:=by obtain⟨h1,h2,h3,_⟩:=(AR r).1 h;rw[xQ r (by omega)]at hj;rw[xb (by omega) hj];exact⟨ni h3 hj,ni h3 (bz _ (by omega))⟩
def nxR(r:aD)(i k:Nat):Bool:=decide (k=i+1\/(i=0/\k=r.length-1))
abbrev nE(r:aD)(i:Nat):S:=aW (aJ r) i
def upR(e:S)(p:Pt):Bool:=decide (e.a.y*p.den<=p.y)&&decide (p.y<e.b.y*p.den)
def dnR(e:S)(p:Pt):Bool:=decide (e.b.y*p.den<=p.y)&&decide (p.y<e.a.y*p.den)
def tp(r:aD)(i:Nat):Prop:=turn (aFG r i) (aFG r ((i+1) % r.length)) (aFG r ((i+2) % r.length))≠0
noncomputable def c91:Con:=con (a1 (aL .V)) (λr=>[r.length<=100000]) (λr=> .bool (dj r))
def k91:c91.Okz 90:=ak RY (λr=>[jP 4 [3<=r.length,r.length<=40,near r=true],cnt 5 4 r.length (aK (tp r)),cnt 11 6 r.length (aK λi=>∀k,i<k->k<r.length->lg r i k=true) λi=>[(14,.mk Nat (λF _=>lh F 7) [] (λk=>[i<k,k<=r.length,∀j,i<j->j<k->lg r i j=true]) (λk=>[(7,.iqz (k:Int))]) bX (λk=>r.length-k) λk=>[jb 17 8 (nxR r i k),jb 19 97 (!lg r i k)])]]
  ) (λ_=>⟨_,rfl⟩) λr hp=>aZ (aA (aJ r) λF=>aA (r.length:Int) λO=>((O<3->false=dj r)/\
  (¬O<3->(40<O->false=dj r)/\
   (¬40<O->r.length<=100000/\((!near r)=true->false=dj r)/\
    ((!near r)=false->(3:Nat)<=r.length/\r.length<=40/\near r=true))))/\
 (∀y:Unit,(3:Nat)<=r.length/\r.length<=40/\near r=true->(0=(0:Int)/\(0:Nat)<=r.length/\aK (tp r) 0)/\
  (∀x:Nat,aA (x+1) λA=>aA (x:Int) λC=>aA (aFG r x) λI=>aA (aFG r (A % r.length)) λK=>aA (aFG r ((x+2) % r.length)) λM=>x<=r.length/\aK (tp r) x->(C<r.length->ix C r.length/\aH (C+1)/\O≠0/\ix ((A % r.length:Nat):Int) r.length/\aH (C+2)/\O≠0/\ix (((x+2) % r.length:Nat):Int) r.length/\bd 1000000000 I/\bd 1000000000 K/\bd 1000000000 M/\(turn I K M=0->false=dj r)/\
    (¬turn I K M=0->aH (C+1)/\C+1=((x+1:Nat):Int)/\x+1<=r.length/\aK (tp r) A/\r.length-A<r.length-x))/\
   (¬C<r.length->r.length<=100000/\(0=(0:Int)/\(0:Nat)<=r.length/\aK (λi=>∀k:Nat,i<k->k<r.length->lg r i k=true) 0)/\
    (∀x_1:Nat,aA (x_1:Int) λD=>aA (aW F x_1) λG=>aA (x_1+1:Nat) λN=>x_1<=r.length/\aK (λi=>∀k:Nat,i<k->k<r.length->lg r i k=true) x_1->(D<r.length->aH (D+1)/\(D+1=(N:Int)/\x_1<x_1+1/\x_1+1<=r.length/\(∀j:Nat,x_1<j->j<x_1+1->lg r x_1 j=true))/\
      (∀x_2:Nat,aA (x_2:Int) λE=>aA (aW F x_2) λH=>aA (!nxR r x_1 x_2) λP=>aA (!lg r x_1 x_2) λQ=>x_1<x_2/\x_2<=r.length/\(∀j:Nat,x_1<j->j<x_2->lg r x_1 j=true)->(E<r.length->(aH (D+1)/\(E=x_1+1->true=nxR r x_1 x_2)/\
         (¬E=x_1+1->(D=0->aH (O-1)/\decide (E=r.length-1)=nxR r x_1 x_2)/\
          (¬D=0->false=nxR r x_1 x_2)))/\
        (∀y_1:Unit,ix D F.length/\ix E F.length/\((nxR r x_1 x_2=true->(¬bi G H=1->true=Q)/\
           (¬(¬bi G H=1)->(P=true->decide (¬bi G H=0)=Q)/\
            (P=false->false=Q)))/\
          (nxR r x_1 x_2=false->(P=true->decide (¬bi G H=0)=Q)/\
           (P=false->false=Q)))/\
         (∀y_2:Unit,(Q=true->false=dj r)/\
          (Q=false->aH (E+1)/\E+1=((x_2+1:Nat):Int)/\x_1<x_2+1/\x_2+1<=r.length/\(∀j:Nat,x_1<j->j<x_2+1->lg r x_1 j=true)/\r.length-(x_2+1)<r.length-x_2))))/\
       (¬E<r.length->aH (D+1)/\D+1=(N:Int)/\x_1+1<=r.length/\aK (λi=>∀k:Nat,i<k->k<r.length->lg r i k=true) (x_1+1)/\r.length-(x_1+1)<r.length-x_1)))/\
     (¬D<r.length->near r=true/\r.length<=100000/\decide (0<area r)=dj r)))))) (by kernel_rfl) (by
  change r.length<=100000 at hp;have iff:=AR r;have hf:(dj r=true->False)->false=dj r:=λh=>by grind
  have el:3<=r.length->(aJ r).length=r.length:=λh=>xQ r (by omega);have en:near r=true->∀i,i<r.length->bd 1000000000 (aFG r i):=λh i hi=>ni h hi;have hp':3<=r.length->∀i k,i<k->k<r.length->lg r i k=if nxR r i k=true then bi (aW (aJ r) i) (aW (aJ r) k)==1 else bi (aW (aJ r) i) (aW (aJ r) k)==0:=λh i k h1 h2=>by unfold lg nxR;rw[xb (by omega) (by omega),xb (by omega) (by omega)];grind
  have hE:3<=r.length->r.length<=40->near r=true->∀x y:Nat,¬(x:Int)<r.length->¬(y:Int)<r.length->aK (tp r) x->aK (λi=>∀k:Nat,i<k->k<r.length->lg r i k=true) y->decide (0<area r)=dj r:=λh1 h2 h3 x y hx hy h4 h5=>by rw[fL,iff,decide_eq_true_eq];exact⟨λh=>⟨h1,h2,h3,λi hi=>h4 i (by omega),λi k hi hk=>h5 i (by omega) k hi hk,h⟩,λh=>h.2.2.2.2.2⟩
  repeat' first|with_reducible apply br|with_reducible intro
  all_goals repeat with_reducible cases‹_/\_›
  all_goals first|assumption|rfl|exact trivial|exact nb ‹_› |exact nb' ‹_› |omega|exact gQ (by omega)|(unfold ix;omega)|(unfold aH;omega)|exact gG _|exact cB ‹_› ‹_› |(refine cB ‹_› ?_;simp_all;done)|exact en ‹_› _ (by omega)|exact en ‹_› _ (bz _ (by omega))|(rw[el ‹_›];exact fC (by omega))|exact hE ‹_› ‹_› ‹_› _ _ ‹_› ‹_› ‹_› ‹_› |(refine hf λh=> ?_;have h:=iff.1 h;first|omega|(exact h.2.2.2.1 _ (by omega) ‹_=0›)|(have h2:=h.2.2.2.2.1 _ _ ‹_› (by omega);simp_all;done)|(simp_all;done))|(refine cB ‹_› ?_;grind)|(unfold nxR;exact(decide_eq_true (by omega)).symm)|(unfold nxR;exact(decide_eq_false (by omega)).symm)|(unfold nxR;exact decide_eq_decide.2 (by omega))|(rw[hp' ‹_› _ _ ‹_› (by omega),‹nxR _ _ _=_›];grind)|(intro j h1 h2;omega)|grind)
noncomputable def t91:=RY.adk k91
noncomputable def aFB:Con:=con (ac (aL .V) (a1 aT)) (λ(r,_)=>[r.length<=100000]) (λ(r,p)=> .iqz (dc r p))
def aD5:aFB.Okz 102:=ak t91 (λ(r,p)=>[jP 3 [dj r=true,cn p=true],lp 6 7 (aJ r).length (λk=>[aK (λj=>onR (nE r j) p=false) k]) [] (λk=>[(6,.bool (pr r p k))]) bX λk=>[(10012,.mk Unit (λ_ _=>some ()) [] bX (λ_=>[(10,.bool (upR (nE r k) p)),(11,.bool (dnR (nE r k) p))]) bX (λ_=>0) λ_=>[]),jb 13 97 (kG (nE r k) p)]]
  ) (λ(_,_)=>⟨_,rfl⟩) λ(r,p) hp=>aZ (aA (aJ r) λD=>aA (!dj r) λH=>aA (!cn p) λI=>(r.length<=100000/\(H=true->0=dc r p)/\
  (H=false->(I=true->0=dc r p)/\
   (I=false->dj r=true/\cn p=true)))/\
 (∀y:Unit,dj r=true/\cn p=true->r.length<=100000/\(0=(0:Int)/\false=pr r p 0/\(0:Nat)<=D.length/\aK (λj=>onR (nE r j) p=false) 0)/\
  (∀x:Nat,aA (x+1) λA=>aA (nE r x) λB=>aA (x:Int) λC=>aA (fP B p) λE=>aA (B.a.y*p.den) λF=>aA (B.b.y*p.den) λG=>aA ((x+1:Nat):Int) λJ=>x<=D.length/\aK (λj=>onR (nE r j) p=false) x->(C<D.length->ix C D.length/\bd 10000 B.a/\bd 10000 B.b/\PtB p/\(onR B p=true->1=dc r p)/\
    (onR B p=false->ix C D.length/\ix C D.length/\(aH F/\(B.a.y*p.den<=p.y->aH G/\aH G/\(B.b.y*p.den<=p.y->aH F/\decide (p.y<B.b.y*p.den)=upR B p/\decide (p.y<B.a.y*p.den)=dnR B p)/\
       (¬B.b.y*p.den<=p.y->decide (p.y<B.b.y*p.den)=upR B p/\false=dnR B p))/\
      (¬B.a.y*p.den<=p.y->aH G/\(B.b.y*p.den<=p.y->aH F/\false=upR B p/\decide (p.y<B.a.y*p.den)=dnR B p)/\
       (¬B.b.y*p.den<=p.y->false=upR B p/\false=dnR B p)))/\
     (∀y_1:Unit,((upR B p=true->bd 10000 B.a/\bd 10000 B.b/\PtB p/\(0<sgn E->true=kG B p)/\
        (¬0<sgn E->(dnR B p=true->bd 10000 B.a/\bd 10000 B.b/\PtB p/\decide (sgn E<0)=kG B p)/\
         (dnR B p=false->false=kG B p)))/\
       (upR B p=false->(dnR B p=true->bd 10000 B.a/\bd 10000 B.b/\PtB p/\decide (sgn E<0)=kG B p)/\
        (dnR B p=false->false=kG B p)))/\
      (∀y_2:Unit,(kG B p=true->aH (C+1)/\C+1=J/\(!pr r p x)=pr r p A/\x+1<=D.length/\aK (λj=>onR (nE r j) p=false) A/\D.length-A<D.length-x)/\
       (kG B p=false->aH (C+1)/\C+1=J/\pr r p x=pr r p A/\x+1<=D.length/\aK (λj=>onR (nE r j) p=false) A/\D.length-A<D.length-x)))))/\
   (¬C<D.length->(pr r p x=true->2=dc r p)/\
    (pr r p x=false->0=dc r p))))) (by kernel_rfl) (by
  change r.length<=100000 at hp;have e0:pr r p 0=false:=rfl;have es:∀k,k<(aJ r).length->pr r p (k+1)=(pr r p k !=kG (nE r k) p):=λk h=>W2 h;have eh:∀e,kG e p=(upR e p&&decide (0<sgn (fP e p))||dnR e p&&decide (sgn (fP e p)<0)):=λe=>rfl;have hw0:dj r=false\/cn p=false->0=dc r p:=λh=>by unfold dc;grind
  have hw:dj r=true->cn p=true->dc r p=m5 p (aJ r) false:=λh1 h2=>by unfold dc;simp[h1,h2]
  have eb:dj r=true->∀j,j<(aJ r).length->bd 2000 (nE r j).a/\bd 2000 (nE r j).b:=λh j hj=>PD h hj;have el:(aJ r).length<=100000:=by unfold aJ;split<;>simp<;>omega
  have ey:dj r=true->cn p=true->∀j,j<(aJ r).length->aH ((nE r j).a.y*p.den)/\aH ((nE r j).b.y*p.den):=λh1 h2 j hj=>⟨bV (by have:=(PtB.of h2).off (eb h1 j hj).1.mono;omega),bV (by have:=(PtB.of h2).off (eb h1 j hj).2.mono;omega)⟩;have s1:∀j,j<(aJ r).length->aK (λj=>onR (nE r j) p=false) j->onR (nE r j) p=true->m5 p (aJ r) false=1:=λj h1 h2 h3=>Ma false h1 h2 h3;have s2:∀k:Nat,¬(k:Int)<(aJ r).length->k<=(aJ r).length->aK (λj=>onR (nE r j) p=false) k->m5 p (aJ r) false=if pr r p k=true then 2 else 0:=λk h1 h2 h=>by
   obtain rfl:k=(aJ r).length:=by omega
   rw[LE false h];unfold pr cK;grind
  repeat' first|with_reducible apply br|with_reducible intro
  all_goals repeat with_reducible cases‹_/\_›
  all_goals first|assumption|rfl|exact trivial|exact nb ‹_› |exact nb' ‹_› |omega|exact gQ (by omega)|(unfold ix;omega)|(unfold aH;omega)|exact gG _|exact cB ‹_› ‹_› |(refine cB ‹_› ?_;simp_all;done)|exact(eb ‹_› _ (by omega)).1.mono|exact(eb ‹_› _ (by omega)).2.mono|exact(ey ‹_› ‹_› _ (by omega)).1|exact(ey ‹_› ‹_› _ (by omega)).2|exact PtB.of ‹_› |exact hw0 (.inl (nb' ‹_›))|exact hw0 (.inr (nb' ‹_›))|(rw[hw ‹_› ‹_›,s1 _ (by omega) ‹_› ‹_›])|(rw[hw ‹_› ‹_›,s2 _ ‹_› ‹_› ‹_›,‹pr _ _ _=_›];rfl)|(rw[es _ (by omega),‹kG _ _=_›];simp;done)|(rw[eh,‹upR _ _=_›,‹dnR _ _=_›];grind)|(rw[eh,‹upR _ _=_›];simp_all;done)|(unfold upR;simp_all;done)|(unfold dnR;simp_all;done)|grind)
noncomputable def SQ:=t91.adk aD5
noncomputable def c36:Con:=con (ac (aL .V) (a1 aV)) (λ(r,_)=>[r.length<=100000]) (λ(r,v)=> .iqz (jl r v)
 )
def k36:c36.Okz 36:=ak SQ (λ(_,_)=>[]) (λ(_,_)=>⟨_,rfl⟩) λ(r,v) hp=>aZ (aA (!aX v 8000) λA=>(0:Int)<=8000/\(8000:Int)<=1000000000000/\(A=true->0=jl r v)/\
 (A=false->r.length<=100000/\dc r (dq v)=jl r v)) (by kernel_rfl) (by change r.length<=100000 at hp;unfold jl;grind)
noncomputable def t36:=SQ.adk k36
noncomputable def c97:Con:=con (a1 aT) (λp=>[cn p=true,p.den=1]) (λp=> .tup [.agg [.iqz p.x,.iqz p.y],.bool true]
 )
def k97:c97.Okz 96:=ak t36 bX (λ_=>⟨_,rfl⟩) λp hp=>aZ (aA (!cn p) λA=>(A=true->0=p.x/\0=p.y/\false=true)/\
 (A=false->(¬p.den=1->0=p.x/\0=p.y/\false=true)/\
  (¬(¬p.den=1)->p.x=p.x/\p.y=p.y/\true=true))) (by kernel_rfl) (by
  change cn p=true/\p.den=1 at hp;grind)
noncomputable def t97:=t36.adk k97
noncomputable def c96:Con:=con (ac aS (a1 aS)) (λ(s,t)=>[bi s t=1]) (λ(s,t)=> .tup [aT.enc (dq (aFG (dx s t) 0)),.bool true]
 )
def k96:c96.Okz 95:=ak t97 (λ(_,_)=>[]) (λ(_,_)=>⟨_,rfl⟩) λ(s,t) hp=>aZ ((bi s t=1->ix 0 (dx s t).length/\(dq (aFG (dx s t) 0)).x=(dq (aFG (dx s t) 0)).x/\(dq (aFG (dx s t) 0)).y=(dq (aFG (dx s t) 0)).y/\(dq (aFG (dx s t) 0)).den=(dq (aFG (dx s t) 0)).den/\true=true)/\
 (¬bi s t=1->(bi s t=2->bd 1000000000 s.b/\bd 1000000000 s.a/\bd 1000000000 t.b/\bd 1000000000 t.a/\bd 2000000000 (aFJ s.b s.a)/\bd 2000000000 (aFJ t.b t.a)/\bd 1000000000 t.a/\bd 1000000000 s.a/\bd 2000000000 (aFJ t.a s.a)/\bd 2000000000 (aFJ t.b t.a)/\aH (s.a.x*cross (aFJ s.b s.a) (aFJ t.b t.a))/\aH ((aFJ s.b s.a).x*cross (aFJ t.a s.a) (aFJ t.b t.a))/\aH (s.a.x*cross (aFJ s.b s.a) (aFJ t.b t.a)+(aFJ s.b s.a).x*cross (aFJ t.a s.a) (aFJ t.b t.a))/\aH (s.a.y*cross (aFJ s.b s.a) (aFJ t.b t.a))/\aH ((aFJ s.b s.a).y*cross (aFJ t.a s.a) (aFJ t.b t.a))/\aH (s.a.y*cross (aFJ s.b s.a) (aFJ t.b t.a)+(aFJ s.b s.a).y*cross (aFJ t.a s.a) (aFJ t.b t.a))/\False)/\
  (¬bi s t=2->0=(dq (aFG (dx s t) 0)).x/\0=(dq (aFG (dx s t) 0)).y/\0=(dq (aFG (dx s t) 0)).den/\false=true))) (by kernel_rfl) (by
  change bi s t=1 at hp;have hl:(dx s t).length=1:=by unfold bi at hp;grind
  with_reducible ((repeat' first|apply br|intro);all_goals repeat cases‹_/\_›)
  all_goals grind)
noncomputable def t96:=t97.adk k96
def tF(r:aD):∀k,dH r k<=k
 |0=>bZ _
 |k+1=>by unfold dH;have:=tF r k;grind
def ES{r:aD}{k:Nat}(h:0<k):dH r k<k:=Geo.ES r k h
def aAy(r:aD)(k:Nat):dH r (k+1)=if bf (aFG r k) (aFG r (dH r k))=true then k else dH r k:=rfl
def im(r:aD):aD:=if dj r then bw r else []
noncomputable def aE8:Con:=con (a1 (aL .V)) (λr=>[r.length<=100000]) (λr=> .lst .V (bw r))
def aDB:aE8.Okz 121:=ak t96 (λr=>[lp 3 4 r.length bX [] (λk=>[(3,.iqz (dH r k))]) bX]
  ) (λ_=>⟨_,rfl⟩) λr hp=>aZ (aA ([] :List V) λD=>(0=(0:Int)/\0=(dH r 0:Int)/\(0:Nat)<=r.length)/\
 (∀x:Nat,aA (x+1) λA=>aA (x:Int) λB=>aA (dH r x) λC=>aA (D++db C r) λE=>aA ((x+1:Nat):Int) λF=>aA (dH r x:Int) λG=>aA (D++db C r++aU C r) λH=>x<=r.length->(B<r.length->ix B r.length/\ix G r.length/\(bf (aFG r x) (aFG r C)=true->aH (B+1)/\B+1=F/\B=dH r A/\x+1<=r.length/\r.length-A<r.length-x)/\
   (bf (aFG r x) (aFG r C)=false->aH (B+1)/\B+1=F/\G=dH r A/\x+1<=r.length/\r.length-A<r.length-x))/\
  (¬B<r.length->(0<=G/\G<=r.length)/\D.length+(db C r).length<=1000000/\(0<=G/\G<=r.length)/\E.length=E.length/\E.length+(aU C r).length<=1000000/\H.length=H.length/\D++db C r++aU C r=bw r))) (by kernel_rfl) (by
  change r.length<=100000 at hp;have e0:dH r 0=0:=rfl;have es:=aAy r;have el:=tF r;have eb:([] :List V)++db (dH r r.length) r++aU (dH r r.length) r=bw r:=rfl
  with_reducible ((repeat' first|apply br|intro);all_goals repeat cases‹_/\_›)
  all_goals grind)
noncomputable def Rv:=t96.adk aDB
noncomputable def c71:Con:=con (a1 (aL .V)) (λr=>[r.length<=100000]) (λr=> .lst .V (im r)
 )
def k71:c71.Okz 55:=ak Rv bX (λ_=>⟨_,rfl⟩) λr hp=>aZ (aA (!dj r) λA=>r.length<=100000/\(A=true->im r=([] :List V))/\
 (A=false->r.length<=100000/\bw r=im r)) (by kernel_rfl) (by change r.length<=100000 at hp;unfold im;grind)
noncomputable def t71:=Rv.adk k71
def Z5{a b:aD}{k:Nat}(h:¬aFG a k=aFG b k):false=(a==b):=by grind
def Yb{a b:aD}(hl:(a.length:Int)=b.length){k:Nat}(hk:¬(k:Int)<a.length)(h:aK (λj=>aFG a j=aFG b j) k):true=(a==b):=by symm;rw[beq_iff_eq];refine uT (by omega) λj h1 h2=> ?_;rw[<-nth_eq h1,<-nth_eq h2];exact h j (by omega)
noncomputable def c23:Con:=con (ac (aL .V) (a1 (aL .V))) (λ(a,_)=>[a.length<=1000000]) (λ(a,b)=> .bool (a==b))
def k23:c23.Okz 23:=ak t71 (λ(a,b)=>[cnt 4 5 a.length (aK λj=>aFG a j=aFG b j)]
  ) (λ(_,_)=>⟨_,rfl⟩) λ(a,b) hp=>aZ (aA (a==b) λA=>aA (a.length:Int) λC=>(¬C=b.length->false=A)/\
 (¬(¬C=b.length)->(0=(0:Int)/\(0:Nat)<=a.length/\aK (λj=>aFG a j=aFG b j) 0)/\
  (∀x:Nat,aA (x:Int) λB=>x<=a.length/\aK (λj=>aFG a j=aFG b j) x->(B<a.length->ix B a.length/\ix B b.length/\(¬(aFG a x)=(aFG b x)->false=A)/\
    (¬(¬(aFG a x)=(aFG b x))->aH (B+1)/\B+1=((x+1:Nat):Int)/\x+1<=a.length/\aK (λj=>aFG a j=aFG b j) (x+1)/\a.length-(x+1)<a.length-x))/\
   (¬B<a.length->true=A)))) (by kernel_rfl) (by
  change a.length<=1000000 at hp
  with_reducible ((repeat' first|apply br|intro);all_goals repeat cases‹_/\_›)
  all_goals first|rfl|exact Z5 ‹¬aFG a _=_› |exact Yb (by omega) ‹_› ‹_› |grind)
noncomputable def t23:=t71.adk k23
noncomputable def c76:Con:=con (ac (aL .V) (a1 (aL .V))) (λ(a,_)=>[a.length<=1000000]) (λ(a,b)=> .bool (a==b)
 )
def k76:c76.Okz 54:=ak t23 (λ(_,_)=>[]) (λ(_,_)=>⟨_,rfl⟩) λ(a,b) hp=>aZ (a.length<=1000000/\(a==b)=(a==b)) (by kernel_rfl) (by change a.length<=1000000 at hp;grind)
noncomputable def t76:=t23.adk k76
def Fit(s:Shape):Prop:=s.outer.length<=1000/\s.holes.length<=900/\∀r∈s.holes,r.length<=1000
def Fit.rings{s:Shape}(hf:Fit s):∀r∈aE s,r.length<=1000:=by
 intro r hr;unfold aE at hr;rcases bI.1 hr with rfl|hr
 .exact hf.1
 .exact hf.2.2 r hr
def Fit.ring{s:Shape}(hf:Fit s){k:Nat}(hk:k<(aE s).length):(aC (aE s) k).length<=1000:=hf.rings _ (gH hk)
def Fit.hole{s:Shape}(hf:Fit s){k:Nat}(hk:k<s.holes.length):(aC s.holes k).length<=1000:=hf.2.2 _ (gH hk)
def Fit.rlen{s:Shape}(hf:Fit s):(aE s).length<=901:=by have:=hf.2.1;simp[aE];omega
def eS(s:Shape)(k:Nat):List S:=((aE s).take k).flatMap aJ
def PE{s:Shape}{k:Nat}(h:k<(aE s).length):eS s k++aJ (aC (aE s) k)=eS s (k+1):=by unfold eS;rw[l0,dw h,List.flatMap_append,kz h];simp
def x6(r:aD):(aJ r).length<=r.length:=by unfold aJ;grind
def HZ{s:Shape}(hf:Fit s):∀k,k<=(aE s).length->(eS s k).length<=1000*k
 |0,_=>by simp[eS]
 |k+1,h=>by
  rw[<-PE (by omega),fM];have:=HZ hf k (by omega);have:=x6 (aC (aE s) k);have:=hf.ring (k:=k) (by omega);omega
def aBT(s:Shape):eS s (aE s).length=ao s:=by unfold eS;rw[si];rfl
noncomputable def aFD:Con:=con (a1 aSh) (λs=>[Fit s]) (λs=> .lst .R (aE s)
 )
def aD7:aFD.Okz 100:=ak t76 bX (λ_=>⟨_,rfl⟩) λs hp=>aZ (aA ([s.outer] ++s.holes) λA=>[s.outer].length+s.holes.length<=1000000/\A.length=A.length/\[s.outer] ++s.holes=aE s) (by kernel_rfl) (by change Fit s at hp;have h:=hp.2.1;exact⟨by simp;omega,rfl,rfl⟩)
noncomputable def SU:=t76.adk aD7
noncomputable def c33:Con:=con (a1 aSh) (λs=>[Fit s]) (λs=> .lst .S (ao s))
def k33:c33.Okz 33:=ak SU (λs=>[lp 4 5 (aE s).length bX [900] (λk=>[(3,.own 900 .S (eS s k).length)]) (λk=>[(900,.row 46 .S (eS s k))])]
  ) (λ_=>⟨_,rfl⟩) λs hp=>aZ (aA (aE s) λC=>Fit s/\(0=(0:Int)/\(eS s 0).length=0/\eS s 0=([] :List S)/\(0:Nat)<=C.length)/\
 (∀x:Nat,aA (eS s x) λA=>aA (x:Int) λB=>aA (aC C x) λD=>x<=C.length->(B<C.length->ix B C.length/\D.length<=100000/\A.length=A.length/\A.length+(aJ D).length<=1000000/\aH (B+1)/\B+1=((x+1:Nat):Int)/\(eS s x++aJ D).length=(eS s (x+1)).length/\eS s x++aJ D=eS s (x+1)/\x+1<=C.length/\C.length-(x+1)<C.length-x)/\
  (¬B<C.length->A.length=A.length/\eS s x=ao s))) (by kernel_rfl) (by
  change Fit s at hp;have e0:eS s 0=[] :=rfl;have ea:=aBT s;have er:=hp.rlen;have es:= @PE s;have eb:∀k,k<(aE s).length->(eS s k).length+(aJ (aC (aE s) k)).length<=1000000:=λk h=>by have:=HZ hp (k+1) (by omega);grind
  have ek:= @Fit.ring s hp
  with_reducible ((repeat' first|apply br|intro);all_goals repeat cases‹_/\_›)
  all_goals grind)
noncomputable def t33:=SU.adk k33
def jC(a b:aD)(al:Bool):Bool:=if al=true then qD a b else l7 a b
def Vl{a b:aD}{al:Bool}{j:Nat}(hj:j<a.length)(h:(jl b (aFG a j)==2)≠al):jC a b al= !al:=by
 unfold jC qD l7;cases al with
 |true=>rw[if_pos rfl];exact ug.2 ⟨_,dO hj,by simpa using h⟩
 |false=>rw[if_neg (by simp)];exact jd.2 ⟨_,dO hj,by simpa using h⟩
def Ul{a b:aD}{al:Bool}(h:∀j,j<a.length->(jl b (aFG a j)==2)=al):jC a b al=al:=by
 unfold jC qD l7;cases al with
 |true=>
  rw[if_pos rfl];refine bh.2 λx hx=> ?_;obtain⟨j,hj,rfl⟩:=jS hx;rw[<-nth_eq hj];exact h j hj
 |false=>
  rw[if_neg (by simp)];refine zn.2 λx hx=> ?_;obtain⟨j,hj,rfl⟩:=jS hx;rw[<-nth_eq hj,h j hj];simp
def j9(s:Shape)(i:Nat):Bool:=dj (aC s.holes i)&& !ip (aC s.holes i) s.outer&&qD (aC s.holes i) s.outer
def jZ(s:Shape)(i k:Nat):Bool:= !ip (aC s.holes i) (aC s.holes k)&& !l7 (aC s.holes i) (aC s.holes k)&& !l7 (aC s.holes k) (aC s.holes i)
def kA(s:Shape)(k:Nat):Nat:=s.outer.length+((s.holes.take k).map eQ).sum
def EH(s:Shape):kA s 0=s.outer.length:=by simp[kA]
def EI{s:Shape}{k:Nat}(h:k<s.holes.length):kA s (k+1)=kA s k+(aC s.holes k).length:=by unfold kA;rw[l0,dw h,dM,uU,kz h,<-Nat.add_assoc];rfl
def Ku(s:Shape):kA s s.holes.length=jA s:=by unfold kA jA aE;grind
def Xe{s:Shape}(hf:Fit s)(k:Nat)(hk:k<=s.holes.length):kA s k<=1000*(k+1):=by
 induction k with
 |zero=>have:=hf.1;rw[EH];omega
 |succ k ih=>
  rw[EI (by omega)];have h1:=ih (by omega);have h2:=hf.2.2 _ (gH (show k<s.holes.length by omega));omega
def xR(s:Shape):ai s=true↔s.holes.length<=6/\dj s.outer=true/\(∀i,i<s.holes.length->j9 s i=true/\∀k,k<i->jZ s i k=true)/\jA s<=80:=by unfold ai;simp only[bj,decide_eq_true_eq,bh,cD];unfold j9 jZ;grind
def Yv{a b:aD}{i j:Nat}(h:¬bi (aW (aJ a) i) (aW (aJ b) j)=0)(hi:i<(aJ a).length)(hj:j<(aJ b).length):true=ip a b:=by unfold ip;symm;exact jd.2 ⟨_,BM hi,jd.2 ⟨_,BM hj,by simpa using h⟩⟩
def C3(a b:aD)(i:Nat):Prop:=∀j,j<(aJ b).length->bi (aW (aJ a) i) (aW (aJ b) j)=0
def Yu{a b:aD}{k:Nat}(hk:¬(k:Int)<(aJ a).length)(h:aK (C3 a b) k):false=ip a b:=by unfold ip;symm;refine zn.2 λx hx=> ?_;obtain⟨i,hi,rfl⟩:=jS hx;rw[<-jB hi,Bool.not_eq_true];refine zn.2 λy hy=> ?_;obtain⟨j,hj,rfl⟩:=jS hy;rw[<-jB hj,h i (by omega) j hj];decide
def aAn{a b:aD}{i k:Nat}(hk:¬(k:Int)<(aJ b).length)(h:aK (λj=>bi (aW (aJ a) i) (aW (aJ b) j)=0) k):C3 a b i:=λj hj=>h j (by omega)
noncomputable def aFn:Con:=con (ac (aL .V) (a1 (aL .V))) (λ(a,b)=>[a.length<=100000,b.length<=100000]) (λ(a,b)=> .bool (ip a b))
def aDQ:aFn.Okz 128:=ak t33 (λ(a,b)=>[cnt 3 7 (aJ a).length (aK (C3 a b)) λi=>[cnt 6 8 (aJ b).length (aK λj=>bi (aW (aJ a) i) (aW (aJ b) j)=0)]]
  ) (λ(_,_)=>⟨_,rfl⟩) λ(a,b) hp=>aZ (aA (C3 a b) λB=>aA (aJ a) λD=>aA (aJ b) λF=>a.length<=100000/\b.length<=100000/\(0=(0:Int)/\(0:Nat)<=D.length/\aK B 0)/\
 (∀x:Nat,aA (x:Int) λA=>aA (aW D x) λE=>x<=D.length/\aK B x->(A<D.length->(0=(0:Int)/\(0:Nat)<=F.length/\aK (λj=>bi E (aW F j)=0) 0)/\
   (∀x_1:Nat,aA (x_1:Int) λC=>x_1<=F.length/\aK (λj=>bi E (aW F j)=0) x_1->(C<F.length->ix A D.length/\ix C F.length/\(¬bi E (aW F x_1)=0->true=ip a b)/\
     (¬(¬bi E (aW F x_1)=0)->aH (C+1)/\C+1=((x_1+1:Nat):Int)/\x_1+1<=F.length/\aK (λj=>bi E (aW F j)=0) (x_1+1)/\F.length-(x_1+1)<F.length-x_1))/\
    (¬C<F.length->aH (A+1)/\A+1=((x+1:Nat):Int)/\x+1<=D.length/\aK B (x+1)/\D.length-(x+1)<D.length-x)))/\
  (¬A<D.length->false=ip a b))) (by kernel_rfl) (by
  change a.length<=100000/\b.length<=100000 at hp;have ha:=x6 a;have hb:=x6 b
  repeat' first|with_reducible apply br|with_reducible intro
  all_goals repeat with_reducible cases‹_/\_›
  all_goals first|assumption|rfl|exact trivial|exact nb ‹_› |exact nb' ‹_› |omega|exact gQ (by omega)|(unfold ix;omega)|(unfold aH;omega)|exact gG _|exact cB ‹_› ‹_› |(refine cB ‹_› ?_;simp_all;done)|exact Yv ‹¬bi _ _=0› (by omega) (by omega)|exact Yu ‹_› ‹_› |exact cB ‹_› (aAn ‹_› ‹_›)|(refine cB ‹_› ?_;exact sk ‹¬¬_›)|grind)
noncomputable def SC:=t33.adk aDQ
def inQ(a b:aD)(al:Bool)(j:Nat):Prop:=(jl b (aFG a j)==2)=al
noncomputable def aFm:Con:=con (ac (aL .V) (ac (aL .V) (a1 aB))) (λ(a,b,_)=>[a.length<=100000,b.length<=100000]) (λ(a,b,al)=> .bool (jC a b al))
def aDP:aFm.Okz 129:=ak SC (λ(a,b,al)=>[cnt 2 7 a.length (aK (inQ a b al))]
  ) (λ(_,_,_)=>⟨_,rfl⟩) λ(a,b,al) hp=>aZ (aA (inQ a b al) λB=>(0=(0:Int)/\(0:Nat)<=a.length/\aK B 0)/\
 (∀x:Nat,aA (x:Int) λA=>aA (decide (jl b (aFG a x)=2) !=al) λC=>x<=a.length/\aK B x->(A<a.length->ix A a.length/\b.length<=100000/\(C=true->(!al)=jC a b al)/\
   (C=false->aH (A+1)/\A+1=((x+1:Nat):Int)/\x+1<=a.length/\aK B (x+1)/\a.length-(x+1)<a.length-x))/\
  (¬A<a.length->al=jC a b al))) (by kernel_rfl) (by
  change a.length<=100000/\b.length<=100000 at hp;have c1:∀j:Nat,(decide (jl b (aFG a j)=2) !=al)=true->j<a.length->(!al)=jC a b al:=λj h hj=>(Vl hj (bne_iff_ne.1 h)).symm;have c2:∀j:Nat,(decide (jl b (aFG a j)=2) !=al)=false->inQ a b al j:=λj h=>bne_eq_false_iff_eq.1 h;have e2:∀k:Nat,¬(k:Int)<a.length->aK (inQ a b al) k->jC a b al=al:=λk h1 h2=>Ul λj hj=>h2 j (by omega)
  repeat' first|with_reducible apply br|with_reducible intro
  all_goals repeat with_reducible cases‹_/\_›
  all_goals first|assumption|rfl|exact trivial|exact nb ‹_› |exact nb' ‹_› |omega|exact gQ (by omega)|(unfold ix;omega)|(unfold aH;omega)|exact gG _|exact cB ‹_› ‹_› |(refine cB ‹_› ?_;simp_all;done)|exact(e2 _ ‹_› ‹_›).symm|grind|exact cB ‹_› (c2 _ ‹_›)|grind)
noncomputable def SB:=SC.adk aDP
noncomputable def c58:Con:=con (a1 aSh) (λs=>[Fit s]) (λs=> .bool (ai s))
def k58:c58.Okz 59:=ak SB (λs=>[jP 3 [s.holes.length<=6,dj s.outer=true],lp 5 4 s.holes.length (λk=>[aK (λi=>j9 s i=true/\∀k,k<i->jZ s i k=true) k]) [] (λk=>[(3,.iqz (kA s k:Int))]) bX λi=>[jP 11 [j9 s i=true],cnt 12 6 i (aK λk=>jZ s i k=true)]]
  ) (λ_=>⟨_,rfl⟩) λs hp=>aZ (aA (!dj s.outer) λF=>aA (s.holes.length:Int) λH=>((6<H->false=ai s)/\
  (¬6<H->s.outer.length<=100000/\(F=true->false=ai s)/\
   (F=false->s.holes.length<=6/\dj s.outer=true)))/\
 (∀y:Unit,s.holes.length<=6/\dj s.outer=true->(0=(0:Int)/\(s.outer.length:Int)=kA s 0/\(0:Nat)<=s.holes.length/\aK (λi=>j9 s i=true/\(∀k:Nat,k<i->jZ s i k=true)) 0)/\
  (∀x:Nat,aA (x:Int) λA=>aA (kA s x:Int) λC=>aA (aC s.holes x) λD=>aA (!dj D) λE=>aA (!jC D s.outer true) λI=>x<=s.holes.length/\aK (λi=>j9 s i=true/\(∀k:Nat,k<i->jZ s i k=true)) x->(A<s.holes.length->ix A s.holes.length/\aH (C+D.length)/\(D.length<=100000/\(E=true->false=ai s)/\
     (E=false->D.length<=100000/\s.outer.length<=100000/\(ip D s.outer=true->false=ai s)/\
      (ip D s.outer=false->D.length<=100000/\s.outer.length<=100000/\(I=true->false=ai s)/\
       (I=false->j9 s x=true))))/\
    (∀y_1:Unit,j9 s x=true->(0=(0:Int)/\(0:Nat)<=x/\aK (λk=>jZ s x k=true) 0)/\
     (∀x_1:Nat,aA (x_1:Int) λB=>aA (aC s.holes x_1) λG=>x_1<=x/\aK (λk=>jZ s x k=true) x_1->(B<x->ix B s.holes.length/\D.length<=100000/\G.length<=100000/\(ip D G=true->false=ai s)/\
       (ip D G=false->ix B s.holes.length/\D.length<=100000/\G.length<=100000/\(jC D G false=true->false=ai s)/\
        (jC D G false=false->ix B s.holes.length/\G.length<=100000/\D.length<=100000/\(jC G D false=true->false=ai s)/\
         (jC G D false=false->aH (B+1)/\B+1=((x_1+1:Nat):Int)/\x_1+1<=x/\aK (λk=>jZ s x k=true) (x_1+1)/\x-(x_1+1)<x-x_1))))/\
      (¬B<x->aH (A+1)/\A+1=((x+1:Nat):Int)/\C+D.length=kA s (x+1)/\x+1<=s.holes.length/\aK (λi=>j9 s i=true/\(∀k:Nat,k<i->jZ s i k=true)) (x+1)/\s.holes.length-(x+1)<s.holes.length-x))))/\
   (¬A<s.holes.length->decide (C<=80)=ai s)))) (by kernel_rfl) (by
  change Fit s at hp;have hf:(ai s=true->False)->false=ai s:=λh=>by grind
  have n1:∀i,j9 s i=false->i<s.holes.length->false=ai s:=λi h hi=>hf λhv=>by rw[(((xR s).1 hv).2.2.1 i hi).1]at h;cases h
  have n2:∀i k,jZ s i k=false->k<i->i<s.holes.length->false=ai s:=λi k h hk hi=>hf λhv=>by rw[(((xR s).1 hv).2.2.1 i hi).2 k hk]at h;cases h
  have a1:∀i,(!dj (aC s.holes i))=true->i<s.holes.length->false=ai s:=λi h=>n1 i (by unfold j9;grind);have a2:∀i,ip (aC s.holes i) s.outer=true->i<s.holes.length->false=ai s:=λi h=>n1 i (by unfold j9;rw[h];simp);have a3:∀i,(!jC (aC s.holes i) s.outer true)=true->i<s.holes.length->false=ai s:=λi h=>n1 i (by unfold j9;rw[show qD (aC s.holes i) s.outer=false from nb' h];simp);have a4:∀i,(!dj (aC s.holes i))=false->ip (aC s.holes i) s.outer=false->(!jC (aC s.holes i) s.outer true)=false->j9 s i=true:=λi h1 h2 h3=>by unfold j9;rw[nb h1,h2,show qD (aC s.holes i) s.outer=true from nb h3];rfl
  have b1:∀i k,ip (aC s.holes i) (aC s.holes k)=true->k<i->i<s.holes.length->false=ai s:=λi k h=>n2 i k (by unfold jZ;rw[h];rfl);have b2:∀i k,jC (aC s.holes i) (aC s.holes k) false=true->k<i->i<s.holes.length->false=ai s:=λi k h=>n2 i k (by unfold jZ;rw[show l7 (aC s.holes i) (aC s.holes k)=true from h];simp);have b3:∀i k,jC (aC s.holes k) (aC s.holes i) false=true->k<i->i<s.holes.length->false=ai s:=λi k h=>n2 i k (by unfold jZ;rw[show l7 (aC s.holes k) (aC s.holes i)=true from h];simp);have b4:∀i k,ip (aC s.holes i) (aC s.holes k)=false->jC (aC s.holes i) (aC s.holes k) false=false->jC (aC s.holes k) (aC s.holes i) false=false->jZ s i k=true:=λi k h1 h2 h3=>by unfold jZ;rw[h1,show l7 (aC s.holes i) (aC s.holes k)=false from h2,show l7 (aC s.holes k) (aC s.holes i)=false from h3];rfl
  have b5:∀i k:Nat,¬(k:Int)<i->aK (λk=>jZ s i k=true) k->∀k,k<i->jZ s i k=true:=λi k h1 h2 j hj=>h2 j (by omega);have e0:=EH s;have es:∀k,k<s.holes.length->(kA s k:Int)+(aC s.holes k).length=kA s (k+1):=λk h=>by rw[EI h];rfl
  have el:∀k,k<s.holes.length->aH ((kA s k:Int)+(aC s.holes k).length):=λk h=>by rw[es k h];exact bV (by have:=Xe hp (k+1) (by omega);have:=hp.2.1;omega)
  have ef:s.holes.length<=6->dj s.outer=true->∀k:Nat,¬(k:Int)<s.holes.length->k<=s.holes.length->aK (λi=>j9 s i=true/\∀k,k<i->jZ s i k=true) k->decide ((kA s k:Int)<=80)=ai s:=λh1 h2 k h3 h4 h5=>by
   obtain rfl:k=s.holes.length:=by omega
   rw[Ku,fL,xR,decide_eq_true_eq];exact⟨λh=>⟨h1,h2,h5,by omega⟩,λh=>by omega⟩
  have ho:=hp.1;have hh:= @Fit.hole s hp
  repeat' first|with_reducible apply br|with_reducible intro
  all_goals repeat with_reducible cases‹_/\_›
  all_goals first|assumption|rfl|exact trivial|exact nb ‹_› |exact nb' ‹_› |omega|exact gQ (by omega)|(unfold ix;omega)|(unfold aH;omega)|exact gG _|exact cB ‹_› ‹_› |(refine cB ‹_› ?_;simp_all;done)|exact cL (hh (by omega)) (by decide)|exact el _ (by omega)|exact es _ (by omega)|exact ef ‹_› ‹_› _ ‹_› ‹_› ‹_› |exact a1 _ ‹_› (by omega)|exact a2 _ ‹_› (by omega)|exact a3 _ ‹_› (by omega)|exact a4 _ ‹_› ‹_› ‹_› |exact b1 _ _ ‹_› (by omega) (by omega)|exact b2 _ _ ‹_› (by omega) (by omega)|exact b3 _ _ ‹_› (by omega) (by omega)|exact cB ‹_› (b4 _ _ ‹_› ‹_› ‹_›)|exact cB ‹_› ⟨‹_›,b5 _ _ ‹_› ‹_›⟩|exact hf λh=>by have h:=(xR s).1 h;first|omega|grind|grind)
noncomputable def t58:=SB.adk k58
def Lq{p:Pt}{l:List aD}{w:Int}{k:Nat}(hk:k<l.length)(h:∀j,j<k->dc (aC l j) p≠2/\dc (aC l j) p≠1):mG p l w=if dc (aC l k) p=2 then 0 else if dc (aC l k) p=1 then 1 else mG p (l.drop (k+1)) w:=by
 induction l generalizing k with
 |nil=>simp at hk
 |cons r l ih=>
  cases k with
  |zero=>rfl
  |succ k=>
   have h0:=h 0 (by omega);have e:aC (r::l) 0=r:=rfl;rw[e]at h0;have e1:mG p (r::l) w=(if dc r p=2 then 0 else if dc r p=1 then 1 else mG p l w):=rfl;rw[e1,if_neg h0.1,if_neg h0.2];exact ih (k:=k) (by grind) (λj hj=>h (j+1) (by omega))
def Vp{p:Pt}{l:List aD}{w:Int}(h:∀j,j<l.length->dc (aC l j) p≠2/\dc (aC l j) p≠1):mG p l w=w:=by
 induction l with
 |nil=>rfl
 |cons r l ih=>
  have h0:=h 0 (by simp);have e:aC (r::l) 0=r:=rfl;rw[e]at h0;unfold mG;rw[if_neg h0.1,if_neg h0.2];exact ih (λj hj=>h (j+1) (by grind))
def O2{X:List aD}{h:aD}:∀{k:Nat},k<=X.length->(∀j,j<k->bf (aFG (aC X j) 0) (aFG h 0)=true)->(k<X.length->bf (aFG (aC X k) 0) (aFG h 0)=false)->lm X h=X.take k++[h] ++X.drop k:=by
 induction X with
 |nil=>intro k hk _ _;simp[lm]
 |cons q r ih=>
  intro k hk h1 h2;cases k with
  |zero=>
   unfold lm;rw[if_neg (by rw[show bf (aFG q 0) (aFG h 0)=false from h2 (by simp)];simp)];rfl
  |succ k=>
   unfold lm;rw[if_pos (show bf (aFG q 0) (aFG h 0)=true from h1 0 (by omega)),ih (k:=k) (by grind) (λj hj=>h1 (j+1) (by omega)) (λhh=>h2 (by grind))];rfl
def ct(s:Shape)(i:Nat):List aD:=qg ((s.holes.take i).map bw)
def Jl{s:Shape}{i:Nat}(h:i<s.holes.length):ct s (i+1)=lm (ct s i) (bw (aC s.holes i)):=by unfold ct qg;rw[l0,dw h,dM,zh,kz h];rfl
def Jm(s:Shape)(i:Nat):(ct s i).Perm ((s.holes.take i).map bw):=l6 _
def JS(s:Shape)(i:Nat):(ct s i).length<=s.holes.length:=by rw[(Jm s i).length_eq,di,List.length_take];omega
def KE{s:Shape}{i:Nat}{r:aD}(h:r∈ct s i):∃q∈s.holes,r=bw q:=by have:=(Jm s i).mem_iff.1 h;grind
def VM{s:Shape}(hp:∀r∈s.holes,0<r.length){i j:Nat}(h:j<(ct s i).length):0<(aC (ct s i) j).length:=by obtain⟨q,hq,e⟩:=KE (gH h);rw[e,jg];exact hp q hq
def hQ(s:Shape)(p:Pt)(j:Nat):Prop:=dc (aC s.holes j) p≠2/\dc (aC s.holes j) p≠1
noncomputable def c73:Con:=con (ac aSh (a1 aT)) (λ(s,_)=>[Fit s]) (λ(s,p)=> .iqz (ik s p))
def k73:c73.Okz 73:=ak t58 (λ(s,p)=>[cnt 5 6 s.holes.length (aK (hQ s p))]
  ) (λ(_,_)=>⟨_,rfl⟩) λ(s,p) hp=>aZ (aA (hQ s p) λA=>aA (!ai s) λC=>Fit s/\(C=true->0=ik s p)/\
 (C=false->s.outer.length<=100000/\(0=(0:Int)/\(0:Nat)<=s.holes.length/\aK A 0)/\
  (∀x:Nat,aA (x:Int) λB=>aA (aC s.holes x) λD=>x<=s.holes.length/\aK A x->(B<s.holes.length->ix B s.holes.length/\D.length<=100000/\(dc D p=2->0=ik s p)/\
    (¬dc D p=2->(dc D p=1->1=ik s p)/\
     (¬dc D p=1->aH (B+1)/\B+1=((x+1:Nat):Int)/\x+1<=s.holes.length/\aK A (x+1)/\s.holes.length-(x+1)<s.holes.length-x)))/\
   (¬B<s.holes.length->dc s.outer p=ik s p)))) (by kernel_rfl) (by
  change Fit s at hp;have h0:(!ai s)=true->0=ik s p:=λh=>by unfold ik;rw[if_pos h]
  have h1:(!ai s)=false->ik s p=mG p s.holes (dc s.outer p):=λh=>by unfold ik;grind
  have c1:∀k,aK (hQ s p) k->dc (aC s.holes k) p=2->(!ai s)=false->k<s.holes.length->0=ik s p:=λk h h2 h3 hk=>by rw[h1 h3,Lq hk h,if_pos h2]
  have c2:∀k,aK (hQ s p) k->¬dc (aC s.holes k) p=2->dc (aC s.holes k) p=1->(!ai s)=false->k<s.holes.length->1=ik s p:=λk h h2 h3 h4 hk=>by rw[h1 h4,Lq hk h,if_neg h2,if_pos h3]
  have c3:∀k:Nat,¬(k:Int)<s.holes.length->aK (hQ s p) k->(!ai s)=false->dc s.outer p=ik s p:=λk hk h h2=>by rw[h1 h2,Vp λj hj=>h j (by omega)]
  have ho:=hp.1;have hl:=hp.2.1;have hh:= @Fit.hole s hp
  repeat' first|with_reducible apply br|with_reducible intro
  all_goals repeat with_reducible cases‹_/\_›
  all_goals first|assumption|rfl|exact trivial|exact nb ‹_› |exact nb' ‹_› |omega|exact gQ (by omega)|(unfold ix;omega)|(unfold aH;omega)|exact gG _|exact cB ‹_› ‹_› |(refine cB ‹_› ?_;simp_all;done)|exact cL (hh (by omega)) (by decide)|exact h0 ‹_› |exact c1 _ ‹_› ‹_› ‹_› (by omega)|exact c2 _ ‹_› ‹_› ‹_› ‹_› (by omega)|exact c3 _ ‹_› ‹_› ‹_› |exact cB ‹_› ⟨‹_›,‹_›⟩|grind)
noncomputable def t73:=t58.adk k73
noncomputable def aE7:Con:=con (ac aI (a1 aI)) (λ(a,b)=>[-9000000000000000000<=a,a<=9000000000000000000,-9000000000000000000<=b,b<=9000000000000000000]) (λ(a,b)=> .iqz ((bB a.natAbs b.natAbs:Nat):Int))
def aDA:aE7.Okz 146:=ak t73 (λ(a,b)=>[jU 3 [(0,.iqz (a.natAbs:Int))],jU 5 [(1,.iqz (b.natAbs:Int))],(5,.mk (Int×Int) (λF _=>IP F 0 1) [] (λp=>[0<=p.1,0<=p.2,bB p.1.natAbs p.2.natAbs=bB a.natAbs b.natAbs]) (λp=>[(0,.iqz p.1),(1,.iqz p.2)]) bX (λp=>p.2.natAbs) bX)]
  ) (λ(_,_)=>⟨_,rfl⟩) λ(a,b) hp=>aZ (aA (cM a) λA=>aA (cM b) λB=>aA (cM a:Int) λD=>aA (cM b:Int) λE=>((a<0->aH (0-a)/\0-a=cM a)/\
  (¬a<0->a=cM a))/\
 (∀y:Unit,((b<0->aH (0-b)/\0-b=cM b)/\
   (¬b<0->b=cM b))/\
  (∀y_1:Unit,(D=cM a/\E=cM b/\0<=D/\0<=E/\bB (cM D) (cM E)=bB A B)/\
   (∀x:Prod Int Int,aA (cZ x.1 x.2) λC=>0<=x.1/\0<=x.2/\bB (cM x.1) (cM x.2)=bB A B->(¬x.2=0->x.2≠0/\x.2=x.2/\cZ x.1 x.2=cZ x.1 x.2/\0<=x.2/\0<=cZ x.1 x.2/\bB (cM x.snd) (cM C)=bB A B/\cM C<cM x.2)/\
    (¬(¬x.2=0)->x.1=bB A B))))) (by kernel_rfl) (by
  change-9000000000000000000<=a/\a<=9000000000000000000/\ -9000000000000000000<=b/\b<=9000000000000000000 at hp;have e1:∀x y:Int,0<=x->0<=y->bB y.natAbs (cZ x y).natAbs=bB x.natAbs y.natAbs:=λx y _ _=>by rw[zl,zm,<-Nat.gcd_rec,zm]
  have e2:∀x y:Int,0<=x->¬y=0->(cZ x y).natAbs<y.natAbs:=λx y _ h=>by rw[zl];exact bz _ (by omega)
  have e3:∀x y:Int,0<=x->0<=cZ x y:=λx y h=>Int.tmod_nonneg _ h
  repeat' first|with_reducible apply br|with_reducible intro
  all_goals repeat with_reducible cases‹_/\_›
  all_goals first|assumption|rfl|exact trivial|exact nb ‹_› |exact nb' ‹_› |omega|exact gQ (by omega)|(unfold ix;omega)|(unfold aH;omega)|exact gG _|exact cB ‹_› ‹_› |(refine cB ‹_› ?_;simp_all;done)|exact e3 _ _ ‹_› |exact e2 _ _ (by assumption) ‹_› |(rw[e1 _ _ (by assumption) (by assumption)];assumption)|grind|grind)
noncomputable def Rs:=t73.adk aDA
def Ek{l:List V}{k:Nat}(h:k<l.length):gU (l.take (k+1))=gU (l.take k)+(aFG l k).x:=by unfold gU;rw[l0,dw h,dM,uU,nth_eq h];simp
def Ej{l:List V}{k:Nat}(h:k<l.length):gR (l.take (k+1))=gR (l.take k)+(aFG l k).y:=by unfold gR;rw[l0,dw h,dM,uU,nth_eq h];simp
def Nx{x:Int}{g:Nat}{B:Int}(h: -B<=x/\x<=B): -B<=x.tdiv (g:Int)/\x.tdiv (g:Int)<=B:=by
 have h1:(x.tdiv (g:Int)).natAbs<=x.natAbs:=by rw[Int.natAbs_tdiv];exact Nat.div_le_self _ _
 omega
def N5{l:List V}(hm:∀v∈l,bd 10000 v):∀k:Nat,k<=l.length->(-(10000*(k:Int))<=gU (l.take k)/\gU (l.take k)<=10000*(k:Int))/\(-(10000*(k:Int))<=gR (l.take k)/\gR (l.take k)<=10000*(k:Int))
 |0,_=>by simp[gU,gR]
 |k+1,h=>by
  have:=N5 hm k (by omega);have h2:=hm _ (dO (show k<l.length by omega));rw[Ek (by omega),Ej (by omega)];unfold bd at h2;omega
noncomputable def c74:Con:=con (a1 (aL .V)) (λl=>[0<l.length,l.length<=1000,(∀v∈l,bd 10000 v)]) (λl=>aT.enc (kS l))
def k74:c74.Okz 74:=ak Rs (λl=>[lp 3 4 l.length bX [] bX (λk=>[(4,.box 76 [.iqz (gU (l.take k)),.iqz (gR (l.take k)),.iqz (l.length:Int)])])]
  ) (λ_=>⟨_,rfl⟩) λl hp=>aZ (aA (kS l) λH=>aA (aU 0 l) λI=>aA (l.length:Int) λJ=>aA (cM J) λK=>(0=(0:Int)/\0=gU I/\0=gR I/\J=l.length/\(0:Nat)<=l.length)/\
 (∀x:Nat,aA (x:Int) λA=>aA (aFG l x) λB=>aA (aU x l) λC=>aA (gU C) λD=>aA (gR C) λE=>aA (bB (cM D) (cM E):Int) λL=>aA (cM L) λM=>aA (bB M K:Int) λN=>aA (aU (x+1) l) λO=>aA (l.length/bB M K:Nat) λP=>x<=l.length->(A<l.length->ix A l.length/\aH (gU C+B.x)/\ix A l.length/\aH (gR C+B.y)/\aH (A+1)/\A+1=((x+1:Nat):Int)/\gU C+B.x=gU O/\gR C+B.y=gR O/\J=l.length/\x+1<=l.length/\l.length-(x+1)<l.length-x)/\
  (¬A<l.length-> -9000000000000000000<=gU C/\gU C<=9000000000000000000/\ -9000000000000000000<=gR C/\gR C<=9000000000000000000/\ -9000000000000000000<=L/\L<=9000000000000000000/\ -9000000000000000000<=J/\J<=9000000000000000000/\N≠0/\aH (eK D N)/\N≠0/\aH (eK E N)/\N≠0/\aH (P:Int)/\eK D N=H.x/\eK E N=H.y/\(P:Int)=H.den))) (by kernel_rfl) (by
  change 0<l.length/\l.length<=1000/\((∀v∈l,bd 10000 v))at hp;obtain⟨h0,h1,hm⟩:=hp;simp only[Int.natAbs_natCast];have et:∀x:Nat,¬(x:Int)<l.length->x<=l.length->aU x l=l:=λx h1 h2=>iV (by omega);have hg:∀n m,((bB (bB n m) l.length:Nat):Int)≠0:=λn m=>by have:=Nat.gcd_pos_of_pos_right (bB n m) h0;omega
  have hs:=N5 hm;have hd:∀x n m,x<=l.length->aH (eK (gU (aU x l)) (bB (bB n m) l.length:Int))/\aH (eK (gR (aU x l)) (bB (bB n m) l.length:Int)):=λx n m h=>by have:=hs x h;exact⟨bV (by have:=Nx (x:=gU (aU x l)) (g:=bB (bB n m) l.length) (B:=10000*x) this.1;omega),bV (by have:=Nx (x:=gR (aU x l)) (g:=bB (bB n m) l.length) (B:=10000*x) this.2;omega)⟩
  have ha:∀x,x<l.length->aH (gU (aU x l)+(aFG l x).x)/\aH (gR (aU x l)+(aFG l x).y):=λx h=>by rw[<-Ek h,<-Ej h];have:=hs (x+1) (by omega);exact⟨bV (by omega),bV (by omega)⟩
  have hq:∀n m,aH ((l.length/bB (bB n m) l.length:Nat):Int):=λn m=>bV (by have:=Nat.div_le_self l.length (bB (bB n m) l.length);grind);have hn:∀n m B:Nat,n<=B->m<=B->bB n m<=B:=λn m B h1 h2=>by
   rcases qz n with e|e
   .grind
   .exact cL (Nat.gcd_le_left m e) h1
  have hk:∀x,x<=l.length->((bB (gU (aU x l)).natAbs (gR (aU x l)).natAbs:Nat):Int)<=9000000000000000000:=λx h=>by have:=hn (gU (aU x l)).natAbs (gR (aU x l)).natAbs 10000000 (by have:=hs x h;omega) (by have:=hs x h;omega);omega
  repeat' first|with_reducible apply br|with_reducible intro
  all_goals repeat with_reducible cases‹_/\_›
  all_goals first|assumption|rfl|exact trivial|exact nb ‹_› |exact nb' ‹_› |omega|exact gQ (by omega)|(unfold ix;omega)|(unfold aH;omega)|exact gG _|exact cB ‹_› ‹_› |(refine cB ‹_› ?_;simp_all;done)|exact hk _ ‹_› |exact(ha _ (by omega)).1|exact(ha _ (by omega)).2|exact hg _ _|exact(hd _ _ _ ‹_›).1|exact(hd _ _ _ ‹_›).2|exact hq _ _|exact(Ek (by omega)).symm|exact(Ej (by omega)).symm|(have:=hs _ ‹_›;omega)|(rw[et _ ‹_› ‹_›];rfl)|grind)
noncomputable def t74:=Rs.adk k74
def Ec:∀{a b:aD} {k:Nat},(∀j,j<k->bq (aFG a j) (aFG b j)=0)->bq (aFG a k) (aFG b k)≠0->k<a.length->k<b.length->cN a b=bq (aFG a k) (aFG b k)
 |[],_,k,_,_,h,_=>by simp at h
 |_::_,[],k,_,_,_,h=>by simp at h
 |x::a,y::b,0,_,h,_,_=>by
  have e:bq x y≠0:=h;unfold cN;rw[if_pos e];rfl
 |x::a,y::b,k+1,h3,h4,h1,h2=>by
  have e:bq x y=0:=h3 0 (by omega);unfold cN;rw[if_neg (λhne=>hne e)];exact Ec (a:=a) (b:=b) (k:=k) (λj hj=>h3 (j+1) (by omega)) h4 (by grind) (by grind)
def AO:∀{a b:aD} {k:Nat},k<=a.length->k<=b.length->(k=a.length\/k=b.length)->(∀j,j<k->bq (aFG a j) (aFG b j)=0)->cN a b=sgn ((a.length:Int)-(b.length:Int))
 |[],[],_,_,_,_,_=>rfl
 |[],y::b,k,_,_,_,_=>by unfold cN sgn;grind
 |x::a,[],k,_,_,_,_=>by unfold cN sgn;grind
 |x::a,y::b,0,_,_,h,_=>by simp at h
 |x::a,y::b,k+1,h1,h2,h3,h4=>by
  have e:bq x y=0:=h4 0 (by omega);unfold cN;rw[if_neg (λhne=>hne e)];rw[AO (a:=a) (b:=b) (k:=k) (by grind) (by grind) (by grind) (λj hj=>h4 (j+1) (by omega))];grind
noncomputable def c27:Con:=con (ac (aL .V) (a1 (aL .V))) (λ(a,b)=>[a.length<=1000000,b.length<=1000000]) (λ(a,b)=> .iqz (cN a b))
def k27:c27.Okz 27:=ak t74 (λ(a,b)=>[lp 2 5 a.length (λk=>[k<=b.length,aK (λj=>bq (aFG a j) (aFG b j)=0) k]) [] bX bX]
  ) (λ(_,_)=>⟨_,rfl⟩) λ(a,b) hp=>aZ (aA ((a.length:Int)-b.length) λE=>(0=(0:Int)/\(0:Nat)<=a.length/\(0:Nat)<=b.length/\aK (λj=>bq (aFG a j) (aFG b j)=0) 0)/\
 (∀x:Nat,aA (x:Int) λA=>aA (aFG a x) λB=>aA (aFG b x) λC=>x<=a.length/\x<=b.length/\aK (λj=>bq (aFG a j) (aFG b j)=0) x->(A<a.length->(A<b.length->ix A a.length/\ix A b.length/\(¬bq B C=0->bq B C=cN a b)/\
    (¬(¬bq B C=0)->aH (A+1)/\A+1=((x+1:Nat):Int)/\x+1<=a.length/\x+1<=b.length/\aK (λj=>bq (aFG a j) (aFG b j)=0) (x+1)/\a.length-(x+1)<a.length-x))/\
   (¬A<b.length->aH E/\sgn E=cN a b))/\
  (¬A<a.length->aH E/\sgn E=cN a b))) (by kernel_rfl) (by
  change a.length<=1000000/\b.length<=1000000 at hp
  repeat' first|with_reducible apply br|with_reducible intro
  all_goals repeat with_reducible cases‹_/\_›
  all_goals first|assumption|rfl|exact trivial|exact nb ‹_› |exact nb' ‹_› |omega|exact gQ (by omega)|(unfold ix;omega)|(unfold aH;omega)|exact gG _|exact cB ‹_› ‹_› |(refine cB ‹_› ?_;simp_all;done)|exact(Ec ‹_› ‹_› (by omega) (by omega)).symm|exact(AO ‹_› ‹_› (by omega) ‹_›).symm|exact cB ‹_› (sk ‹¬¬_›)|grind)
noncomputable def t27:=t74.adk k27
def UW{s:Shape}(hv:ai s=true):0<s.outer.length/\∀r∈s.holes,0<r.length:=by have h:=(xR s).1 hv;refine⟨by have:=((AR s.outer).1 h.2.1).1;omega,λr hr=> ?_⟩;obtain⟨i,hi,rfl⟩:=rN hr;have h2:=(h.2.2.1 i hi).1;unfold j9 at h2;simp only[BI]at h2;have:=((AR _).1 h2.1.1).1;omega
def L9(s:Shape):cO s=⟨bw s.outer,ct s s.holes.length⟩:=by unfold cO ct;grind
def FD{s:Shape}(hf:Fit s):Fit (cO s):=by
 rw[L9];refine⟨by dsimp only;rw[jg];exact hf.1,?_,λr hr=> ?_⟩
 .have:=JS s s.holes.length;have:=hf.2.1;grind
 .obtain⟨q,hq,rfl⟩:=KE hr;rw[jg];exact hf.2.2 q hq
def Ko{L:List aD}{k:Nat}(hk:k<L.length):(L.take (k+1)).flatten=(L.take k).flatten++aC L k:=by rw[l0,uh,dw hk,kz hk];simp
def ZI{L:List aD}(h:∀r∈L,r.length<=1000)(k:Nat)(hk:k<=L.length):((L.take k).flatten).length<=1000*k:=by
 induction k with
 |zero=>simp
 |succ k ih=>
  rw[Ko (by omega),fM];have h1:=ih (by omega);have h3:=h _ (gH (show k<L.length by omega));omega
def qSU(s:Shape)(i j:Nat):Prop:=bf (aFG (aC (ct s i) j) 0) (aFG (bw (aC s.holes i)) 0)=true
def jSU(s:Shape)(i j:Nat):List aD:=(ct s i).take j++[bw (aC s.holes i)] ++(ct s i).drop j
def Pq{s:Shape}{i j:Nat}(h:ct s (i+1)=jSU s i j):([] :List (List V))++aU j (db 0 (ct s i))++[bw (aC s.holes i)] ++aU ((ct s i).length-j) (db j (ct s i))=ct s (i+1):=by have e:aU ((ct s i).length-j) (db j (ct s i))=db j (ct s i):=iV (by simp);rw[h,e];unfold jSU;simp
noncomputable def aFl:Con:=con (a1 aSh) (λs=>[Fit s,0<s.outer.length,(∀r∈s.holes,0<r.length)]) (λs=> .agg [.lst .V (bw s.outer),.lst .R (ct s s.holes.length)])
def aDO:aFl.Okz 130:=ak t27 (λs=>[lp 3 4 s.holes.length bX [900] bX (λk=>[(6,.box 26 [.lst .V (bw s.outer),.own 900 .R (ct s k).length]),(900,.row 23 .R (ct s k))]) λi=>[cnt 7 6 (ct s i).length (aK (qSU s i)),jN 9 6 λj=>[j<=(ct s i).length,ct s (i+1)=jSU s i j]]]
  ) (λ_=>⟨_,rfl⟩) λs hp=>aZ (aA ([] :List (List V)) λH=>s.outer.length<=100000/\(0=(0:Int)/\bw s.outer=bw s.outer/\(ct s 0).length=0/\ct s 0=H/\(0:Nat)<=s.holes.length)/\
 (∀x:Nat,aA (x+1) λA=>aA (x:Int) λB=>aA (qSU s x) λD=>aA (ct s x) λF=>aA (db 0 F) λJ=>aA (aC s.holes x) λM=>aA (bw M) λN=>x<=s.holes.length->(B<s.holes.length->ix B s.holes.length/\M.length<=100000/\((0=(0:Int)/\(0:Nat)<=F.length/\aK D 0)/\
    (∀x_1:Nat,aA (x_1:Int) λE=>aA (aC F x_1) λL=>x_1<=F.length/\aK D x_1->(E<F.length->ix E F.length/\x_1<F.length/\ix 0 L.length/\ix 0 N.length/\(bf (aFG L 0) (aFG N 0)=true->aH (E+1)/\E+1=((x_1+1:Nat):Int)/\x_1+1<=F.length/\aK D (x_1+1)/\F.length-(x_1+1)<F.length-x_1)/\
      (bf (aFG L 0) (aFG N 0)=false->E=x_1/\x_1<=F.length/\ct s A=jSU s x x_1))/\
     (¬E<F.length->E=x_1/\x_1<=F.length/\ct s A=jSU s x x_1)))/\
   (∀y:Nat,aA (y:Int) λC=>aA (F.length-y) λI=>aA (db y F) λK=>aA (H++aU y J) λO=>aA (H++aU y J++[bw M]) λP=>y<=F.length/\ct s A=jSU s x y->(0<=C/\C<=F.length)/\0+y<=F.length/\H.length+(aU y J).length<=1000000/\O.length=O.length/\O.length+[bw M].length<=1000000/\(0<=C/\C<=F.length)/\P.length=P.length/\y+I<=F.length/\P.length+(aU I K).length<=1000000/\aH (B+1)/\B+1=((x+1:Nat):Int)/\bw s.outer=bw s.outer/\(H++aU y J++[bw M] ++aU I K).length=(ct s A).length/\H++aU y J++[bw M] ++aU I K=ct s A/\x+1<=s.holes.length/\s.holes.length-A<s.holes.length-x))/\
  (¬B<s.holes.length->F.length=F.length/\bw s.outer=bw s.outer/\ct s x=ct s s.holes.length))) (by kernel_rfl) (by
  change Fit s/\0<s.outer.length/\((∀r∈s.holes,0<r.length))at hp;obtain⟨hf,hpo,hph⟩:=hp;have h1:=hf.1;have h2:=hf.2.1;have hh:= @Fit.hole s hf;have i0:ct s 0=[] :=rfl;have hl:=JS s;have kf:∀k:Nat,¬(k:Int)<s.holes.length->k<=s.holes.length->ct s k=ct s s.holes.length:=λk h1 h2=>by grind
  have kl:∀i j:Nat,(j:Int)<(ct s i).length->aH ((j:Int)+1):=λi j h=>bV (by grind);have hb:∀i,i<s.holes.length->ix 0 (bw (aC s.holes i)).length:=λi h=>fC (by rw[jg];exact hph _ (gH h));have hq:∀i j,j<(ct s i).length->ix 0 (aC (ct s i) j).length:=λi j h=>fC (VM hph h);have hj1:∀i j:Nat,¬(j:Int)<(ct s i).length->j<=(ct s i).length->aK (qSU s i) j->i<s.holes.length->ct s (i+1)=jSU s i j:=λi j h1 h2 h3 h=>by rw[Jl h];exact O2 h2 h3 (λh=>by omega)
  have hj2:∀i j:Nat,bf (aFG (aC (ct s i) j) 0) (aFG (bw (aC s.holes i)) 0)=false->j<=(ct s i).length->aK (qSU s i) j->i<s.holes.length->ct s (i+1)=jSU s i j:=λi j h1 h2 h3 h=>by rw[Jl h];exact O2 h2 h3 (λ_=>h1)
  repeat' first|with_reducible apply br|with_reducible intro
  all_goals repeat with_reducible cases‹_/\_›
  all_goals first|assumption|rfl|exact trivial|exact nb ‹_› |exact nb' ‹_› |omega|exact gQ (by omega)|(unfold ix;omega)|(unfold aH;omega)|exact gG _|exact cB ‹_› ‹_› |(refine cB ‹_› ?_;simp_all;done)|exact kf _ ‹_› ‹_› |exact kl _ _ ‹_› |exact cL (hh (by omega)) (by decide)|exact hb _ (by omega)|exact hq _ _ (by omega)|exact hj1 _ _ ‹_› ‹_› ‹_› (by omega)|exact hj2 _ _ ‹_› ‹_› ‹_› (by omega)|exact Pq ‹_› |exact congrArg eQ (Pq ‹_›)|(simp;omega)|grind)
noncomputable def SA:=t27.adk aDO
noncomputable def c59:Con:=con (a1 aSh) (λs=>[Fit s,ai s=true]) (λs=>aSh.enc (cO s)
 )
def k59:c59.Okz 60:=ak SA bX (λ_=>⟨_,rfl⟩) λs hp=>aZ (aA (cO s) λA=>aA (!ai s) λB=>Fit s/\(B=true->A.outer=([] :List V)/\A.holes=([] :List (List V)))/\
 (B=false->Fit s/\(0:Nat)<s.outer.length/\(∀r:aD,r∈s.holes->(0:Nat)<r.length)/\bw s.outer=A.outer/\ct s s.holes.length=A.holes)) (by kernel_rfl) (by change Fit s/\ai s=true at hp;have h:=UW hp.2;have e:=L9 s;grind)
noncomputable def t59:=SA.adk k59
def vOf(s:Shape):List V:=if ai s=true then bk (cO s)else []
def eOf(s:Shape):Int:=if ai s=true then 0 else 11
def vU(s:Shape)(k:Nat):List V:=((aE (cO s)).take (k+1)).flatten
def GG{s:Shape}{k:Nat}(h:k<(cO s).holes.length):vU s k++aC (cO s).holes k=vU s (k+1):=by unfold vU;rw[Ko (L:=aE (cO s)) (k:=k+1) (by simp[aE];omega)];rfl
noncomputable def c18:Con:=con (a1 aSh) (λs=>[Fit s]) (λs=> .tup [.lst .V (vOf s),.iqz (eOf s)])
def k18:c18.Okz 18:=ak t59 (λs=>[lp 6 6 (cO s).holes.length bX [13] (λk=>[(5,.own 13 .V (vU s k).length)]) (λk=>[(13,.row 44 .V (vU s k))])]
  ) (λ_=>⟨_,rfl⟩) λs hp=>aZ (aA (cO s) λC=>aA (!ai s) λD=>aA ([] :List V) λE=>Fit s/\(D=true->vOf s=E/\11=eOf s)/\
 (D=false->Fit s/\ai s=true/\E.length+C.outer.length<=1000000/\(0=(0:Int)/\(E++C.outer).length=(vU s 0).length/\E++C.outer=vU s 0/\(0:Nat)<=C.holes.length)/\
  (∀x:Nat,aA (vU s x) λA=>aA (x:Int) λB=>x<=C.holes.length->(B<C.holes.length->ix B C.holes.length/\A.length=A.length/\A.length+(aC C.holes x).length<=1000000/\aH (B+1)/\B+1=((x+1:Nat):Int)/\(vU s x++aC C.holes x).length=(vU s (x+1)).length/\vU s x++aC C.holes x=vU s (x+1)/\x+1<=C.holes.length/\C.holes.length-(x+1)<C.holes.length-x)/\
   (¬B<C.holes.length->A.length=A.length/\vU s x=vOf s/\0=eOf s)))) (by kernel_rfl) (by
  change Fit s at hp;have hc:=FD hp;have h1:=hc.1;have h2:=hc.2.1;have e0:vU s 0=[] ++(cO s).outer:=by simp[vU,aE]
  have el:∀k,k<(cO s).holes.length->(vU s k).length+(aC (cO s).holes k).length<=1000000:=λk h=>by have:=ZI hc.rings (k+2) (by simp[aE];omega);rw[<-fM,GG h];exact cL this (by omega)
  have ea:∀k:Nat,¬(k:Int)<(cO s).holes.length->k<=(cO s).holes.length->(!ai s)=false->vU s k=vOf s:=λk h1 h2 h3=>by
   obtain rfl:k=(cO s).holes.length:=by omega
   unfold vOf;rw[nb h3,if_pos rfl];unfold vU bk;rw[iV (by simp[aE])]
  have hv0:(!ai s)=true->vOf s=[]/\eOf s=11:=λh=>by unfold vOf eOf;grind
  have hv1:(!ai s)=false->eOf s=0:=λh=>by unfold eOf;grind
  repeat' first|with_reducible apply br|with_reducible intro
  all_goals repeat with_reducible cases‹_/\_›
  all_goals first|assumption|rfl|exact trivial|exact nb ‹_› |exact nb' ‹_› |omega|exact gQ (by omega)|(unfold ix;omega)|(unfold aH;omega)|exact gG _|exact cB ‹_› ‹_› |(refine cB ‹_› ?_;simp_all;done)|exact GG (by omega)|exact congrArg eQ (GG (by omega))|exact el _ (by omega)|exact ea _ ‹_› ‹_› ‹_› |exact(hv0 ‹_›).1.symm|exact(hv0 ‹_›).1|exact(hv0 ‹_›).2.symm|exact(hv1 ‹_›).symm|(rw[e0];done)|(simp;omega)|grind)
noncomputable def t18:=t59.adk k18
def Ks{d e:S}(h:bi d e=2\/bi d e=3):fU d e=false:=by unfold fU;rw[if_pos h]
def Dy{d e:S}(h:bi d e=1):fU d e=(aFG (dx d e) 0==d.a||aFG (dx d e) 0==d.b):=by unfold fU;grind
def U1{d e:S}(h2:bi d e≠2)(h3:bi d e≠3)(h1:bi d e≠1):fU d e=true:=by unfold fU;grind
def T8{d e:S}(h:bi d e=1):aX (aFG (dx d e) 0) 4000=true:=by
 obtain⟨⟨hd,he⟩,z,hz,_,_,hc⟩:=Ak (by rw[pB];exact h);rw[hc];show aX z 4000=true;unfold bD at hd he;simp only[bj]at hd he;rcases(kR d e z).1 hz with rfl|rfl|rfl|rfl
 .exact hd.1
 .exact hd.2
 .exact he.1
 .exact he.2
def Zn{l:List S}{q:S->Bool}{j:Nat}(hj:j<l.length)(h:q (aW l j)=false):l.all q=false:=ug.2 ⟨_,BM hj,by rw[h];simp⟩
def WL{l:List S}{q:S->Bool}(h:∀j,j<l.length->q (aW l j)=true):l.all q=true:=by rw[bh];intro x hx;obtain⟨j,hj,rfl⟩:=jS hx;rw[<-jB hj,h j hj]
def Zl{l:List S}{q:S->Bool}{j:Nat}(hj:j<l.length)(h:q (aW l j)=true):l.any q=true:=jd.2 ⟨_,BM hj,h⟩
def WI{l:List S}{q:S->Bool}(h:∀j,j<l.length->q (aW l j)=false):l.any q=false:=by rw[zn];intro x hx;obtain⟨j,hj,rfl⟩:=jS hx;rw[<-jB hj,h j hj];simp
def L4{s:Shape}(hf:Fit s):(ao s).length<=901000:=by have h:=HZ hf _ (bZ _);unfold eS at h;rw[si]at h;have h2:=hf.rlen;have h3:ao s=List.flatMap aJ (aE s):=rfl;grind
noncomputable def c31:Con:=con (ac aSh (ac aV (a1 aV))) (λ(s,a,b)=>[Fit s,bd 10000 a,bd 10000 b]) (λ(s,a,b)=> .bool (iK s ⟨a,b⟩))
def k31:c31.Okz 31:=ak t18 (λ(s,a,b)=>[cnt 4 9 (ao s).length (aK λj=>fU ⟨a,b⟩ (aW (ao s) j)=true) λk=>[jP 5 [fU ⟨a,b⟩ (aW (ao s) k)=true]]]) (λ(_,_,_)=>⟨_,rfl⟩) λ(s,a,b) hp=>aZ (aA (!true) λA=>aA (ao s) λC=>aA (⟨a,b⟩:S) λE=>Fit s/\(0=(0:Int)/\(0:Nat)<=C.length/\aK (λj=>fU E (aW C j)=true) 0)/\
 (∀x:Nat,aA (x:Int) λB=>aA (aW C x) λD=>aA (aFG (dx E D) 0) λG=>aA (dq G) λH=>x<=C.length/\aK (λj=>fU E (aW C j)=true) x->(B<C.length->(ix B C.length/\(bi E D=2->(bi E D=2->false=iK s E)/\
     (¬bi E D=2->(bi E D=1->ix B C.length/\bi E D=1/\cn H=true/\H.den=1/\(A=true->false=iK s E)/\
       (A=false->(¬G=a->(¬G=b->false=iK s E)/\
         (¬(¬G=b)->fU E D=true))/\
        (¬(¬G=a)->fU E D=true)))/\
      (¬bi E D=1->fU E D=true)))/\
    (¬bi E D=2->(bi E D=3->false=iK s E)/\
     (¬bi E D=3->(bi E D=1->ix B C.length/\bi E D=1/\cn H=true/\H.den=1/\(A=true->false=iK s E)/\
       (A=false->(¬G=a->(¬G=b->false=iK s E)/\
         (¬(¬G=b)->fU E D=true))/\
        (¬(¬G=a)->fU E D=true)))/\
      (¬bi E D=1->fU E D=true))))/\
   (∀y:Unit,fU E D=true->aH (B+1)/\B+1=((x+1:Nat):Int)/\x+1<=C.length/\aK (λj=>fU E (aW C j)=true) (x+1)/\C.length-(x+1)<C.length-x))/\
  (¬B<C.length->(¬a=b->(0:Nat)<[a,b].length/\[a,b].length<=1000/\(∀v:V,v∈[a,b]->bd 10000 v)/\Fit s/\decide (ik s (kS [a,b])=2)=iK s E)/\
   (¬(¬a=b)->false=iK s E)))) (by kernel_rfl) (by
  change Fit s/\bd 10000 a/\bd 10000 b at hp;obtain⟨hf,ha,hb⟩:=hp;have hm:∀v∈[a,b],bd 10000 v:=λv hv=>by grind
  have hel:=L4 hf;have hE:iK s ⟨a,b⟩=((ao s).all (λe=>fU ⟨a,b⟩ e)&&(a !=b&&ik s (kS [a,b])==2)):=rfl;have hX:∀x:Nat,fU ⟨a,b⟩ (aW (ao s) x)=false->x<(ao s).length->false=iK s ⟨a,b⟩:=λx h hx=>by rw[hE,Zn hx h,Bool.false_and]
  have hY:∀x:Nat,aK (λj=>fU ⟨a,b⟩ (aW (ao s) j)=true) x->¬(x:Int)<(ao s).length->iK s ⟨a,b⟩=(a !=b&&ik s (kS [a,b])==2):=λx h hx=>by rw[hE,WL (λj hj=>h j (by omega)),Bool.true_and]
  have hZ:∀x,bi ⟨a,b⟩ (aW (ao s) x)=1->¬aFG (dx ⟨a,b⟩ (aW (ao s) x)) 0=a->¬aFG (dx ⟨a,b⟩ (aW (ao s) x)) 0=b->fU ⟨a,b⟩ (aW (ao s) x)=false:=λx h h1 h2=>by rw[Dy h];simp[h1,h2]
  have hZ2:∀x,bi ⟨a,b⟩ (aW (ao s) x)=1->¬(¬aFG (dx ⟨a,b⟩ (aW (ao s) x)) 0=a)->fU ⟨a,b⟩ (aW (ao s) x)=true:=λx h h1=>by rw[Dy h];grind
  have hZ3:∀x,bi ⟨a,b⟩ (aW (ao s) x)=1->¬(¬aFG (dx ⟨a,b⟩ (aW (ao s) x)) 0=b)->fU ⟨a,b⟩ (aW (ao s) x)=true:=λx h h1=>by rw[Dy h];grind
  with_reducible ((repeat' first|apply br|intro);all_goals repeat cases‹_/\_›)
  all_goals first|rfl|with_reducible solve_by_elim|exact U1 (by omega) (by omega) ‹_› |exact hX _ (Ks (.inl ‹_›)) (by omega)|exact hX _ (Ks (.inr ‹_›)) (by omega)|exact hX _ (hZ _ ‹_› ‹_› ‹_›) (by omega)|(rw[z7];exact T8 ‹_›)|(rw[hY _ ‹_› ‹_›];simp_all;done)|exact Bool.noConfusion ‹(!true)=true› |grind)
noncomputable def t31:=t18.adk k31
def jn(a b:V)(e:S):Bool:=(e.a==a&&e.b==b)||(e.a==b&&e.b==a)
def aEa{a b:V}{e:S}(h:¬e.a=a)(h2:e.a=b):decide (e.b=a)=jn a b e:=by
 have h1:(e.a==a)=false:=by simpa using h
 have h3:(e.a==b)=true:=by simpa using h2
 unfold jn;grind
def aD9{a b:V}{e:S}(h:¬e.b=b)(h2:e.a=b):decide (e.b=a)=jn a b e:=by
 have h1:(e.b==b)=false:=by simpa using h
 have h3:(e.a==b)=true:=by simpa using h2
 unfold jn;grind
noncomputable def c69:Con:=con (ac (aL .S) (ac aV (a1 aV))) (λ(l,_,_)=>[l.length<=1000000]) (λ(l,a,b)=> .bool (il l a b))
def k69:c69.Okz 70:=ak t31 (λ(l,a,b)=>[cnt 2 7 l.length (aK λj=>jn a b (aW l j)=false) λk=>[jb 5 47 (jn a b (aW l k))]]
  ) (λ(_,_,_)=>⟨_,rfl⟩) λ(l,a,b) hp=>aZ ((0=(0:Int)/\(0:Nat)<=l.length/\aK (λj=>jn a b (aW l j)=false) 0)/\
 (∀x:Nat,aA (x:Int) λA=>aA (aW l x) λB=>x<=l.length/\aK (λj=>jn a b (aW l j)=false) x->(A<l.length->(ix A l.length/\(B.a=a->ix A l.length/\(B.b=b->true=jn a b B)/\
     (¬B.b=b->ix A l.length/\(B.a=b->ix A l.length/\decide (B.b=a)=jn a b B)/\
      (¬B.a=b->false=jn a b B)))/\
    (¬B.a=a->ix A l.length/\(B.a=b->ix A l.length/\decide (B.b=a)=jn a b B)/\
     (¬B.a=b->false=jn a b B)))/\
   (∀y:Unit,(jn a b B=true->true=il l a b)/\
    (jn a b B=false->aH (A+1)/\A+1=((x+1:Nat):Int)/\x+1<=l.length/\aK (λj=>jn a b (aW l j)=false) (x+1)/\l.length-(x+1)<l.length-x)))/\
  (¬A<l.length->false=il l a b))) (by kernel_rfl) (by
  change l.length<=1000000 at hp;have hE:il l a b=l.any (jn a b):=rfl;have h1:∀x:Nat,jn a b (aW l x)=true->x<l.length->true=il l a b:=λx h hx=>by rw[hE];exact(Zl hx h).symm
  have h2:∀x:Nat,aK (λj=>jn a b (aW l j)=false) x->¬(x:Int)<l.length->false=il l a b:=λx h hx=>by rw[hE];exact(WI λj hj=>h j (by omega)).symm
  with_reducible ((repeat' first|apply br|intro);all_goals repeat cases‹_/\_›)
  all_goals first|rfl|exact h1 _ ‹_› (by omega)|exact h2 _ ‹_› ‹_› |(unfold jn;simp_all;done)|exact aEa ‹_› ‹_› |exact aD9 ‹_› ‹_› |grind)
noncomputable def t69:=t31.adk k69
def O0{X:List aD}{h:aD}:∀{k:Nat},k<=X.length->(∀j,j<k->cN (aC X j) h<0)->(k<X.length->¬cN (aC X k) h<0)->gn X h=X.take k++[h] ++X.drop k:=by
 induction X with
 |nil=>intro k hk _ _;simp[gn]
 |cons q r ih=>
  intro k hk h1 h2;cases k with
  |zero=>
   unfold gn;rw[if_neg (show¬cN q h<0 from h2 (by simp))];rfl
  |succ k=>
   unfold gn;rw[if_pos (show cN q h<0 from h1 0 (by omega)),ih (k:=k) (by grind) (λj hj=>h1 (j+1) (by omega)) (λhh=>h2 (by grind))];rfl
noncomputable def c75:Con:=con (ac (aL .R) (a1 (aL .V))) (λ(l,r)=>[l.length<=999999,r.length<=100000,(∀q∈l,q.length<=100000)]) (λ(l,r)=> .lst .R (gn l r))
def k75:c75.Okz 75:=ak t69 (λ(l,r)=>[cnt 2 5 l.length (aK λj=>cN (aC l j) r<0),jN 4 5 λk=>[k<=l.length,gn l r=l.take k++[r] ++l.drop k]]
  ) (λ(_,_)=>⟨_,rfl⟩) λ(l,r) hp=>aZ (aA ([] :List (List V)) λD=>((0=(0:Int)/\(0:Nat)<=l.length/\aK (λj=>cN (aC l j) r<0) 0)/\
  (∀x:Nat,aA (x:Int) λA=>aA (aC l x) λE=>x<=l.length/\aK (λj=>cN (aC l j) r<0) x->(A<l.length->ix A l.length/\E.length<=1000000/\r.length<=1000000/\(cN E r<0->aH (A+1)/\A+1=((x+1:Nat):Int)/\x+1<=l.length/\aK (λj=>cN (aC l j) r<0) (x+1)/\l.length-(x+1)<l.length-x)/\
    (¬cN E r<0->A=x/\x<=l.length/\gn l r=aU x l++[r] ++db x l))/\
   (¬A<l.length->A=x/\x<=l.length/\gn l r=aU x l++[r] ++db x l)))/\
 (∀y:Nat,aA (y:Int) λB=>aA (D++aU y l) λF=>aA (D++aU y l++[r]) λG=>aA (D++aU y l++[r] ++db y l) λH=>y<=l.length/\gn l r=aU y l++[r] ++db y l->(0<=B/\B<=l.length)/\D.length+(aU y l).length<=1000000/\F.length=F.length/\F.length+[r].length<=1000000/\(0<=B/\B<=l.length)/\G.length=G.length/\G.length+(db y l).length<=1000000/\H.length=H.length/\D++aU y l++[r] ++db y l=gn l r)) (by kernel_rfl) (by
  change l.length<=999999/\r.length<=100000/\((∀q∈l,q.length<=100000))at hp;obtain⟨h1,h2,h3⟩:=hp;have e1:∀x:Nat,aK (λj=>cN (aC l j) r<0) x->¬(x:Int)<l.length->x<=l.length->gn l r=l.take x++[r] ++l.drop x:=λx h4 h5 h6=>O0 h6 h4 (λh=>by omega);have e2:∀x:Nat,aK (λj=>cN (aC l j) r<0) x->¬cN (aC l x) r<0->x<=l.length->gn l r=l.take x++[r] ++l.drop x:=λx h4 h5 h6=>O0 h6 h4 (λ_=>h5);have e3:∀x,x<l.length->(aC l x).length<=1000000:=λx h=>cL (h3 _ (gH h)) (by decide)
  with_reducible ((repeat' first|apply br|intro);all_goals repeat cases‹_/\_›)
  all_goals grind)
noncomputable def t75:=t69.adk k75
def kC(r:aD)(p:V):Bool:=p !=aFG r 0&&p !=aFG r 1&&p !=aFG r 2&&jl r p !=0
def Zm{l:List V}{q:V->Bool}{j:Nat}(hj:j<l.length)(h:q (aFG l j)=false):l.all q=false:=ug.2 ⟨_,dO hj,by rw[h];simp⟩
def WK{l:List V}{q:V->Bool}(h:∀j,j<l.length->q (aFG l j)=true):l.all q=true:=by rw[bh];intro x hx;obtain⟨j,hj,rfl⟩:=jS hx;rw[<-nth_eq hj,h j hj]
noncomputable def c72:Con:=con (ac (aL .V) (a1 (aL .V))) (λ(r,v)=>[3<=r.length,r.length<=100000,v.length<=100000]) (λ(r,v)=> .bool (mI r v))
def k72:c72.Okz 72:=ak t75 (λ(r,v)=>[cnt 2 5 v.length (aK λj=>kC r (aFG v j)=false) λk=>[jb 5 48 (kC r (aFG v k))]]
  ) (λ(_,_)=>⟨_,rfl⟩) λ(r,v) hp=>aZ ((0=(0:Int)/\(0:Nat)<=v.length/\aK (λj=>kC r (aFG v j)=false) 0)/\
 (∀x:Nat,aA (x:Int) λA=>aA (aFG v x) λB=>x<=v.length/\aK (λj=>kC r (aFG v j)=false) x->(A<v.length->(ix A v.length/\ix 0 r.length/\(¬B=(aFG r 0)->ix A v.length/\ix 1 r.length/\(¬B=(aFG r 1)->ix A v.length/\ix 2 r.length/\(¬B=(aFG r 2)->ix A v.length/\r.length<=100000/\decide (¬jl r B=0)=kC r B)/\
      (¬(¬B=(aFG r 2))->false=kC r B))/\
     (¬(¬B=(aFG r 1))->false=kC r B))/\
    (¬(¬B=(aFG r 0))->false=kC r B))/\
   (∀y:Unit,(kC r B=true->false=mI r v)/\
    (kC r B=false->aH (A+1)/\A+1=((x+1:Nat):Int)/\x+1<=v.length/\aK (λj=>kC r (aFG v j)=false) (x+1)/\v.length-(x+1)<v.length-x)))/\
  (¬A<v.length->true=mI r v))) (by kernel_rfl) (by
  change 3<=r.length/\r.length<=100000/\v.length<=100000 at hp;have hE:mI r v=v.all λp=> !kC r p:=rfl;have iw:∀{p:V},¬p=aFG r 0->¬p=aFG r 1->¬p=aFG r 2->decide (¬jl r p=0)=kC r p:=λh0 h1 h2=>by unfold kC;grind
  have e1:∀x:Nat,kC r (aFG v x)=true->x<v.length->false=mI r v:=λx h hx=>by rw[hE];exact(Zm hx (by rw[h];rfl)).symm
  have e2:∀x:Nat,aK (λj=>kC r (aFG v j)=false) x->¬(x:Int)<v.length->true=mI r v:=λx h hx=>by rw[hE];exact(WK λj hj=>by rw[h j (by omega)];rfl).symm
  with_reducible ((repeat' first|apply br|intro);all_goals repeat cases‹_/\_›)
  all_goals first|rfl|exact e1 _ ‹_› (by omega)|exact e2 _ ‹_› ‹_› |(unfold kC;simp_all;done)|grind)
noncomputable def t72:=t75.adk k72
def FQ{s:Shape}(h:VS s):(bk (cO s)).length<=80:=by have h1:=(oi s).length_eq;have h2:=h.corners;unfold jA at h2;rw[h1];unfold bk;grind
def No{s:Shape}(h:VS s):∀x∈bk (cO s),aX x 2000=true:=by intro x hx;have hx:=(oi s).subset hx;unfold bk at hx;obtain⟨r,hr,hxr⟩:=List.mem_flatten.1 hx;have hn:=(h.ring hr).near;unfold near at hn;grind
def vsR{s:Shape}(hv:ai s=true):VS s:=(qC s).1 (by rw[ku];exact hv)
def pN(c:Bool)(out:List S)(d:S)(k:Nat):Bool:=c&&(out.take k).all λe=>bi e d !=2
def Uu(c:Bool)(out:List S)(d:S):pN c out d 0=c:=by simp[pN]
def Uv{c:Bool}{out:List S}{d:S}{k:Nat}(hk:k<out.length):pN c out d (k+1)=(pN c out d k&&bi (aW out k) d !=2):=by unfold pN;rw[l0,dw hk,List.all_append,jB hk,Bool.and_assoc];simp
def Uw{c:Bool}{out:List S}{d:S}{k:Nat}(hk:out.length<=k):pN c out d k=(c&&out.all λe=>bi e d !=2):=by unfold pN;rw[iV hk]
def UI{c:Bool}{out:List S}{d:S}{k:Nat}(h:pN c out d k=false):(c&&out.all λe=>bi e d !=2)=false:=by unfold pN at h;grind
def D5(s:Shape)(v:List V)(acc:List S)(i:Nat):∀m,(qv s v acc i m).length<=acc.length+m
 |0=>by simp[qv]
 |m+1=>by
  have h:=D5 s v acc i m;unfold qv pP;grind
def Dt(s:Shape)(v:List V):∀i,(iJ s v i).length<=i*v.length
 |0=>by simp[iJ]
 |i+1=>by
  have h1:=Dt s v i;have h2:=D5 s v (iJ s v i) i (v.length-(i+1));unfold iJ;grind
def dOf(s:Shape):List S:=if ai s=true then nA s (vOf s)else []
def dJ(s:Shape)(v:List V)(i j:Nat):List S:=qv s v (iJ s v i) i (j-(i+1))
def PG(s:Shape)(v:List V)(i:Nat):dJ s v i (i+1)=iJ s v i:=by unfold dJ;rw[DO];rfl
def P5{s:Shape}{v:List V}{i j:Nat}(hj:¬(j:Int)<v.length)(h:j<=v.length):dJ s v i j=iJ s v (i+1):=by
 obtain rfl:j=v.length:=by omega
 rfl
def P4{s:Shape}{v:List V}{i j:Nat}(hv:v.length<=80)(hi:i<v.length)(hj:j<=v.length):(dJ s v i j).length<=10000:=by have h3:=D5 s v (iJ s v i) i (j-(i+1));have h4:=Dt s v i;have h5:i*v.length<=80*80:=nP (by omega) hv;unfold dJ;omega
def dW(s:Shape)(v:List V)(i j:Nat)(k:Nat):Bool:=pN (iK s ⟨aFG v i,aFG v j⟩) (dJ s v i j) ⟨aFG v i,aFG v j⟩ k
def aAP(s:Shape)(v:List V)(i j:Nat):dW s v i j 0=iK s ⟨aFG v i,aFG v j⟩:=Uu _ _ _
def aAQ{s:Shape}{v:List V}{i j k:Nat}(h:dW s v i j k=true)(hk:k<(dJ s v i j).length):decide (¬bi (aW (dJ s v i j) k) ⟨aFG v i,aFG v j⟩=2)=dW s v i j (k+1):=by have e:dW s v i j (k+1)=(dW s v i j k&&bi (aW (dJ s v i j) k) ⟨aFG v i,aFG v j⟩ !=2):=Uv hk;grind
def PH{s:Shape}{v:List V}{i j:Nat}(hi:i<j):dJ s v i (j+1)=pP s v (dJ s v i j) i j:=by unfold dJ;rw[show j+1-(i+1)=(j-(i+1))+1 by omega];show pP s v _ i (i+1+(j-(i+1)))=_;grind
def P2{s:Shape}{v:List V}{i j k:Nat}(hb:dW s v i j k=true)(hk:¬(k:Int)<(dJ s v i j).length)(hi:i<j):dJ s v i j++[⟨aFG v i,aFG v j⟩] =dJ s v i (j+1):=by rw[PH hi];unfold pP;rw[if_pos];rw[<-Uw (k:=k) (by omega)];exact hb
def Qj{s:Shape}{v:List V}{i j k:Nat}(hb:dW s v i j k=false)(hi:i<j):dJ s v i j=dJ s v i (j+1):=by rw[PH hi];unfold pP;rw[if_neg];rw[UI hb];simp
def mw(s:Shape):(vOf s).length<=80:=by
 unfold vOf;split
 .exact FQ (vsR ‹_›)
 .simp
def pF{s:Shape}{i:Nat}(h:i<(vOf s).length){M:Int}(hM:2000<=M:=by decide):bd M (aFG (vOf s) i):=by
 by_cases hv:ai s=true
 .have e:vOf s=bk (cO s):=if_pos hv;rw[e]at h|-;exact uH (No (vsR hv) _ (dO h)) hM
 .have e:vOf s=[] :=if_neg hv;grind
def Py{s:Shape}(h:¬eOf s=0):dOf s=[]/\vOf s=[] :=by
 unfold eOf at h;split at h
 .omega
 .exact⟨if_neg ‹_›,if_neg ‹_›⟩
def te{s:Shape}(h:¬¬eOf s=0):ai s=true:=by unfold eOf at h;grind
noncomputable def c20:Con:=DE (a1 aSh) (λs=>[Fit s]) 46 .S (λs=>dOf s) (λs=>[.iqz (eOf s)])
def k20:c20.Okz 20:=Gs (oO t72.o) (raw:=uB) (λs=>[lp 6 7 (vOf s).length bX [900] (λk=>[(6,.own 900 .S (iJ s (vOf s) k).length)]) (λk=>[(900,.row 46 .S (iJ s (vOf s) k))]) λi=>[(9,.mk Nat (λF _=>lh F 8) [900] (λj=>[i<j,j<=(vOf s).length]) (λj=>[(8,.iqz (j:Int)),(6,.own 900 .S (dJ s (vOf s) i j).length)]) (λj=>[(900,.row 46 .S (dJ s (vOf s) i j))]) (λj=>(vOf s).length-j) λj=>[lp 14 11 (dJ s (vOf s) i j).length bX [] (λk=>[(10,.bool (dW s (vOf s) i j k))]) bX])]]
  ) (λ_=>⟨[_],rfl⟩) λs hp=>aZ (aA (vOf s) λA=>aA ([] :List S) λO=>Fit s/\(¬eOf s=0->dOf s=O/\eOf s=eOf s)/\
 (¬(¬eOf s=0)->(0=(0:Int)/\(iJ s A 0).length=0/\iJ s A 0=O/\(0:Nat)<=A.length)/\
  (∀x:Nat,aA (x+1) λB=>aA (x:Int) λD=>aA (aFG A x) λI=>aA (iJ s A x) λP=>aA ((x+1:Nat):Int) λQ=>x<=A.length->(D<A.length->aH (D+1)/\(D+1=Q/\P.length=(dJ s A x B).length/\iJ s A x=dJ s A x B/\x<x+1/\x+1<=A.length)/\
    (∀x_1:Nat,aA (x_1+1) λC=>aA (x_1:Int) λE=>aA (E+1) λF=>aA (dJ s A x C) λH=>aA (dJ s A x x_1) λJ=>aA (aFG A x_1) λK=>aA ((x_1+1:Nat):Int) λM=>aA (⟨I,K⟩:S) λN=>aA (dJ s A x x_1++[N]) λR=>x<x_1/\x_1<=A.length->(E<A.length->ix D A.length/\ix E A.length/\ix D A.length/\ix E A.length/\Fit s/\bd 10000 I/\bd 10000 K/\(0=(0:Int)/\iK s N=dW s A x x_1 0/\(0:Nat)<=J.length)/\
      (∀x_2:Nat,aA (x_2:Int) λG=>x_2<=J.length->(G<J.length->(dW s A x x_1 x_2=true->ix G J.length/\x_2<J.length/\aH (G+1)/\G+1=((x_2+1:Nat):Int)/\decide (¬bi (aW J x_2) N=2)=dW s A x x_1 (x_2+1)/\x_2+1<=J.length/\J.length-(x_2+1)<J.length-x_2)/\
        (dW s A x x_1 x_2=false->(dW s A x x_1 x_2=true->J.length=J.length/\J.length+[N].length<=1000000/\aH F/\E+1=M/\R.length=H.length/\dJ s A x x_1++[N] =dJ s A x C/\x<x_1+1/\x_1+1<=A.length/\A.length-C<A.length-x_1)/\
         (dW s A x x_1 x_2=false->aH F/\E+1=M/\J.length=H.length/\dJ s A x x_1=dJ s A x C/\x<x_1+1/\x_1+1<=A.length/\A.length-C<A.length-x_1)))/\
       (¬G<J.length->(dW s A x x_1 x_2=true->J.length=J.length/\J.length+[N].length<=1000000/\aH F/\E+1=M/\R.length=H.length/\dJ s A x x_1++[N] =dJ s A x C/\x<x_1+1/\x_1+1<=A.length/\A.length-C<A.length-x_1)/\
        (dW s A x x_1 x_2=false->aH F/\E+1=M/\J.length=H.length/\dJ s A x x_1=dJ s A x C/\x<x_1+1/\x_1+1<=A.length/\A.length-C<A.length-x_1))))/\
     (¬E<A.length->aH (D+1)/\D+1=Q/\J.length=(iJ s A B).length/\dJ s A x x_1=iJ s A B/\x+1<=A.length/\A.length-B<A.length-x)))/\
   (¬D<A.length->iJ s A x=dOf s/\P.length=P.length/\0=eOf s)))) (by kernel_rfl) (by
  change Fit s at hp;have hl:=mw s;have gL:∀x:Nat,(x:Int)<(vOf s).length->aH ((x:Int)+1):=λx h=>bV (by omega);have gJ:∀i j (e:S),i<(vOf s).length->j<=(vOf s).length->(dJ s (vOf s) i j).length+[e].length<=1000000:=λi j e h1 h2=>by have:=P4 (s:=s) hl h1 h2;simp;omega
  have gK:∀i j k:Nat,(k:Int)<(dJ s (vOf s) i j).length->i<(vOf s).length->j<=(vOf s).length->aH ((k:Int)+1):=λi j k h h1 h2=>by have:=P4 (s:=s) hl h1 h2;exact bV (by omega)
  have gE:∀x:Nat,¬(x:Int)<(vOf s).length->x<=(vOf s).length->¬¬eOf s=0->iJ s (vOf s) x=dOf s:=λx h1 h2 h3=>by unfold dOf;rw[if_pos (te h3),show x=(vOf s).length by omega];rfl
  with_reducible ((repeat' first|apply br|intro);all_goals repeat cases‹_/\_›)
  all_goals first|rfl|omega|exact(Py ‹_›).1|exact gL _ ‹_› |exact(PG _ _ _).symm|exact congrArg eQ (PG _ _ _).symm|exact pF (by omega)|exact(aAP _ _ _ _).symm|exact aAQ ‹_› (by omega)|exact gK _ _ _ ‹_› (by omega) ‹_› |exact gJ _ _ _ (by omega) ‹_› |exact P2 ‹_› ‹_› ‹_› |exact Qj ‹_› ‹_› |exact congrArg eQ (P2 ‹_› ‹_› ‹_›)|exact congrArg eQ (Qj ‹_› ‹_›)|exact P5 ‹_› ‹_› |exact congrArg eQ (P5 ‹_› ‹_›)|exact gE _ ‹_› ‹_› ‹_› |grind)
noncomputable def t20:=t72.adk k20
section
section
def qf(s:Shape)(v:List aFH)(T:aFM)(i j:Nat)(acc:List aD)(k:Nat):List aD:=
 if T i k&&(T j k&&lW s v i j k)then acc++[c5 (aFG v i) (aFG v j) (aFG v k)]else acc
def oS(s:Shape)(v:List aFH)(T:aFM)(i j:Nat)(acc:List aD):Nat->List aD
 |0=>acc
 |m+1=>qf s v T i j (oS s v T i j acc m) (j+1+m)
def nH(s:Shape)(v:List aFH)(T:aFM)(i:Nat)(acc:List aD):Nat->List aD
 |0=>acc
 |m+1=>if T i (i+1+m)then oS s v T i (i+1+m) (nH s v T i acc m) (v.length-(i+1+m+1))else nH s v T i acc m
def ic(s:Shape)(v:List aFH)(T:aFM):Nat->List aD
 |0=>[]
 |i+1=>nH s v T i (ic s v T i) (v.length-(i+1))
def He(s:Shape)(v:List aFH)(T:aFM):List aD:=ic s v T v.length
variable (s:Shape) (v:List aFH) (T:aFM)
def VH(a b c:aFH):(c5 a b c).length<=1000:=by unfold c5 dD;split<;>split<;>first|(rw[jg];simp)|simp
def EC(i j:Nat)(acc:List aD):∀m,(oS s v T i j acc m).length<=acc.length+m
 |0=>bZ _
 |m+1=>by
  have:=EC i j acc m;unfold oS qf;grind
def ED(i:Nat)(acc:List aD):∀m,(nH s v T i acc m).length<=acc.length+m*v.length
 |0=>by simp[nH]
 |m+1=>by
  have h1:=ED i acc m;have h2:=EC s v T i (i+1+m) (nH s v T i acc m) (v.length-(i+1+m+1));unfold nH;grind
def EE:∀i,(ic s v T i).length<=i*(v.length*v.length)
 |0=>by simp[ic]
 |i+1=>by
  have h1:=EE i;have h2:=ED s v T i (ic s v T i) (v.length-(i+1));have h3:(v.length-(i+1))*v.length<=v.length*v.length:=Nat.mul_le_mul_right _ (by omega);unfold ic;grind
def EU(i j:Nat)(acc:List aD)(h:∀r∈acc,r.length<=1000):∀m,∀r∈oS s v T i j acc m,r.length<=1000
 |0=>h
 |m+1=>by
  have h1:=EU i j acc h m;unfold oS qf;split
  .intro r hr;rcases bl.1 hr with hr|hr
   .exact h1 r hr
   .rw[bn.1 hr];exact VH _ _ _
  .exact h1
def EV(i:Nat)(acc:List aD)(h:∀r∈acc,r.length<=1000):∀m,∀r∈nH s v T i acc m,r.length<=1000
 |0=>h
 |m+1=>by
  have h1:=EV i acc h m;unfold nH;split
  .exact EU s v T i _ _ h1 _
  .exact h1
def Kk:∀i,∀r∈ic s v T i,r.length<=1000
 |0=>by simp[ic]
 |i+1=>EV s v T i _ (Kk i) _
end
def VN(l:List aD)(r:aD):cV (l++[r])=gn (cV l) r:=by unfold cV;grind
def WE(r:aD):im r=dD r:=by unfold im dD;rw[tW]
def U6{r:aD}{x:aFH}(h:x∈im r):x∈r:=by
 unfold im at h;split at h
 .exact(tH r).mem_iff.1 h
 .simp at h
def WD(r:aD):(im r).length<=r.length:=by
 unfold im;split
 .rw[jg];omega
 .simp
def UL(s:Shape)(v:List aFH)(h:v.length<=80):(nA s v).length<=6400:=by have h1:=Dt s v v.length;have h2:v.length*v.length<=80*80:=nP h h;unfold nA;omega
def tJ(s:Shape)(v:List aFH)(T:aFM)(i j:Nat):List aD:=nH s v T i (ic s v T i) (j-(i+1))
def tK(s:Shape)(v:List aFH)(T:aFM)(i j k:Nat):List aD:=oS s v T i j (tJ s v T i j) (k-(j+1))
section
variable {s:Shape} {v:List aFH} {T:aFM} {i j k:Nat}
def Zs:tJ s v T i (i+1)=ic s v T i:=by unfold tJ;rw[DO];rfl
def aBe(hj:¬(j:Int)<v.length)(h:j<=v.length):tJ s v T i j=ic s v T (i+1):=by
 obtain rfl:j=v.length:=by omega
 rfl
def Zr:tK s v T i j (j+1)=tJ s v T i j:=by unfold tK;rw[DO];rfl
def GK(h:j<k):tK s v T i j (k+1)=qf s v T i j (tK s v T i j k) k:=by unfold tK;rw[show k+1-(j+1)=(k-(j+1))+1 by omega];show qf s v T i j _ (j+1+(k-(j+1)))=_;grind
def Nz(h:i<j):tJ s v T i (j+1)=if T i j then oS s v T i j (tJ s v T i j) (v.length-(j+1))else tJ s v T i j:=by unfold tJ;rw[show j+1-(i+1)=(j-(i+1))+1 by omega];show(if T i (i+1+(j-(i+1)))=true then oS s v T i (i+1+(j-(i+1))) _ (v.length-(i+1+(j-(i+1))+1))else _)=_;grind
def aB7(hT:T i j=false)(h:i<j):tJ s v T i j=tJ s v T i (j+1):=by rw[Nz h,hT];rfl
def aBd(hk:¬(k:Int)<v.length)(hT:T i j=true)(h:i<j)(h2:k<=v.length):tK s v T i j k=tJ s v T i (j+1):=by
 obtain rfl:k=v.length:=by omega
 rw[Nz h,hT];rfl
def QK(hT:(T i k&&T j k)=false)(h:j<k):tK s v T i j k=tK s v T i j (k+1):=by rw[GK h];unfold qf;grind
def aBa(hT:lW s v i j k=false)(h:j<k):tK s v T i j k=tK s v T i j (k+1):=by rw[GK h];unfold qf;grind
def aB6(hE:lW s v i j k=true)(hT:(T i k&&T j k)=true)(h:j<k):gn (cV (tK s v T i j k)) (c5 (aFG v i) (aFG v j) (aFG v k))=cV (tK s v T i j (k+1)):=by rw[bj]at hT;rw[GK h];unfold qf;rw[if_pos (by grind),VN]
def aBc(hv:v.length<=80)(hi:i<v.length)(hj:j<v.length)(hk:k<=v.length):(cV (tK s v T i j k)).length<=600000:=by rw[(rH _).length_eq];have h1:=EC s v T i j (tJ s v T i j) (k-(j+1));have h2:=ED s v T i (ic s v T i) (j-(i+1));have h3:=EE s v T i;have h4:v.length*v.length<=80*80:=nP hv hv;have h5:i*(v.length*v.length)<=80*(80*80):=nP (by omega) h4;have h6:(j-(i+1))*v.length<=80*80:=nP (by omega) hv;unfold tK;unfold tJ at h1|-;omega
def aBb:∀r∈cV (tK s v T i j k),r.length<=100000:=λr hr=>by have:=EU s v T i j _ (EV s v T i _ (Kk s v T i) _) _ r ((rH _).mem_iff.1 hr);omega
end
def tri(a b c:aFH):aD:=if turn a b c<0 then [a,c,b]else [a,b,c]
def tM(a b c:aFH):im (tri a b c)=c5 a b c:=by rw[WE];unfold tri c5;split<;>rfl
def Zp{a b c x:aFH}(h:x∈c5 a b c):x=a\/x=b\/x=c:=by rw[<-tM]at h;have h:=U6 h;unfold tri at h;grind
def tT(s:Shape):aFM:=Gf s (vOf s)
def tOf(s:Shape):List aD:=if ai s=true then cV (He s (vOf s) (tT s))else []
def qL{s:Shape}(h:ai s=true):vOf s=bk (cO s):=if_pos h
def Bp{s:Shape}(h:ai s=true):dOf s=nA s (vOf s):=if_pos h
def QJ{s:Shape}(h:ai s=true){i k:Nat}(hi:i<(vOf s).length)(hk:k<(vOf s).length):il (dOf s++ao s) (aFG (vOf s) i) (aFG (vOf s) k)=tT s i k:=by unfold tT;rw[Bp h];rw[qL h]at hi hk|-;exact(XF (vsR h) hi hk).symm
def QL{s:Shape}(h:ai s=true){i j k:Nat}(hi:i<(vOf s).length)(hj:j<(vOf s).length)(hk:k<(vOf s).length):kB s (vOf s) (c5 (aFG (vOf s) i) (aFG (vOf s) j) (aFG (vOf s) k))=lW s (vOf s) i j k:=by rw[qL h]at hi hj hk|-;exact(ZQ (No (vsR h)) ((oi s).nodup_iff.2 (vsR h).nodup) hi hj hk).symm
def PF(s:Shape):(dOf s).length<=6400:=by
 unfold dOf;split
 .exact UL s _ (mw s)
 .simp
noncomputable def c22:Con:=con (a1 aSh) (λs=>[Fit s]) (λs=> .tup [.lst .R (tOf s),.iqz (eOf s)])
def k22:c22.Okz 22:=vq (oO t20.o) (raw:=λr i=>bF r 6&&bF i 0) (λs=>[lp 8 9 (vOf s).length (λ_=>[]) [] (λi=>[(8,.lst .R (cV (ic s (vOf s) (tT s) i)))]) (λ_=>[]) λi=>
  [(11,.mk Nat (λF _=>lh F 10) [] (λj=>[i<j,j<=(vOf s).length]) (λj=>[(10,.int .i64 (j:Int)),(8,.lst .R (cV (tJ s (vOf s) (tT s) i j)))]) (λ_=>[]) (λj=>(vOf s).length-j) λj=>
  [(15,.mk Nat (λF _=>lh F 11) [] (λk=>[j<k,k<=(vOf s).length]) (λk=>[(11,.int .i64 (k:Int)),(8,.lst .R (cV (tK s (vOf s) (tT s) i j k)))]) (λ_=>[]) (λk=>(vOf s).length-k) λk=>
  [jP 18 [(tT s i k&&tT s j k)=true],jR 21 12 67 44 .V (tri (aFG (vOf s) i) (aFG (vOf s) j) (aFG (vOf s) k)),jb 23 143 (kB s (vOf s) (c5 (aFG (vOf s) i) (aFG (vOf s) j) (aFG (vOf s) k)))])])]]
  ) (λ_=>⟨_,rfl⟩) λs hp=>aZ (aA (tT s) λA=>aA (vOf s) λB=>aA (3:Nat) λF=>aA (dOf s).length λK=>aA (dOf s++ao s) λZ=>aA ([] :List (List aFH)) λd=>Fit s/\(¬eOf s=0->tOf s=d/\eOf s=eOf s)/\
 (¬(¬eOf s=0)->Fit s/\Fit s/\K=K/\K+(ao s).length<=1000000/\(0=(0:Int)/\cV (ic s B A 0)=d/\(0:Nat)<=B.length)/\
  (∀x:Nat,aA (x:Int) λC=>aA (aFG B x) λJ=>aA ((x+1:Nat):Int) λY=>x<=B.length->(C<B.length->aH (C+1)/\(C+1=Y/\cV (ic s B A x)=cV (tJ s B A x (x+1))/\x<x+1/\x+1<=B.length)/\
    (∀x_1:Nat,aA (x_1+1) λE=>aA (x_1:Int) λI=>aA (aFG B x_1) λL=>aA ((x_1+1:Nat):Int) λS=>aA (tJ s B A x x_1) λU=>aA (!il Z J L) λa=>x<x_1/\x_1<=B.length->(I<B.length->ix C B.length/\ix I B.length/\Z.length=Z.length/\Z.length<=1000000/\(a=true->aH (I+1)/\I+1=S/\cV U=cV (tJ s B A x E)/\x<x_1+1/\x_1+1<=B.length/\B.length-E<B.length-x_1)/\
      (a=false->aH (I+1)/\(I+1=S/\cV U=cV (tK s B A x x_1 E)/\x_1<x_1+1/\x_1+1<=B.length)/\
       (∀x_2:Nat,aA (x_2+1) λD=>aA (x_2:Int) λG=>aA (G+1) λH=>aA (aFG B x_2) λM=>aA (tri J L M) λN=>aA (im N) λO=>aA ((x_2+1:Nat):Int) λQ=>aA (c5 J L M) λT=>aA (O.length:Int) λV=>aA (tK s B A x x_1 D) λW=>aA (tK s B A x x_1 x_2) λX=>aA (!il Z J M) λb=>aA (!il Z L M) λc=>aA (tT s x x_2&&tT s x_1 x_2) λe=>x_1<x_2/\x_2<=B.length->(G<B.length->(ix C B.length/\ix G B.length/\Z.length=Z.length/\Z.length<=1000000/\(b=true->aH H/\G+1=Q/\cV X=cV W/\x_1<x_2+1/\x_2+1<=B.length/\B.length-D<B.length-x_2)/\
          (b=false->ix I B.length/\ix G B.length/\Z.length=Z.length/\Z.length<=1000000/\(c=true->aH H/\G+1=Q/\cV X=cV W/\x_1<x_2+1/\x_2+1<=B.length/\B.length-D<B.length-x_2)/\
           (c=false->e=true)))/\
         (∀y:Unit,e=true->ix C B.length/\ix I B.length/\ix G B.length/\(ix C B.length/\ix I B.length/\ix G B.length/\bd 1000000000 J/\bd 1000000000 L/\bd 1000000000 M/\(turn J L M<0->ix C B.length/\ix G B.length/\ix I B.length/\F=N.length/\[J,M,L] =tri J L M)/\
           (¬turn J L M<0->F=N.length/\[J,L,M] =tri J L M))/\
          (∀y_1:Unit,N.length=N.length/\N.length<=100000/\((V=3->F<=O.length/\O.length<=100000/\B.length<=100000/\(mI O B=true->(0:Nat)<O.length/\O.length<=1000/\(∀v:aFH,v∈im N->bd 10000 v)/\Fit s/\decide (ik s (kS O)=2)=kB s B T)/\
             (mI O B=false->false=kB s B T))/\
            (¬V=3->false=kB s B T))/\
           (∀y_2:Unit,(kB s B T=true->(cV X).length<=999999/\O.length<=100000/\(∀q:aD,q∈cV X->q.length<=100000)/\aH H/\G+1=Q/\gn (cV X) O=cV W/\x_1<x_2+1/\x_2+1<=B.length/\B.length-D<B.length-x_2)/\
            (kB s B T=false->aH H/\G+1=Q/\cV X=cV W/\x_1<x_2+1/\x_2+1<=B.length/\B.length-D<B.length-x_2)))))/\
        (¬G<B.length->aH (I+1)/\I+1=S/\cV X=cV (tJ s B A x E)/\x<x_1+1/\x_1+1<=B.length/\B.length-E<B.length-x_1))))/\
     (¬I<B.length->aH (C+1)/\C+1=Y/\cV U=cV (ic s B A (x+1))/\x+1<=B.length/\B.length-(x+1)<B.length-x)))/\
   (¬C<B.length->cV (ic s B A x)=tOf s/\0=eOf s)))) (by kernel_rfl) (by
  change Fit s at hp;have hl:=mw s;have hel:=L4 hp;have hdl:=PF s;have hsd:(dOf s++ao s).length<=1000000:=by rw[fM];omega
  have gL:∀x:Nat,(x:Int)<(vOf s).length->aH ((x:Int)+1):=λx h=>bV (by omega);have hno:¬eOf s=0->tOf s=[] :=λh=>by
   unfold eOf at h;split at h
   .omega
   .exact if_neg ‹_›
  have hE:∀x:Nat,¬(x:Int)<(vOf s).length->x<=(vOf s).length->¬¬eOf s=0->cV (ic s (vOf s) (tT s) x)=tOf s:=λx h1 h2 h3=>by unfold tOf;rw[if_pos (te h3),show x=(vOf s).length by omega];rfl
  have gT:∀i k:Nat,¬¬eOf s=0->i<(vOf s).length->k<(vOf s).length->il (dOf s++ao s) (aFG (vOf s) i) (aFG (vOf s) k)=tT s i k:=λi k h hi hk=>QJ (te h) hi hk;have gN:∀i j:Nat,(!il (dOf s++ao s) (aFG (vOf s) i) (aFG (vOf s) j))=true->¬¬eOf s=0->i<j->j<(vOf s).length->cV (tJ s (vOf s) (tT s) i j)=cV (tJ s (vOf s) (tT s) i (j+1)):=λi j h h0 hi hj=>by rw[gT i j h0 (by omega) hj]at h;rw[aB7 (nb' h) hi]
  have gY:∀i j k:Nat,¬(k:Int)<(vOf s).length->(!il (dOf s++ao s) (aFG (vOf s) i) (aFG (vOf s) j))=false->¬¬eOf s=0->i<j->j<k->k<=(vOf s).length->(j:Int)<(vOf s).length->cV (tK s (vOf s) (tT s) i j k)=cV (tJ s (vOf s) (tT s) i (j+1)):=λi j k hk h h0 hi hj hk2 hj2=>by rw[gT i j h0 (by omega) (by omega)]at h;rw[aBd hk (nb h) hi hk2]
  have gA:∀i j k:Nat,(!il (dOf s++ao s) (aFG (vOf s) i) (aFG (vOf s) k))=true->¬¬eOf s=0->i<j->j<k->k<(vOf s).length->cV (tK s (vOf s) (tT s) i j k)=cV (tK s (vOf s) (tT s) i j (k+1)):=λi j k h h0 hi hj hk=>by rw[gT i k h0 (by omega) hk]at h;rw[QK (by grind) hj]
  have gB:∀i j k:Nat,(!il (dOf s++ao s) (aFG (vOf s) j) (aFG (vOf s) k))=true->¬¬eOf s=0->i<j->j<k->k<(vOf s).length->cV (tK s (vOf s) (tT s) i j k)=cV (tK s (vOf s) (tT s) i j (k+1)):=λi j k h h0 hi hj hk=>by rw[gT j k h0 (by omega) hk]at h;rw[QK (by grind) hj]
  have gC:∀i j k:Nat,(!il (dOf s++ao s) (aFG (vOf s) i) (aFG (vOf s) k))=false->(!il (dOf s++ao s) (aFG (vOf s) j) (aFG (vOf s) k))=false->¬¬eOf s=0->i<j->j<k->k<(vOf s).length->(tT s i k&&tT s j k)=true:=λi j k h h1 h0 hi hj hk=>by grind
  have gD:∀a b c:aFH,(tri a b c).length=3:=λa b c=>by unfold tri;split<;>rfl
  have gR1:∀{a b c:aFH},turn a b c<0->[a,c,b] =tri a b c:=λh=>by unfold tri;rw[if_pos h]
  have gR2:∀{a b c:aFH},¬turn a b c<0->[a,b,c] =tri a b c:=λh=>by unfold tri;rw[if_neg h]
  have gM:∀a b c:aFH,(im (tri a b c)).length<=3:=λa b c=>by have:=WD (tri a b c);grind
  have gO1:∀a b c:aFH,((im (tri a b c)).length:Int)=3->mI (im (tri a b c)) (vOf s)=true->decide (ik s (kS (im (tri a b c)))=2)=kB s (vOf s) (c5 a b c):=λa b c h1 h2=>by
   have h1:(c5 a b c).length=3:=by rw[<-tM];omega
   rw[tM]at h2|-;unfold kB;grind
  have gO2:∀a b c:aFH,mI (im (tri a b c)) (vOf s)=false->false=kB s (vOf s) (c5 a b c):=λa b c h2=>by rw[tM]at h2;unfold kB;grind
  have gO3:∀a b c:aFH,¬((im (tri a b c)).length:Int)=3->false=kB s (vOf s) (c5 a b c):=λa b c h2=>by
   have h1:((c5 a b c).length==3)=false:=by rw[<-tM,beq_eq_false_iff_ne];omega
   unfold kB;grind
  have gW:∀(i j k:Nat) (v:aFH),v∈im (tri (aFG (vOf s) i) (aFG (vOf s) j) (aFG (vOf s) k))->i<(vOf s).length->j<(vOf s).length->k<(vOf s).length->bd 10000 v:=λi j k v h hi hj hk=>by
   rw[tM]at h;rcases Zp h with rfl|rfl|rfl
   .exact pF hi
   .exact pF hj
   .exact pF hk
  have gS:∀i j k:Nat,i<j->j<k->k<=(vOf s).length->(cV (tK s (vOf s) (tT s) i j k)).length<=999999:=λi j k h1 h2 h3=>cL (aBc hl (by omega) (by omega) h3) (by decide);have gI:∀i j k:Nat,kB s (vOf s) (c5 (aFG (vOf s) i) (aFG (vOf s) j) (aFG (vOf s) k))=true->(tT s i k&&tT s j k)=true->¬¬eOf s=0->i<j->j<k->(k:Int)<(vOf s).length->gn (cV (tK s (vOf s) (tT s) i j k)) (im (tri (aFG (vOf s) i) (aFG (vOf s) j) (aFG (vOf s) k)))=cV (tK s (vOf s) (tT s) i j (k+1)):=λi j k h h2 h0 hi hj hk=>by rw[QL (te h0) (by omega) (by omega) (by omega)]at h;rw[tM];exact aB6 h h2 hj
  have gX:∀i j k:Nat,kB s (vOf s) (c5 (aFG (vOf s) i) (aFG (vOf s) j) (aFG (vOf s) k))=false->¬¬eOf s=0->i<j->j<k->(k:Int)<(vOf s).length->cV (tK s (vOf s) (tT s) i j k)=cV (tK s (vOf s) (tT s) i j (k+1)):=λi j k h h0 hi hj hk=>by rw[QL (te h0) (by omega) (by omega) (by omega)]at h;rw[aBa h hj]
  with_reducible ((repeat' first|apply br|intro);all_goals repeat cases‹_/\_›)
  all_goals first|assumption|rfl|exact trivial|exact nb ‹_› |exact nb' ‹_› |omega|exact gQ (by omega)|(unfold ix;omega)|(unfold aH;omega)|exact gG _|exact cB ‹_› ‹_› |(refine cB ‹_› ?_;simp_all;done)|exact hno ‹_› |exact hE _ ‹_› ‹_› ‹_› |exact gL _ ‹_› |exact congrArg cV Zs.symm|exact congrArg cV Zr.symm|exact congrArg cV (aBe ‹_› ‹_›)|exact gN _ _ ‹_› ‹_› (by omega) (by omega)|exact gY _ _ _ ‹_› ‹_› ‹_› (by omega) ‹_› ‹_› ‹_› |exact pF (by omega)|exact pF (by omega) (by decide)|exact gA _ _ _ ‹_› ‹_› ‹_› ‹_› (by omega)|exact gB _ _ _ ‹_› ‹_› ‹_› ‹_› (by omega)|exact gC _ _ _ ‹_› ‹_› ‹_› ‹_› ‹_› (by omega)|exact(gD _ _ _).symm|exact gR1 ‹_› |exact gR2 ‹_› |(rw[gD];decide)|exact gO1 _ _ _ ‹_› ‹_› |exact gO2 _ _ _ ‹_› |exact gO3 _ _ _ ‹_› |exact gW _ _ _ _ ‹_› (by omega) (by omega) (by omega)|exact cL (gM _ _ _) (by decide)|exact gS _ _ _ ‹_› ‹_› ‹_› |exact aBb _ ‹_› |exact gI _ _ _ ‹_› ‹_› ‹_› ‹_› ‹_› ‹_› |grind|grind)
noncomputable def t22:=t20.adk k22
end
def Yr{a b:List aD}(hl:a.length=b.length)(h:∀j,j<a.length->aC a j=aC b j):a=b:=uT hl λi h1 h2=>by rw[<-kz h1,<-kz h2];exact h i h1
def kg(s:Shape):Nat->Int
 |0=>s.outer.length
 |k+1=>jV.wrap (kg s k+((aC s.holes k).length:Int))
def KW:∀{l:List Nat} {x:Nat},x∈l->x<=l.sum
 |y::l,x,h=>by
  rcases bI.1 h with rfl|h
  .simp
  .have:=KW h;simp;omega
def js(s:Shape):Bool:=decide (kg s s.holes.length<=20)&&decide ((s.holes.length:Int)<=3)
def kY(s:Shape):Prop:=s.outer.length<=1000000000000000000/\s.holes.length<=1000000000000000000/\∀r∈s.holes,r.length<=1000000000000000000
def Kq{s:Shape}(hB:kY s):∀k,k<=s.holes.length->k<=3->kg s k=(kA s k:Int)/\kg s k<=1000000000000000000*((k:Int)+1)
 |0,_,_=>by have:=hB.1;rw[EH];exact⟨rfl,by show(s.outer.length:Int)<=_;omega⟩
 |k+1,h1,h2=>by
  obtain⟨g1,g2⟩:=Kq hB k (by omega) (by omega);have h3:=hB.2.2 _ (gH (show k<s.holes.length by omega));have h4:kg s (k+1)=jV.wrap (kg s k+((aC s.holes k).length:Int)):=rfl;rw[h4,IntWalk.i64_in _ (by omega),EI (by omega)];omega
def F4{s:Shape}(hB:kY s)(h:js s=true):Fit s:=by
 unfold js at h;simp only[BI]at h;have h1:=(Kq hB s.holes.length (bZ _) (by omega)).1;rw[h1,Ku]at h;have h2:jA s<=20:=by omega
 unfold jA at h2;have h3:∀r∈aE s,r.length<=20:=λr hr=>cL (KW (bR.2 ⟨r,hr,rfl⟩)) h2;exact⟨by have:=h3 s.outer (by simp[aE]);omega,by omega,λr hr=>by have:=h3 r (by simp[aE,hr]);omega⟩
noncomputable def c25:Con:=con (ac (aL .R) (a1 (aL .R))) (λ(a,_)=>[a.length<=1000000,(∀r∈a,r.length<=100000)]) (λ(a,b)=> .bool (a==b))
def k25:c25.Okz 25:=ak t22 (λ(a,b)=>[cnt 4 5 a.length (aK λj=>aC a j=aC b j)]
  ) (λ(_,_)=>⟨_,rfl⟩) λ(a,b) hp=>aZ (aA (a==b) λA=>aA (a.length:Int) λC=>(¬C=b.length->false=A)/\
 (¬(¬C=b.length)->(0=(0:Int)/\(0:Nat)<=a.length/\aK (λj=>aC a j=aC b j) 0)/\
  (∀x:Nat,aA (x:Int) λB=>aA (!aC a x==aC b x) λD=>x<=a.length/\aK (λj=>aC a j=aC b j) x->(B<a.length->ix B a.length/\ix B b.length/\(aC a x).length<=1000000/\(D=true->false=A)/\
    (D=false->aH (B+1)/\B+1=((x+1:Nat):Int)/\x+1<=a.length/\aK (λj=>aC a j=aC b j) (x+1)/\a.length-(x+1)<a.length-x))/\
   (¬B<a.length->true=A)))) (by kernel_rfl) (by
  change a.length<=1000000/\((∀r∈a,r.length<=100000))at hp;have h0:∀x,x<a.length->(aC a x).length<=1000000:=λx h=>cL (hp.2 _ (gH h)) (by decide);have h1:¬(a.length:Int)=b.length->false=(a==b):=λh=>by grind
  have h2:∀{x},(!aC a x==aC b x)=true->false=(a==b):=λh=>by grind
  have h3:∀x:Nat,¬(x:Int)<a.length->aK (λj=>aC a j=aC b j) x->¬¬(a.length:Int)=b.length->true=(a==b):=λx h1 h2 h3=>by symm;rw[beq_iff_eq];exact Yr (by omega) λj hj=>h2 j (by omega)
  have h4:∀{x},(!aC a x==aC b x)=false->aC a x=aC b x:=λh=>by simpa using h
  with_reducible ((repeat' first|apply br|intro);all_goals repeat cases‹_/\_›)
  all_goals grind)
noncomputable def t25:=t22.adk k25
noncomputable def c16:Con:=con (a1 aSh) (λs=>[kY s]) (λs=> .bool (js s))
def k16:c16.Okz 16:=vq (oO t25.o) (raw:=λr i=>bF r 5&&bF i 7) (λs=>[lp 3 4 s.holes.length (λ_=>[]) [] (λk=>[(3,.int .i64 (kg s k))]) (λ_=>[])]
  ) (λ_=>⟨_,rfl⟩) λs hp=>aZ ((0=(0:Int)/\(s.outer.length:Int)=kg s 0/\(0:Nat)<=s.holes.length)/\
 (∀x:Nat,aA (x:Int) λA=>x<=s.holes.length->(A<s.holes.length->ix A s.holes.length/\aH (A+1)/\A+1=((x+1:Nat):Int)/\IntKind.wrap jV (kg s x+(aC s.holes x).length)=kg s (x+1)/\x+1<=s.holes.length/\s.holes.length-(x+1)<s.holes.length-x)/\
  (¬A<s.holes.length->(kg s x<=20->decide ((s.holes.length:Int)<=3)=js s)/\
   (¬kg s x<=20->false=js s)))) (by kernel_rfl) (by
  change kY s at hp;have hh:=hp.2.1;have e1:∀k:Nat,¬(k:Int)<s.holes.length->k<=s.holes.length->kg s k=kg s s.holes.length:=λk h1 h2=>by grind
  have e2:∀k:Nat,kg s k<=20->¬(k:Int)<s.holes.length->k<=s.holes.length->decide ((s.holes.length:Int)<=3)=js s:=λk h h1 h2=>by unfold js;grind
  have e3:∀k:Nat,¬kg s k<=20->¬(k:Int)<s.holes.length->k<=s.holes.length->false=js s:=λk h h1 h2=>by unfold js;grind
  with_reducible ((repeat' first|apply br|intro);all_goals repeat cases‹_/\_›)
  all_goals first|rfl|exact e2 _ ‹_› ‹_› ‹_› |grind)
noncomputable def t16:=t25.adk k16
noncomputable def aED:Con:=con (a1 aI) (λ_=>[]) (λ_=> .bool false
 )
def aC8:aED.Okz 183:=ak t16 bX (λ_=>⟨_,rfl⟩) λx _=>aZ (decide (¬x=x)=false) (by kernel_rfl) (by grind)
noncomputable def RH:=t16.adk aC8
noncomputable def aFf:Con:=con (ac aI (a1 aI)) (λ(_,_)=>[]) (λ(x,y)=> .iqz (aFK x y)
 )
def aDI:aFf.Okz 137:=ak RH (λ(_,_)=>[]) (λ(_,_)=>⟨_,rfl⟩) λ(x,y) _=>aZ ((false=true->(false=true->0=aFK x y)/\
  (false=false-> -1=aFK x y))/\
 (false=false->(false=true->1=aFK x y)/\
  (false=false->(x<y-> -1=aFK x y)/\
   (¬x<y->(y<x->1=aFK x y)/\
    (¬y<x->0=aFK x y))))) (by kernel_rfl) (by
  unfold aFK;grind)
noncomputable def R5:=RH.adk aDI
def orU(l:List Int)(k:Nat):Prop:=∀j,j<k->cu l j=0
def orL:List Int->Int
 |[] =>0
 |x::l=>if x=0 then orL l else x
def Pg:∀{l:List Int} {k:Nat},¬cu l k=0->orU l k->k<l.length->cu l k=orL l
 |[],k,_,_,h=>by simp at h
 |x::l,0,h,_,_=>by
  have h:¬x=0:=h;show x=orL (x::l);unfold orL;rw[if_neg h]
 |x::l,k+1,h,h2,h3=>by
  have h0:x=0:=h2 0 (by omega);show cu l k=orL (x::l);unfold orL;rw[if_pos h0];exact Pg h (λj hj=>h2 (j+1) (by omega)) (by grind)
def Oa:∀{l:List Int},orU l l.length->0=orL l
 |[],_=>rfl
 |x::l,h=>by
  have h0:x=0:=h 0 (by simp);unfold orL;rw[if_pos h0];exact Oa λj hj=>h (j+1) (by grind)
noncomputable def aE6:Con:=con (a1 (aL .I)) (λl=>[l.length<=1000]) (λl=> .iqz (orL l))
def aDz:aE6.Okz 147:=ak R5 (λl=>[cnt 3 8 l.length (orU l)]
  ) (λ_=>⟨_,rfl⟩) λl hp=>aZ ((0=(0:Int)/\(0:Nat)<=l.length/\orU l 0)/\
 (∀x:Nat,aA (x:Int) λA=>x<=l.length/\orU l x->(A<l.length->ix A l.length/\(¬cu l x=0->cu l x=orL l)/\
   (¬(¬cu l x=0)->aH (A+1)/\A+1=((x+1:Nat):Int)/\x+1<=l.length/\orU l (x+1)/\l.length-(x+1)<l.length-x))/\
  (¬A<l.length->0=orL l))) (by kernel_rfl) (by
  change l.length<=1000 at hp
  with_reducible ((repeat' first|apply br|intro);all_goals repeat cases‹_/\_›)
  all_goals first|assumption|rfl|exact trivial|exact nb ‹_› |exact nb' ‹_› |omega|exact gQ (by omega)|(unfold ix;omega)|(unfold aH;omega)|exact gG _|exact cB ‹_› ‹_› |(refine cB ‹_› ?_;simp_all;done)|exact Pg ‹_› ‹_› (by omega)|(obtain rfl:_=l.length:=ui ‹_› (by omega);exact Oa ‹_›)|(refine cB ‹_› ?_;exact sk ‹¬¬_›)|grind)
noncomputable def Rr:=R5.adk aDz
noncomputable def c78:Con:=con (ac aV (a1 aV)) (λ(_,_)=>[]) (λ(a,b)=> .iqz (bq a b)
 )
def k78:c78.Okz 77:=ak Rr (λ(_,_)=>[]) (λ(_,_)=>⟨_,rfl⟩) λ(a,b) _=>aZ ([aFK a.y b.y,aFK a.x b.x].length<=1000/\orL [aFK a.y b.y,aFK a.x b.x] =bq a b) (by kernel_rfl) (by refine⟨by simp,?_⟩;unfold bq;simp only[orL];grind)
noncomputable def t78:=Rr.adk k78
noncomputable def aEm:Con:=con (ac aV (a1 aV)) (λ(_,_)=>[]) (λ(a,b)=> .bool (bf a b)
 )
def aCR:aEm.Okz 219:=ak t78 (λ(_,_)=>[]) (λ(_,_)=>⟨_,rfl⟩) λ(a,b) _=>aZ (decide (bq a b<0)=bf a b) (by kernel_rfl) (by unfold bf bq aFK;grind)
noncomputable def Q0:=t78.adk aCR
noncomputable def aFu:Con:=con (ac aV (a1 aV)) (λ(a,b)=>[bd 2000000000 a,bd 2000000000 b]) (λ(a,b)=> .iqz (cross a b)
 )
def aDY:aFu.Okz 120:=ak Q0 (λ(_,_)=>[]) (λ(_,_)=>⟨_,rfl⟩) λ(a,b) hp=>aZ (aH (a.x*b.y)/\aH (a.y*b.x)/\aH (a.x*b.y-a.y*b.x)/\a.x*b.y-a.y*b.x=cross a b) (by kernel_rfl) (by change bd 2000000000 a/\bd 2000000000 b at hp;have:=nZ hp.1 hp.2;exact⟨bV (by omega),bV (by omega),bV (by omega),rfl⟩)
noncomputable def SL:=Q0.adk aDY
noncomputable def aFe:Con:=con (ac aV (a1 aV)) (λ(a,b)=>[bd 1000000000 a,bd 1000000000 b]) (λ(a,b)=>aV.enc (aFJ a b)
 )
def aDH:aFe.Okz 138:=ak SL (λ(_,_)=>[]) (λ(_,_)=>⟨_,rfl⟩) λ(a,b) hp=>aZ (aH (a.x-b.x)/\aH (a.y-b.y)/\a.x-b.x=(aFJ a b).x/\a.y-b.y=(aFJ a b).y) (by kernel_rfl) (by change bd 1000000000 a/\bd 1000000000 b at hp;unfold bd at hp;exact⟨bV (by omega),bV (by omega),rfl,rfl⟩)
noncomputable def R4:=SL.adk aDH
noncomputable def c63:Con:=con (ac aV (ac aV (a1 aV))) (λ(a,b,c)=>[bd 1000000000 a,bd 1000000000 b,bd 1000000000 c]) (λ(a,b,c)=> .iqz (turn a b c)
 )
def k63:c63.Okz 64:=ak R4 (λ(_,_,_)=>[]) (λ(_,_,_)=>⟨_,rfl⟩) λ(a,b,c) hp=>aZ (bd 1000000000 b/\bd 1000000000 a/\bd 1000000000 c/\bd 1000000000 a/\bd 2000000000 (aFJ b a)/\bd 2000000000 (aFJ c a)/\aFK (cross (aFJ b a) (aFJ c a)) 0=turn a b c) (by kernel_rfl) (by
 change bd 1000000000 a/\bd 1000000000 b/\bd 1000000000 c at hp;have e:∀n,aFK n 0=sgn n:=λn=>by unfold aFK sgn;grind
 exact⟨hp.2.1,hp.1,hp.2.2,hp.1,jD hp.2.1 hp.1,jD hp.2.2 hp.1,e _⟩)
noncomputable def t63:=R4.adk k63
noncomputable def aFd:Con:=con (ac aV (a1 aI)) (λ(_,m)=>[0<=m,m<=9000000000000000000]) (λ(a,m)=> .bool (aX a m)
 )
def aDG:aFd.Okz 139:=ak t63 (λ(_,_)=>[]) (λ(_,_)=>⟨_,rfl⟩) λ(a,m) hp=>aZ (aH (0-m)/\(0-m<=a.x->(a.x<=m->aH (0-m)/\(0-m<=a.y->decide (a.y<=m)=aX a m)/\
   (¬0-m<=a.y->false=aX a m))/\
  (¬a.x<=m->false=aX a m))/\
 (¬0-m<=a.x->false=aX a m)) (by kernel_rfl) (by change 0<=m/\m<=9000000000000000000 at hp;unfold aX;have:= @aH;grind[aH])
noncomputable def R3:=t63.adk aDG
noncomputable def aFb:Con:=con (a1 aV) (λ_=>[]) (λa=>aT.enc (dq a)
 )
def aDE:aFb.Okz 141:=ak R3 bX (λ_=>⟨_,rfl⟩) λa _=>aZ (aA (dq a) λA=>a.x=A.x/\a.y=A.y/\1=A.den) (by kernel_rfl) (by exact⟨rfl,rfl,rfl⟩)
noncomputable def Rz:=R3.adk aDE
def qy(b:S)(p:V):Bool:=decide (b.a.x<=p.x)&&decide (p.x<=b.b.x)&&decide (b.a.y<=p.y)&&decide (p.y<=b.b.y)
def bU(l:List V):Nat->S
 |0=>⟨aFG l 0,aFG l 0⟩
 |k+1=>⟨⟨min (bU l k).a.x (aFG l k).x,min (bU l k).a.y (aFG l k).y⟩,⟨max (bU l k).b.x (aFG l k).x,max (bU l k).b.y (aFG l k).y⟩⟩
noncomputable def aEh:Con:=con (ac aS (a1 aV)) (λ(_,_)=>[]) (λ(b,p)=> .bool (qy b p)
 )
def aCN:aEh.Okz 227:=ak Rz (λ(_,_)=>[]) (λ(_,_)=>⟨_,rfl⟩) λ(b,p) _=>aZ ((b.a.x<=p.x->(p.x<=b.b.x->(b.a.y<=p.y->decide (p.y<=b.b.y)=qy b p)/\
   (¬b.a.y<=p.y->false=qy b p))/\
  (¬p.x<=b.b.x->false=qy b p))/\
 (¬b.a.x<=p.x->false=qy b p)) (by kernel_rfl) (by unfold qy;grind)
noncomputable def Qx:=Rz.adk aCN
noncomputable def aEi:Con:=con (a1 (aL .V)) (λl=>[l.length<=1000]) (λl=> .tup [aS.enc (bU l l.length),.bool (decide (0<l.length))])
def aCO:aEi.Okz 226:=ak Qx (λl=>[lp 5 19 l.length bX [] bX (λk=>[(12,.box 196 [.iqz (bU l k).a.x,.iqz (bU l k).a.y,.iqz (bU l k).b.x,.iqz (bU l k).b.y])])]
  ) (λ_=>⟨_,rfl⟩) λl hp=>aZ (aA (bU l 0) λC=>aA (0:Nat) λF=>aA (aFG l 0) λG=>aA (bU l l.length) λI=>aA (l.length:Int) λJ=>(J=0->0=I.a.x/\0=I.a.y/\0=I.b.x/\0=I.b.y/\false=decide (F<l.length))/\
 (¬J=0->ix 0 l.length/\ix 0 l.length/\(0=(0:Int)/\G.x=C.a.x/\G.y=C.a.y/\G.x=C.b.x/\G.y=C.b.y/\F<=l.length)/\
  (∀x:Nat,aA (bU l x) λB=>aA (bU l (x+1)) λD=>aA (x:Int) λE=>aA (aFG l x) λH=>x<=l.length->(E<l.length->ix E l.length/\ix E l.length/\ix E l.length/\ix E l.length/\aH (E+1)/\E+1=((x+1:Nat):Int)/\Min.min B.a.x H.x=D.a.x/\Min.min B.a.y H.y=D.a.y/\Max.max B.b.x H.x=D.b.x/\Max.max B.b.y H.y=D.b.y/\x+1<=l.length/\l.length-(x+1)<l.length-x)/\
   (¬E<l.length->B.a.x=I.a.x/\B.a.y=I.a.y/\B.b.x=I.b.x/\B.b.y=I.b.y/\true=decide (F<l.length))))) (by kernel_rfl) (by
  change l.length<=1000 at hp;have eU:∀x:Nat,¬(x:Int)<l.length->x<=l.length->bU l x=bU l l.length:=λx h1 h2=>by grind
  with_reducible ((repeat' first|apply br|intro);all_goals repeat cases‹_/\_›)
  all_goals first|rfl|(have h0:l=[] :=List.length_eq_zero_iff.1 (by omega);subst h0;rfl)|(rw[eU _ ‹_› ‹_›])|(symm;rw[decide_eq_false_iff_not];omega)|grind)
noncomputable def Qy:=Qx.adk aCO
noncomputable def aEs:Con:=con (ac aI (a1 aI)) (λ(a,b)=>[-9000000000000000000<=a,a<=9000000000000000000,-9000000000000000000<=b,b<=9000000000000000000]) (λ(a,b)=> .iqz ((bB a.natAbs b.natAbs:Nat):Int))
def aCX:aEs.Okz 208:=ak Qy (λ(a,b)=>[(1,.mk (Int×Int) (λF _=>IP F 0 1) [] (λp=>[p.1.natAbs<=9000000000000000000,p.2.natAbs<=9000000000000000000,bB p.1.natAbs p.2.natAbs=bB a.natAbs b.natAbs]) (λp=>[(0,.iqz p.1),(1,.iqz p.2)]) bX (λp=>p.2.natAbs) bX)]
  ) (λ(_,_)=>⟨_,rfl⟩) λ(a,b) hp=>aZ (aA (cM a) λA=>aA (cM b) λB=>(a=a/\b=b/\cM a<=9000000000000000000/\cM b<=9000000000000000000/\bB A B=bB A B)/\
 (∀x:Prod Int Int,aA (cZ x.1 x.2) λC=>cM x.1<=9000000000000000000/\cM x.2<=9000000000000000000/\bB (cM x.1) (cM x.2)=bB A B->(¬x.2=0->x.2≠0/\x.2=x.2/\cZ x.1 x.2=cZ x.1 x.2/\cM x.snd<=9000000000000000000/\cM C<=9000000000000000000/\bB (cM x.snd) (cM C)=bB A B/\cM C<cM x.2)/\
  (¬(¬x.2=0)->aH (0-x.1)/\Max.max x.1 (0-x.1)=bB A B))) (by kernel_rfl) (by
  change-9000000000000000000<=a/\a<=9000000000000000000/\ -9000000000000000000<=b/\b<=9000000000000000000 at hp;have e1:∀x y:Int,bB y.natAbs (cZ x y).natAbs=bB x.natAbs y.natAbs:=λx y=>by rw[zl,zm,<-Nat.gcd_rec,zm]
  have e2:∀x y:Int,¬y=0->(cZ x y).natAbs<y.natAbs:=λx y h=>by rw[zl];exact bz _ (by omega)
  have e3:∀(x y:Int) (g:Nat),bB x.natAbs y.natAbs=g->¬¬y=0->max x (0-x)=(g:Int):=λx y g h h2=>by rw[sk h2]at h;grind
  repeat' first|with_reducible apply br|with_reducible intro
  all_goals repeat with_reducible cases‹_/\_›
  all_goals first|rfl|with_reducible solve_by_elim|(rw[e1];assumption)|exact trivial|exact nb ‹_› |exact nb' ‹_› |omega|exact gQ (by omega)|(unfold ix;omega)|(unfold aH;omega)|exact gG _|exact cB ‹_› ‹_› |(refine cB ‹_› ?_;simp_all;done)|grind|grind)
noncomputable def Q7:=Qy.adk aCX
noncomputable def aEt:Con:=con (ac aT (a1 aI)) (λ(_,m)=>[0<=m,m<=1000000]) (λ(p,m)=> .bool (ii p m)
 )
def aCY:aEt.Okz 207:=ak Q7 (λ(_,_)=>[]) (λ(_,_)=>⟨_,rfl⟩) λ(p,m) hp=>aZ ((p.den<1->false=ii p m)/\
 (¬p.den<1->(134217728<p.den->false=ii p m)/\
  (¬134217728<p.den->aH (m*p.den)/\0<=m*p.den/\m*p.den<=9000000000000000000/\aX ⟨p.x,p.y⟩ (m*p.den)=ii p m))) (by kernel_rfl) (by
  change 0<=m/\m<=1000000 at hp;unfold ii;have hm:¬p.den<1->¬134217728<p.den->aH (m*p.den)/\0<=m*p.den/\m*p.den<=9000000000000000000:=λh1 h2=>by have:=iI (x:=m) (y:=p.den) (A:=1000000) (B:=134217728) (by omega) (by omega);exact⟨bV (by omega),cJ hp.1 (by omega),by omega⟩
  grind)
noncomputable def Q8:=Q7.adk aCY
noncomputable def aEC:Con:=con (a1 aT) (λ_=>[]) (λp=> .bool (cn p)
 )
def aC7:aEC.Okz 184:=ak Q8 bX (λ_=>⟨_,rfl⟩) λp _=>aZ (aA (bB (cM p.x) (cM p.y):Int) λC=>(0:Int)<=4000/\(4000:Int)<=1000000/\(ii p 4000=true-> -9000000000000000000<=p.x/\p.x<=9000000000000000000/\ -9000000000000000000<=p.y/\p.y<=9000000000000000000/\ -9000000000000000000<=C/\C<=9000000000000000000/\ -9000000000000000000<=p.den/\p.den<=9000000000000000000/\decide ((bB (cM C) (cM p.den):Int)=1)=cn p)/\
 (ii p 4000=false->false=cn p)) (by kernel_rfl) (by
  have hB:ii p 4000=true->PtB p:=λh=>by unfold ii aX at h;simp only[bj,decide_eq_true_eq]at h;unfold PtB;omega
  have hn:∀n m B:Nat,n<=B->m<=B->bB n m<=B:=λn m B h1 h2=>by
   rcases qz n with e|e
   .grind
   .exact cL (Nat.gcd_le_left m e) h1
  have hg:PtB p->bB p.x.natAbs p.y.natAbs<=600000000000:=λh=>hn _ _ _ (by unfold PtB at h;omega) (by unfold PtB at h;omega);have ht:ii p 4000=true->decide ((bB (cM (bB (cM p.x) (cM p.y):Int)) (cM p.den):Int)=1)=cn p:=λh=>by unfold cn;grind
  with_reducible ((repeat' first|apply br|intro);all_goals repeat cases‹_/\_›)
  all_goals first|rfl|exact ht ‹_› |(have h1:=hB ‹_›;have h2:=hg h1;unfold PtB at h1;omega)|(unfold cn;grind)|grind)
noncomputable def RG:=Q8.adk aC7
noncomputable def aEq:Con:=con (a1 aS) (λ_=>[]) (λs=> .bool (bD s)
 )
def aCV:aEq.Okz 215:=ak RG bX (λ_=>⟨_,rfl⟩) λs _=>aZ ((0:Int)<=4000/\(4000:Int)<=9000000000000000000/\(aX s.a 4000=true->(0:Int)<=4000/\(4000:Int)<=9000000000000000000/\aX s.b 4000=bD s)/\
 (aX s.a 4000=false->false=bD s)) (by kernel_rfl) (by unfold bD;grind)
noncomputable def Q5:=RG.adk aCV
noncomputable def aEo:Con:=con (ac aS (a1 aV)) (λ(_,_)=>[]) (λ(s,p)=> .bool (onS s p)
 )
def aCT:aEo.Okz 217:=ak Q5 (λ(_,_)=>[]) (λ(_,_)=>⟨_,rfl⟩) λ(s,p) _=>aZ ([s.a,s.b].length<=1000/\(bD s=true->(qy (bU [s.a,s.b] [s.a,s.b].length) p=true->bd 1000000000 s.a/\bd 1000000000 s.b/\bd 1000000000 p/\decide (turn s.a s.b p=0)=onS s p)/\
  (qy (bU [s.a,s.b] [s.a,s.b].length) p=false->false=onS s p))/\
 (bD s=false->false=onS s p)) (by kernel_rfl) (by
  have e0:qy (bU [s.a,s.b] [s.a,s.b].length) p=fW s p:=by show(decide (min (min s.a.x s.a.x) s.b.x<=p.x)&&decide (p.x<=max (max s.a.x s.a.x) s.b.x)&&decide (min (min s.a.y s.a.y) s.b.y<=p.y)&&decide (p.y<=max (max s.a.y s.a.y) s.b.y))=_;rw[Int.min_self,Int.min_self,Int.max_self,Int.max_self];rfl
  rw[e0];have hv:∀{M:Int},bD s=true->4000<=M->bd M s.a/\bd M s.b:=λh hM=>oA (by rw[h];rfl) hM;refine⟨by simp,λh=>⟨λh2=>⟨(hv h (by decide)).1,(hv h (by decide)).2,Ps (hv h (by decide)) h2,?_⟩,λh2=>by unfold onS;rw[h2];simp⟩,λh=>by unfold onS;rw[h];rfl⟩;unfold onS;grind)
noncomputable def Q2:=Q5.adk aCT
noncomputable def aEn:Con:=con (a1 aV) (λ_=>[]) (λp=> .agg [.iqz 1,.iqz p.x,.iqz p.y,.iqz 1,.iqz 0,.iqz 0,.iqz 0,.iqz 0]
 )
def aCS:aEn.Okz 218:=ak Q2 bX (λ_=>⟨_,rfl⟩) λp _=>aZ (aA (0:Int) λA=>aA (dq p) λB=>(1:Int)=1/\B.x=p.x/\B.y=p.y/\B.den=1/\A=0/\A=0/\A=0/\A=0) (by kernel_rfl) (by
 with_reducible ((repeat' first|apply br|intro);all_goals repeat cases‹_/\_›)
 all_goals first|rfl|grind)
noncomputable def Q1:=Q2.adk aCS
structure Com where
 k:Int
 p:Pt
 s:S
def Sw(c:Com):SV:= .agg [.int .i64 c.k,.int .i64 c.p.x,.int .i64 c.p.y,.int .i64 c.p.den,.int .i64 c.s.a.x,.int .i64 c.s.a.y,.int .i64 c.s.b.x,.int .i64 c.s.b.y]
def cz:Com:=⟨0,⟨0,0,0⟩,⟨⟨0,0⟩,⟨0,0⟩⟩⟩
def lA(s t:S)(d:Int):Int:=if d<0 then-cross (aFJ t.a s.a) (aFJ t.b t.a)else cross (aFJ t.a s.a) (aFJ t.b t.a)
def lB(s t:S)(d:Int):Int:=if d<0 then-cross (aFJ t.a s.a) (aFJ s.b s.a)else cross (aFJ t.a s.a) (aFJ s.b s.a)
def lE(d:Int):Int:=if d<0 then-d else d
def lX(s t:S)(d:Int):Int:=s.a.x*lE d+lA s t d*(aFJ s.b s.a).x
def lY(s t:S)(d:Int):Int:=s.a.y*lE d+lA s t d*(aFJ s.b s.a).y
def lG(s t:S)(d:Int):Int:=((bB (bB (lX s t d).natAbs (lY s t d).natAbs:Int).natAbs (lE d).natAbs:Nat):Int)
def j7(s t:S)(d:Int):Com:=if pI s t d=0 then cz else⟨pI s t d,⟨(lX s t d).tdiv (lG s t d),(lY s t d).tdiv (lG s t d),(lE d).tdiv (lG s t d)⟩,cz.s⟩
def jO(key:Nat)(obs:List (Nat×SOb)):Nat×Ann:=(key+10000,.mk Unit (λ_ _=>some ()) [] (λ_=>[]) (λ_=>[]) (λ_=>obs) (λ_=>0) (λ_=>[]))
def aEe(c:Com):List SV:=[.int .i64 c.k,.int .i64 c.p.x,.int .i64 c.p.y,.int .i64 c.p.den,.int .i64 c.s.a.x,.int .i64 c.s.a.y,.int .i64 c.s.b.x,.int .i64 c.s.b.y]
def qF{x g B:Int}(h: -B<=x/\x<=B): -B<=x.tdiv g/\x.tdiv g<=B:=by have:=Int.natAbs_tdiv_le_natAbs x g;omega
def aBN{n m B:Nat}(h1:n<=B)(h2:m<=B):bB n m<=B:=by
 rcases qz n with e|e
 .grind
 .exact cL (Nat.gcd_le_left m e) h1
def A7{s t:S}{d:Int}(h:lA s t d<0\/lE d<lA s t d\/lB s t d<0\/lE d<lB s t d):j7 s t d=cz:=if_pos (if_pos h)
def Kd{s t:S}{d:Int}(h1:¬lA s t d<0)(h2:¬lE d<lA s t d)(h3:¬lB s t d<0)(h4:¬lE d<lB s t d):pI s t d=if lA s t d=0\/lA s t d=lE d\/lB s t d=0\/lB s t d=lE d then 1 else 2:=if_neg (by simp only[not_or];exact⟨h1,h2,h3,h4⟩)
def Ke{s t:S}{d k:Int}(h:pI s t d=k)(hk:k≠0):j7 s t d=⟨k,⟨(lX s t d).tdiv (lG s t d),(lY s t d).tdiv (lG s t d),(lE d).tdiv (lG s t d)⟩,cz.s⟩:=by unfold j7;grind
noncomputable def aEp:Con:=con (ac aS (ac aS (a1 aI))) (λ(s,t,d)=>[bD s=true,bD t=true,d≠0,-200000000<=d/\d<=200000000]) (λ(s,t,d)=>Sw (j7 s t d))
def aCU:aEp.Okz 216:=ak Q1 (λ(s,t,d)=>[jU 6 [(10,.iqz (lA s t d)),(11,.iqz (lB s t d)),(2,.iqz (lE d))],(9+10000,.mk Unit (λ_ _=>some ()) [] (λ_=>[¬lA s t d<0,¬lE d<lA s t d,¬lB s t d<0,¬lE d<lB s t d]) (λ_=>[(12,.iqz (lX s t d)),(13,.iqz (lY s t d))]) bX (λ_=>0) bX),
  jU 10 [(14,.iqz (lG s t d))],jO 13 [(59,.box 175 (aEe (j7 s t d)))]]
  ) (λ(_,_,_)=>⟨_,rfl⟩) λ(s,t,d) hp=>aZ (aA (lE d) λA=>aA (lG s t d) λB=>aA (lX s t d) λC=>aA (lY s t d) λD=>aA (j7 s t d) λE=>aA (aFJ s.b s.a) λH=>aA (aFJ t.a s.a) λI=>aA (aFJ t.b t.a) λJ=>aA (bB (cM C) (cM D):Int) λK=>bd 1000000000 s.b/\bd 1000000000 s.a/\bd 1000000000 t.b/\bd 1000000000 t.a/\bd 1000000000 t.a/\bd 1000000000 s.a/\bd 2000000000 I/\bd 2000000000 J/\bd 2000000000 I/\bd 2000000000 H/\((d<0->aH (0-cross I J)/\aH (0-cross I H)/\aH (0-d)/\0-cross I J=lA s t d/\0-cross I H=lB s t d/\0-d=lE d)/\
  (¬d<0->cross I J=lA s t d/\cross I H=lB s t d/\d=lE d))/\
 (∀y:Unit,(lA s t d<0->0=E.k/\0=E.p.x/\0=E.p.y/\0=E.p.den/\0=E.s.a.x/\0=E.s.a.y/\0=E.s.b.x/\0=E.s.b.y)/\
  (¬lA s t d<0->(lE d<lA s t d->0=E.k/\0=E.p.x/\0=E.p.y/\0=E.p.den/\0=E.s.a.x/\0=E.s.a.y/\0=E.s.b.x/\0=E.s.b.y)/\
   (¬lE d<lA s t d->(lB s t d<0->0=E.k/\0=E.p.x/\0=E.p.y/\0=E.p.den/\0=E.s.a.x/\0=E.s.a.y/\0=E.s.b.x/\0=E.s.b.y)/\
    (¬lB s t d<0->(lE d<lB s t d->0=E.k/\0=E.p.x/\0=E.p.y/\0=E.p.den/\0=E.s.a.x/\0=E.s.a.y/\0=E.s.b.x/\0=E.s.b.y)/\
     (¬lE d<lB s t d->(aH (s.a.x*lE d)/\aH (lA s t d*H.x)/\aH (s.a.x*lE d+lA s t d*H.x)/\aH (s.a.y*lE d)/\aH (lA s t d*H.y)/\aH (s.a.y*lE d+lA s t d*H.y)/\s.a.x*lE d+lA s t d*H.x=lX s t d/\s.a.y*lE d+lA s t d*H.y=lY s t d/\¬lA s t d<0/\¬lE d<lA s t d/\¬lB s t d<0/\¬lE d<lB s t d)/\
      (∀y_1:Unit,¬lA s t d<0/\¬lE d<lA s t d/\¬lB s t d<0/\¬lE d<lB s t d->(-9000000000000000000<=lX s t d/\lX s t d<=9000000000000000000/\ -9000000000000000000<=lY s t d/\lY s t d<=9000000000000000000/\ -9000000000000000000<=K/\K<=9000000000000000000/\ -9000000000000000000<=lE d/\lE d<=9000000000000000000/\(bB (cM K) (cM A):Int)=lG s t d)/\
       (∀y_2:Unit,lG s t d≠0/\aH (eK C B)/\lG s t d≠0/\aH (eK D B)/\lG s t d≠0/\aH (eK A B)/\((lA s t d=0->1=E.k/\eK C B=E.p.x/\eK D B=E.p.y/\eK A B=E.p.den/\0=E.s.a.x/\0=E.s.a.y/\0=E.s.b.x/\0=E.s.b.y)/\
         (¬lA s t d=0->(lA s t d=lE d->1=E.k/\eK C B=E.p.x/\eK D B=E.p.y/\eK A B=E.p.den/\0=E.s.a.x/\0=E.s.a.y/\0=E.s.b.x/\0=E.s.b.y)/\
          (¬lA s t d=lE d->(lB s t d=0->1=E.k/\eK C B=E.p.x/\eK D B=E.p.y/\eK A B=E.p.den/\0=E.s.a.x/\0=E.s.a.y/\0=E.s.b.x/\0=E.s.b.y)/\
           (¬lB s t d=0->(lB s t d=lE d->1=E.k/\eK C B=E.p.x/\eK D B=E.p.y/\eK A B=E.p.den/\0=E.s.a.x/\0=E.s.a.y/\0=E.s.b.x/\0=E.s.b.y)/\
            (¬lB s t d=lE d->2=E.k/\eK C B=E.p.x/\eK D B=E.p.y/\eK A B=E.p.den/\0=E.s.a.x/\0=E.s.a.y/\0=E.s.b.x/\0=E.s.b.y)))))/\
        (∀y_3:Unit,E.k=E.k/\E.p.x=E.p.x/\E.p.y=E.p.y/\E.p.den=E.p.den/\E.s.a.x=E.s.a.x/\E.s.a.y=E.s.a.y/\E.s.b.x=E.s.b.x/\E.s.b.y=E.s.b.y))))))))) (by kernel_rfl) (by
  change bD s=true/\bD t=true/\d≠0/\(-200000000<=d/\d<=200000000)at hp;obtain⟨hs,ht,h0,hd⟩:=hp;have bs:bd 4000 s.a/\bd 4000 s.b:=oA (by rw[hs];rfl);have bt:bd 4000 t.a/\bd 4000 t.b:=oA (by rw[ht];rfl);have u1:=jD bs.2 bs.1;have u2:=jD bt.2 bt.1;have u3:=jD bt.1 bs.1;have c1:=nZ u3 u2;have c2:=nZ u3 u1;have gM:∀{M:Int} {v:V},16000<=M->bd 4000 v->bd M v:=λh1 h2=>by unfold bd at*;omega
  have gN:∀{M:Int} {v:V},16000<=M->bd (4000+4000) v->bd M v:=λh1 h2=>by unfold bd at*;omega
  have a1: -128000000<=lA s t d/\lA s t d<=128000000:=by unfold lA cross;split<;>omega
  have e1: -200000000<=lE d/\lE d<=200000000:=by unfold lE;split<;>omega
  have e2:lE d≠0:=by unfold lE;split<;>omega
  have k1:aH (0-cross (aFJ t.a s.a) (aFJ t.b t.a)):=bV (by unfold cross;omega);have k2:aH (0-cross (aFJ t.a s.a) (aFJ s.b s.a)):=bV (by unfold cross;omega);have x1:=iI (A:=4000) (B:=200000000) bs.1.1 e1;have x2:=iI (A:=128000000) (B:=8000) a1 u1.1;have y1:=iI (A:=4000) (B:=200000000) bs.1.2 e1;have y2:=iI (A:=128000000) (B:=8000) a1 u1.2;have xB: -2000000000000<=lX s t d/\lX s t d<=2000000000000:=by unfold lX;omega
  have yB: -2000000000000<=lY s t d/\lY s t d<=2000000000000:=by unfold lY;omega
  have g1:bB (lX s t d).natAbs (lY s t d).natAbs<=2000000000000:=aBN (by omega) (by omega);have g2:lG s t d≠0:=by unfold lG;have:=Nat.gcd_pos_of_pos_right (bB (lX s t d).natAbs (lY s t d).natAbs:Int).natAbs (show 0<(lE d).natAbs by omega);omega
  have q1:=qF (g:=lG s t d) xB;have q2:=qF (g:=lG s t d) yB;have q3:=qF (g:=lG s t d) e1;have r1:aH (s.a.x*lE d):=bV (by omega);have r2:aH (lA s t d*(aFJ s.b s.a).x):=bV (by omega);have r3:aH (s.a.x*lE d+lA s t d*(aFJ s.b s.a).x):=bV (by omega);have r4:aH (s.a.y*lE d):=bV (by omega);have r5:aH (lA s t d*(aFJ s.b s.a).y):=bV (by omega);have r6:aH (s.a.y*lE d+lA s t d*(aFJ s.b s.a).y):=bV (by omega);have r7:aH ((lX s t d).tdiv (lG s t d)):=bV (by omega);have r8:aH ((lY s t d).tdiv (lG s t d)):=bV (by omega);have r9:aH ((lE d).tdiv (lG s t d)):=bV (by omega);have r10:aH (0-d):=bV (by omega);have f1:d<0->0-cross (aFJ t.a s.a) (aFJ t.b t.a)=lA s t d:=λh=>by unfold lA;omega
  have f2:d<0->0-cross (aFJ t.a s.a) (aFJ s.b s.a)=lB s t d:=λh=>by unfold lB;omega
  have f3:d<0->0-d=lE d:=λh=>by unfold lE;omega
  have f4:¬d<0->cross (aFJ t.a s.a) (aFJ t.b t.a)=lA s t d:=λh=>by unfold lA;rw[if_neg h]
  have f5:¬d<0->cross (aFJ t.a s.a) (aFJ s.b s.a)=lB s t d:=λh=>by unfold lB;rw[if_neg h]
  have f6:¬d<0->d=lE d:=λh=>by unfold lE;rw[if_neg h]
  have n1:lA s t d<0->j7 s t d=cz:=λh=>A7 (.inl h);have n2:lE d<lA s t d->j7 s t d=cz:=λh=>A7 (.inr (.inl h));have n3:lB s t d<0->j7 s t d=cz:=λh=>A7 (.inr (.inr (.inl h)));have n4:lE d<lB s t d->j7 s t d=cz:=λh=>A7 (.inr (.inr (.inr h)));have t0:¬lA s t d<0->¬lE d<lA s t d->¬lB s t d<0->¬lE d<lB s t d->lA s t d=0\/lA s t d=lE d\/lB s t d=0\/lB s t d=lE d->j7 s t d=⟨1,⟨(lX s t d).tdiv (lG s t d),(lY s t d).tdiv (lG s t d),(lE d).tdiv (lG s t d)⟩,cz.s⟩:=λh1 h2 h3 h4 h=>Ke (by rw[Kd h1 h2 h3 h4,if_pos h]) (by decide);have t1:¬lA s t d<0->¬lE d<lA s t d->¬lB s t d<0->¬lE d<lB s t d->¬(lA s t d=0\/lA s t d=lE d\/lB s t d=0\/lB s t d=lE d)->j7 s t d=⟨2,⟨(lX s t d).tdiv (lG s t d),(lY s t d).tdiv (lG s t d),(lE d).tdiv (lG s t d)⟩,cz.s⟩:=λh1 h2 h3 h4 h=>Ke (by rw[Kd h1 h2 h3 h4,if_neg h]) (by decide);have b1:=gM (M:=1000000000) (by decide) bs.1;have b2:=gM (M:=1000000000) (by decide) bs.2;have b3:=gM (M:=1000000000) (by decide) bt.1;have b4:=gM (M:=1000000000) (by decide) bt.2;have b5:=gN (M:=2000000000) (by decide) u1;have b6:=gN (M:=2000000000) (by decide) u2;have b7:=gN (M:=2000000000) (by decide) u3;have hX: -9000000000000000000<=lX s t d/\lX s t d<=9000000000000000000:=by omega
  have hY: -9000000000000000000<=lY s t d/\lY s t d<=9000000000000000000:=by omega
  have hE: -9000000000000000000<=lE d/\lE d<=9000000000000000000:=by omega
  have hG1: -9000000000000000000<=((bB (lX s t d).natAbs (lY s t d).natAbs:Nat):Int):=by omega
  have hG2:((bB (lX s t d).natAbs (lY s t d).natAbs:Nat):Int)<=9000000000000000000:=by omega
  clear hs ht h0 hd bs bt u1 u2 u3 c1 c2 gM gN a1 e1 e2 x1 x2 y1 y2 xB yB g1 q1 q2 q3;obtain⟨hX1,hX2⟩:=hX;obtain⟨hY1,hY2⟩:=hY;obtain⟨hE1,hE2⟩:=hE
  with_reducible ((repeat' first|apply br|intro);all_goals repeat cases‹_/\_›)
  all_goals first|assumption|rfl|exact f1 ‹_› |exact f2 ‹_› |exact f3 ‹_› |exact f4 ‹_› |exact f5 ‹_› |exact f6 ‹_› |(rw[n1 ‹_›];rfl)|(rw[n2 ‹_›];rfl)|(rw[n3 ‹_›];rfl)|(rw[n4 ‹_›];rfl)|(rw[t0 ‹_› ‹_› ‹_› ‹_› (.inl ‹_›)] <;>rfl)|(rw[t0 ‹_› ‹_› ‹_› ‹_› (.inr (.inl ‹_›))] <;>rfl)|(rw[t0 ‹_› ‹_› ‹_› ‹_› (.inr (.inr (.inl ‹_›)))] <;>rfl)|(rw[t0 ‹_› ‹_› ‹_› ‹_› (.inr (.inr (.inr ‹_›)))] <;>rfl)|(rw[t1 ‹_› ‹_› ‹_› ‹_› (λh=>h.elim ‹_› λh=>h.elim ‹_› λh=>h.elim ‹_› ‹_›)] <;>rfl))
noncomputable def Q3:=Q1.adk aCU
def v2(v:V):List SV:=[.int .i64 v.x,.int .i64 v.y]
def uJ(v:V):Com:=⟨1,dq v,cz.s⟩
def m7(s t:S):Int:=cross (aFJ s.b s.a) (aFJ t.b t.a)
def oK(s t:S):Com:=
 if bq (fB s t) (fN s t)=0 then uJ (fB s t)
 else if bq (fB s t) (fN s t)= -1 then⟨3,⟨0,0,0⟩,⟨fB s t,fN s t⟩⟩
 else cz
def mb1(s t:S):Bool:=decide (s.a=s.b)&&onS t s.a
def mb3(s t:S):Bool:=decide (s.a=s.b)||(decide (t.a=t.b)||decide (¬turn s.a s.b t.a=0))
def cv(s t:S):Com:=
 if(!bD s)=true then cz
 else if(!bD t)=true then cz
 else if¬m7 s t=0 then j7 s t (m7 s t)
 else if mb1 s t=true then uJ s.a
 else if mb1 t s=true then uJ t.a
 else if mb3 s t=true then cz
 else oK s t
noncomputable def aEy:Con:=con (ac aS (a1 aS)) (λ(_,_)=>[]) (λ(s,t)=>Sw (cv s t))
def aC3:aEy.Okz 198:=ak Q3 (λ(s,t)=>[jb 7 36 (mb1 s t),jb 9 51 (mb1 t s),jb 11 66 (mb3 s t),jP 12 [cv s t=oK s t],lU 14 3,jO 18 [(34,.box 189 (v2 (loS s)++v2 (hiS s)++v2 (loS t)++v2 (hiS t)))],jO 21 [(40,.box 44 (v2 (fB s t)))],jO 23 [(41,.box 44 (v2 (fN s t)))]]
  ) (λ(_,_)=>⟨_,rfl⟩) λ(s,t) _=>aZ (aA (cv s t) λA=>aA (loS s) λB=>aA (hiS s) λC=>aA (loS t) λD=>aA (hiS t) λE=>aA (0+2:Int) λF=>aA (!bD s) λG=>aA (!bD t) λH=>aA (aFJ s.b s.a) λI=>aA (aFJ t.b t.a) λJ=>aA (j7 s t (cross I J)) λL=>aA (fB s t) λM=>aA (fN s t) λN=>aA (0+2+2:Int) λO=>(G=true->0=A.k/\0=A.p.x/\0=A.p.y/\0=A.p.den/\0=A.s.a.x/\0=A.s.a.y/\0=A.s.b.x/\0=A.s.b.y)/\
 (G=false->(H=true->0=A.k/\0=A.p.x/\0=A.p.y/\0=A.p.den/\0=A.s.a.x/\0=A.s.a.y/\0=A.s.b.x/\0=A.s.b.y)/\
  (H=false->bd 1000000000 s.b/\bd 1000000000 s.a/\bd 1000000000 t.b/\bd 1000000000 t.a/\bd 2000000000 I/\bd 2000000000 J/\(¬cross I J=0->bD s=true/\bD t=true/\cross I J≠0/\(-200000000<=cross I J/\cross I J<=200000000)/\L.k=A.k/\L.p.x=A.p.x/\L.p.y=A.p.y/\L.p.den=A.p.den/\L.s.a.x=A.s.a.x/\L.s.a.y=A.s.a.y/\L.s.b.x=A.s.b.x/\L.s.b.y=A.s.b.y)/\
   (¬(¬cross I J=0)->(((s.a=s.b->onS t s.a=mb1 s t)/\
      (¬s.a=s.b->false=mb1 s t))/\
     (∀y:Unit,(mb1 s t=true->1=A.k/\s.a.x=A.p.x/\s.a.y=A.p.y/\1=A.p.den/\0=A.s.a.x/\0=A.s.a.y/\0=A.s.b.x/\0=A.s.b.y)/\
      (mb1 s t=false->((t.a=t.b->onS s t.a=mb1 t s)/\
        (¬t.a=t.b->false=mb1 t s))/\
       (∀y_1:Unit,(mb1 t s=true->1=A.k/\t.a.x=A.p.x/\t.a.y=A.p.y/\1=A.p.den/\0=A.s.a.x/\0=A.s.a.y/\0=A.s.b.x/\0=A.s.b.y)/\
        (mb1 t s=false->((s.a=s.b->true=mb3 s t)/\
          (¬s.a=s.b->(t.a=t.b->true=mb3 s t)/\
           (¬t.a=t.b->bd 1000000000 s.a/\bd 1000000000 s.b/\bd 1000000000 t.a/\decide (¬turn s.a s.b t.a=0)=mb3 s t)))/\
         (∀y_2:Unit,(mb3 s t=true->0=A.k/\0=A.p.x/\0=A.p.y/\0=A.p.den/\0=A.s.a.x/\0=A.s.a.y/\0=A.s.b.x/\0=A.s.b.y)/\
          (mb3 s t=false->cv s t=oK s t)))))))/\
    (∀y:Unit,cv s t=oK s t->(((0:Int)<4->aH (0+1)/\ix (0+1) 4/\ix 0 4/\(bf s.b s.a=true->aH (0+1)/\aH (0+1)/\ix (0+1) 4/\ix 0 4/\ix 0 4/\ix (0+1) 4/\aH (0+2)/\(F<4->aH (0+2+1)/\ix (0+2+1) 4/\ix (0+2) 4/\(bf t.b t.a=true->aH (0+2+1)/\aH (0+2+1)/\ix (0+2+1) 4/\ix (0+2) 4/\ix (0+2) 4/\ix (0+2+1) 4/\aH (0+2+2)/\(O<4->aH (0+2+2+1)/\ix (0+2+2+1) 4/\False)/\
          (¬O<4->s.b.x=B.x/\s.b.y=B.y/\s.a.x=C.x/\s.a.y=C.y/\t.b.x=D.x/\t.b.y=D.y/\t.a.x=E.x/\t.a.y=E.y))/\
         (bf t.b t.a=false->aH (0+2+2)/\(O<4->aH (0+2+2+1)/\ix (0+2+2+1) 4/\False)/\
          (¬O<4->s.b.x=B.x/\s.b.y=B.y/\s.a.x=C.x/\s.a.y=C.y/\t.a.x=D.x/\t.a.y=D.y/\t.b.x=E.x/\t.b.y=E.y)))/\
        (¬F<4->s.b.x=B.x/\s.b.y=B.y/\s.a.x=C.x/\s.a.y=C.y/\t.a.x=D.x/\t.a.y=D.y/\t.b.x=E.x/\t.b.y=E.y))/\
       (bf s.b s.a=false->aH (0+2)/\(F<4->aH (0+2+1)/\ix (0+2+1) 4/\ix (0+2) 4/\(bf t.b t.a=true->aH (0+2+1)/\aH (0+2+1)/\ix (0+2+1) 4/\ix (0+2) 4/\ix (0+2) 4/\ix (0+2+1) 4/\aH (0+2+2)/\(O<4->aH (0+2+2+1)/\ix (0+2+2+1) 4/\False)/\
          (¬O<4->s.a.x=B.x/\s.a.y=B.y/\s.b.x=C.x/\s.b.y=C.y/\t.b.x=D.x/\t.b.y=D.y/\t.a.x=E.x/\t.a.y=E.y))/\
         (bf t.b t.a=false->aH (0+2+2)/\(O<4->aH (0+2+2+1)/\ix (0+2+2+1) 4/\False)/\
          (¬O<4->s.a.x=B.x/\s.a.y=B.y/\s.b.x=C.x/\s.b.y=C.y/\t.a.x=D.x/\t.a.y=D.y/\t.b.x=E.x/\t.b.y=E.y)))/\
        (¬F<4->s.a.x=B.x/\s.a.y=B.y/\s.b.x=C.x/\s.b.y=C.y/\t.a.x=D.x/\t.a.y=D.y/\t.b.x=E.x/\t.b.y=E.y)))/\
      (¬(0:Int)<4->s.a.x=B.x/\s.a.y=B.y/\s.b.x=C.x/\s.b.y=C.y/\t.a.x=D.x/\t.a.y=D.y/\t.b.x=E.x/\t.b.y=E.y))/\
     (∀y_1:Unit,ix 0 4/\ix 1 4/\(ix 2 4/\(bf B D=true->ix 2 4/\D.x=M.x/\D.y=M.y)/\
       (bf B D=false->B.x=M.x/\B.y=M.y))/\
      (∀y_2:Unit,(ix 3 4/\(bf E C=true->ix 3 4/\E.x=N.x/\E.y=N.y)/\
        (bf E C=false->C.x=N.x/\C.y=N.y))/\
       (∀y_3:Unit,(bq M N=0->1=A.k/\M.x=A.p.x/\M.y=A.p.y/\1=A.p.den/\0=A.s.a.x/\0=A.s.a.y/\0=A.s.b.x/\0=A.s.b.y)/\
        (¬bq M N=0->(bq M N= -1->3=A.k/\0=A.p.x/\0=A.p.y/\0=A.p.den/\M.x=A.s.a.x/\M.y=A.s.a.y/\N.x=A.s.b.x/\N.y=A.s.b.y)/\
         (¬bq M N= -1->0=A.k/\0=A.p.x/\0=A.p.y/\0=A.p.den/\0=A.s.a.x/\0=A.s.a.y/\0=A.s.b.x/\0=A.s.b.y)))))))))) (by kernel_rfl) (by
  have gB:(!bD s)=false->(!bD t)=false-> -200000000<=m7 s t/\m7 s t<=200000000:=λh1 h2=>by have bs:bd 4000 s.a/\bd 4000 s.b:=oA h1;have bt:bd 4000 t.a/\bd 4000 t.b:=oA h2;have c1:=nZ (jD bs.2 bs.1) (jD bt.2 bt.1);unfold m7 cross;omega
  have gM:∀{r:S} {M:Int},8000<=M->(!bD r)=false->bd M r.a/\bd M r.b/\bd M (aFJ r.b r.a):=λhM h=>by have b:=oA h (M:=4000);have c:=jD b.2 b.1;unfold bd at*;omega
  have e1:(!bD s)=true->cv s t=cz:=λh=>if_pos h;have e2:(!bD t)=true->cv s t=cz:=λh=>by unfold cv;grind
  have e3:(!bD s)=false->(!bD t)=false->¬m7 s t=0->cv s t=j7 s t (m7 s t):=λh1 h2 h3=>by unfold cv;grind
  have e4:(!bD s)=false->(!bD t)=false->¬¬m7 s t=0->mb1 s t=true->cv s t=uJ s.a:=λh1 h2 h3 h4=>by unfold cv;grind
  have e5:(!bD s)=false->(!bD t)=false->¬¬m7 s t=0->mb1 s t=false->mb1 t s=true->cv s t=uJ t.a:=λh1 h2 h3 h4 h5=>by unfold cv;grind
  have e6:(!bD s)=false->(!bD t)=false->¬¬m7 s t=0->mb1 s t=false->mb1 t s=false->mb3 s t=true->cv s t=cz:=λh1 h2 h3 h4 h5 h6=>by unfold cv;grind
  have e7:(!bD s)=false->(!bD t)=false->¬¬m7 s t=0->mb1 s t=false->mb1 t s=false->mb3 s t=false->cv s t=oK s t:=λh1 h2 h3 h4 h5 h6=>by unfold cv;grind
  have e8:cv s t=oK s t->bq (fB s t) (fN s t)=0->cv s t=uJ (fB s t):=λh h1=>by rw[h];exact if_pos h1
  have e9:cv s t=oK s t->¬bq (fB s t) (fN s t)=0->bq (fB s t) (fN s t)= -1->cv s t=⟨3,⟨0,0,0⟩,⟨fB s t,fN s t⟩⟩:=λh h1 h2=>by rw[h];unfold oK;grind
  have e10:cv s t=oK s t->¬bq (fB s t) (fN s t)=0->¬bq (fB s t) (fN s t)= -1->cv s t=cz:=λh h1 h2=>by rw[h];unfold oK;grind
  have q1:s.a=s.b->true=mb3 s t:=λh=>by unfold mb3;grind
  have q2:t.a=t.b->true=mb3 s t:=λh=>by unfold mb3;grind
  have q3:¬s.a=s.b->¬t.a=t.b->decide (¬turn s.a s.b t.a=0)=mb3 s t:=λh1 h2=>by unfold mb3;grind
  have q4:∀{s t:S},s.a=s.b->onS t s.a=mb1 s t:=λh=>by unfold mb1;grind
  have q5:∀{s t:S},¬s.a=s.b->false=mb1 s t:=λh=>by unfold mb1;grind
  have w1:∀{r:S},bf r.b r.a=true->r.b=loS r/\r.a=hiS r:=λh=>by unfold loS hiS;grind
  have w2:∀{r:S},bf r.b r.a=false->r.a=loS r/\r.b=hiS r:=λh=>by unfold loS hiS;grind
  have w3:bf (loS s) (loS t)=true->loS t=fB s t:=λh=>by unfold fB;rw[h];rfl
  have w4:bf (loS s) (loS t)=false->loS s=fB s t:=λh=>by unfold fB;rw[h];rfl
  have w5:bf (hiS t) (hiS s)=true->hiS t=fN s t:=λh=>by unfold fN;rw[h];rfl
  have w6:bf (hiS t) (hiS s)=false->hiS s=fN s t:=λh=>by unfold fN;rw[h];rfl
  with_reducible ((repeat' first|apply br|intro);all_goals repeat cases‹_/\_›)
  all_goals first|assumption|rfl|(unfold ix;omega)|(unfold aH;omega)|omega|exact nb ‹_› |exact q1 ‹_› |exact q2 ‹_› |exact q3 ‹_› ‹_› |exact q4 ‹_› |exact q5 ‹_› |(rw[e1 ‹_›] <;>rfl)|(rw[e2 ‹_›] <;>rfl)|(rw[e3 ‹_› ‹_› ‹_›] <;>rfl)|(rw[e4 ‹_› ‹_› ‹_› ‹_›] <;>rfl)|(rw[e5 ‹_› ‹_› ‹_› ‹_› ‹_›] <;>rfl)|(rw[e6 ‹_› ‹_› ‹_› ‹_› ‹_› ‹_›] <;>rfl)|exact e7 ‹_› ‹_› ‹_› ‹_› ‹_› ‹_› |(rw[e8 ‹_› ‹_›] <;>rfl)|(rw[e9 ‹_› ‹_› ‹_›] <;>rfl)|(rw[e10 ‹_› ‹_› ‹_›] <;>rfl)|exact(gB ‹_› ‹_›).1|exact(gB ‹_› ‹_›).2|exact(gM (by decide) ‹_›).1|exact(gM (by decide) ‹_›).2.1|exact(gM (by decide) ‹_›).2.2|(rw[<-(w1 ‹_›).1];done)|(rw[<-(w1 ‹_›).2];done)|(rw[<-(w2 ‹_›).1];done)|(rw[<-(w2 ‹_›).2];done)|(rw[w3 ‹_›];done)|(rw[w4 ‹_›];done)|(rw[w5 ‹_›];done)|(rw[w6 ‹_›];done))
noncomputable def RC:=Q3.adk aC3
def Yy(s t:S)(d:Int):(j7 s t d).k=pI s t d:=by
 unfold j7;split
 .rename_i h;rw[h];rfl
 .rfl
def aAv(s t:S):(cv s t).k=cF s t:=by
 have hc:(cz).k=0:=rfl;have h1:∀v,(uJ v).k=1:=λ_=>rfl;have e1:mb1 s t=true↔s.a=s.b/\onS t s.a=true:=by unfold mb1;simp
 have e2:mb1 t s=true↔t.a=t.b/\onS s t.a=true:=by unfold mb1;simp
 have e3:mb3 s t=true↔s.a=s.b\/t.a=t.b\/turn s.a s.b t.a≠0:=by unfold mb3;simp
 unfold cv cF oK;rw[<-m7];simp only[<-e1,<-e2,<-e3];cases bD s<;>cases bD t<;>simp only[mS,Bool.not_false,Bool.and_true,Bool.and_false,if_true,lN,if_false,hc,ne_eq]
 repeat' split
 all_goals first|rfl|exact Yy _ _ _
noncomputable def aEZ:Con:=con (ac aS (a1 aS)) (λ(_,_)=>[]) (λ(s,t)=> .iqz (cF s t)
 )
def aDt:aEZ.Okz 155:=ak RC (λ(_,_)=>[]) (λ(_,_)=>⟨_,rfl⟩) λ(s,t) _=>aZ ((cv s t).k=cF s t) (by kernel_rfl) (by exact aAv s t)
noncomputable def Ri:=RC.adk aDt
noncomputable def aE1:Con:=con (ac (aL .V) (a1 aN)) (λ(r,i)=>[i<r.length,r.length<=1000000]) (λ(r,i)=>aV.enc (prv r i)
 )
def aDv:aE1.Okz 152:=ak Ri (λ(_,_)=>[]) (λ(_,_)=>⟨_,rfl⟩) λ(r,i) hp=>aZ (aH ((i:Int)+r.length)/\aH ((i:Int)+r.length-1)/\(r.length:Int)≠0/\ix (cZ ((i:Int)+r.length-1) (r.length:Int)) r.length/\(aFG r (cZ ((i:Int)+r.length-1) (r.length:Int)).toNat).x=(prv r i).x/\(aFG r (cZ ((i:Int)+r.length-1) (r.length:Int)).toNat).y=(prv r i).y) (by kernel_rfl) (by
 change i<r.length/\r.length<=1000000 at hp;have h:cZ ((i:Int)+r.length-1) (r.length:Int)=(((i+r.length-1) % r.length:Nat):Int):=by rw[show(i:Int)+r.length-1=((i+r.length-1:Nat):Int) by omega,<-Int.ofNat_tmod]
 rw[h];exact⟨bV (by omega),bV (by omega),by omega,gQ (by omega),rfl,rfl⟩)
noncomputable def Rl:=Ri.adk aDv
noncomputable def aE0:Con:=con (ac (aL .V) (a1 aN)) (λ(r,i)=>[i<r.length,r.length<=1000000]) (λ(r,i)=>aV.enc (nxt r i)
 )
def aDu:aE0.Okz 153:=ak Rl (λ(_,_)=>[]) (λ(_,_)=>⟨_,rfl⟩) λ(r,i) hp=>aZ (aA ((i+1) % r.length) λA=>aH ((i:Int)+1)/\(r.length:Int)≠0/\ix (((i+1) % r.length:Nat):Int) r.length/\(aFG r A).x=(nxt r i).x/\(aFG r A).y=(nxt r i).y) (by kernel_rfl) (by change i<r.length/\r.length<=1000000 at hp;exact⟨bV (by omega),by omega,gQ (by omega),rfl,rfl⟩)
noncomputable def Rk:=Rl.adk aDu
noncomputable def Sn:Con:=DE (a1 (aL .V)) (λr=>[r.length<=1000]) 46 .S (λr=>aJ r) (λ_=>[])
def Sf:Sn.Okz 154:=Gs (oO Rk.o) (raw:=uB) (λr=>[lp 5 11 r.length bX [21] (λk=>[(3,.own 21 .S k)]) (λk=>[(21,.row 46 .S ((aJ r).take k))])]
  ) (λ_=>⟨[],rfl⟩) λr hp=>aZ (aA (aJ r) λB=>aA (r.length:Int) λG=>aA ([] :List S) λH=>(G<2->aJ r=H)/\
 (¬G<2->(0=(0:Int)/\(0:Nat)=0/\aU 0 B=H/\(0:Nat)<=r.length)/\
  (∀x:Nat,aA (x:Int) λA=>aA (aU x B) λE=>aA (⟨(aFG r x),(nxt r x)⟩:S) λF=>x<=r.length->(A<r.length->ix A r.length/\x<r.length/\r.length<=1000000/\x=E.length/\E.length+[F].length<=1000000/\aH (A+1)/\A+1=((x+1:Nat):Int)/\(aU x B++[F]).length=x+1/\aU x B++[F] =aU (x+1) B/\x+1<=r.length/\r.length-(x+1)<r.length-x)/\
   (¬A<r.length->aU x B=aJ r/\x=E.length)))) (by kernel_rfl) (by
  change r.length<=1000 at hp;have e0:(r.length:Int)<2->aJ r=[] :=λh=>by unfold aJ;grind
  have e1:¬(r.length:Int)<2->(aJ r).length=r.length:=λh=>xQ r (by omega);have e2:¬(r.length:Int)<2->∀x:Nat,(x:Int)<r.length->aU x (aJ r)++[⟨aFG r x,nxt r x⟩] =aU (x+1) (aJ r):=λh x hx=>by
   have hx':x<(aJ r).length:=by rw[e1 h];omega
   rw[mc hx',<-jB hx',xb (by omega) (by omega)];rfl
  have e3:¬(r.length:Int)<2->∀x:Nat,x<=r.length->(aU x (aJ r)).length=x:=λh x hx=>by grind
  have e4:¬(r.length:Int)<2->∀x:Nat,¬(x:Int)<r.length->aU x (aJ r)=aJ r:=λh x hx=>iV (by omega)
  with_reducible ((repeat' first|apply br|intro);all_goals repeat cases‹_/\_›)
  all_goals grind)
noncomputable def Rj:=Rk.adk Sf
noncomputable def aE2:Con:=con (a1 (aL .V)) (λr=>[near r=true,r.length<=100000]) (λr=> .iqz (area r))
def aDw:aE2.Okz 151:=ak Rj (λr=>[lp 3 8 r.length bX [] (λk=>[(3,.iqz (ar r k))]) bX]
  ) (λ_=>⟨_,rfl⟩) λr hp=>aZ ((0=(0:Int)/\0=ar r 0/\(0:Nat)<=r.length)/\
 (∀x:Nat,aA (x:Int) λA=>aA (aFG r x) λB=>aA (nxt r x) λC=>x<=r.length->(A<r.length->ix A r.length/\x<r.length/\r.length<=1000000/\bd 2000000000 B/\bd 2000000000 C/\aH (ar r x+cross B C)/\aH (A+1)/\A+1=((x+1:Nat):Int)/\ar r x+cross B C=ar r (x+1)/\x+1<=r.length/\r.length-(x+1)<r.length-x)/\
  (¬A<r.length->ar r x=area r))) (by kernel_rfl) (by
  change near r=true/\r.length<=100000 at hp;have hn:=λi hi=> @ni r hp.1 i hi 2000000000;have ha:=λk (hk:k<=r.length)=>wN hp.1 k hk;have hs:=Bu r;have hE:∀x:Nat,¬(x:Int)<r.length->x<=r.length->ar r x=area r:=λx h1 h2=>by rw[show x=r.length by omega];rfl
  have hI:∀x:Nat,(x:Int)<r.length->aH (ar r x+cross (aFG r x) (nxt r x)):=λx h=>by have h1:=ha (x+1) (by omega);rw[hs x]at h1;exact bV (by unfold nxt;omega)
  with_reducible ((repeat' first|apply br|intro);all_goals repeat cases‹_/\_›)
  all_goals first|rfl|with_reducible solve_by_elim|exact hn _ (by omega) (by decide)|exact hn _ (bz _ (by omega)) (by decide)|exact(hs _).symm|grind)
noncomputable def Rn:=Rj.adk aDw
noncomputable def aEz:Con:=con (a1 aV) (λ_=>[]) (λv=> .bool (!aX v 2000)
 )
def aC4:aEz.Okz 197:=ak Rn bX (λ_=>⟨_,rfl⟩) λv _=>aZ (aA (!aX v 2000) λA=>(0:Int)<=2000/\(2000:Int)<=9000000000000000000/\A=A) (by kernel_rfl) (by grind)
noncomputable def RD:=Rn.adk aC4
def aF(f:Nat):Ar Unit where
 enc _:= .fnp f [] []
 dec s:=match s with
  | .fnp g [] [] =>(match bF g f with|true=>some ()|false=>none)
  |_=>none
 ok s a h:=by
  split at h
  .split at h<;>cases h;simp_all
  .cases h
 pl _:=⟨_,rfl⟩
def fI{α:Type}(q:α->Bool)(l:List α):Int:=match l.findIdx? q with
 |some i=>(i:Int)
 |none=> -1
def qm{t:LT}{l:List t.ty}{q:t.ty->Bool}{k:Nat}(hk:k<l.length)(h:q (t.nth l k)=true)(hu:aK (λj=>q (t.nth l j)=false) k):(k:Int)=fI q l:=by
 have e:l.findIdx? q=some k:=by rw[List.findIdx?_eq_some_iff_getElem];refine⟨hk,by rw[<-t.nth_eq l hk];exact h,λj hj=> ?_⟩;have:=hu j hj;dsimp only at this;rw[t.nth_eq l (by omega)]at this;rw[this];simp
 unfold fI;rw[e]
def tn{t:LT}{l:List t.ty}{q:t.ty->Bool}(hu:aK (λj=>q (t.nth l j)=false) l.length): -1=fI q l:=by
 have e:l.findIdx? q=none:=by rw[List.findIdx?_eq_none_iff];intro x hx;obtain⟨j,hj,rfl⟩:=jS hx;have:=hu j hj;dsimp only at this;rwa[t.nth_eq l hj]at this
 unfold fI;rw[e]
def vn{α:Type}(q:α->Bool)(l:List α):decide (0<=fI q l)=l.any q:=by unfold fI;grind
noncomputable def aEr:Con:=con (ac (aL .V) (a1 (aF 197))) (λ(l,_)=>[l.length<=1000000]) (λ(l,_)=> .iqz (fI (λv=> !aX v 2000) l))
def aCW:aEr.Okz 214:=ak RD (λ(l,_)=>[cnt 2 8 l.length (aK λj=>(!aX (aFG l j) 2000)=false)]
  ) (λ(_,_)=>⟨_,rfl⟩) λ(l,u) hp=>aZ ((0=(0:Int)/\(0:Nat)<=l.length/\aK (λj=>(!aX (aFG l j) 2000)=false) 0)/\
 (∀x:Nat,aA (x:Int) λA=>aA (!aX (aFG l x) 2000) λB=>x<=l.length/\aK (λj=>(!aX (aFG l j) 2000)=false) x->(A<l.length->ix A l.length/\(B=true->A=fI (λv=>(!aX v 2000)) l)/\
   (B=false->aH (A+1)/\A+1=((x+1:Nat):Int)/\x+1<=l.length/\aK (λj=>(!aX (aFG l j) 2000)=false) (x+1)/\l.length-(x+1)<l.length-x))/\
  (¬A<l.length-> -1=fI (λv=>(!aX v 2000)) l))) (by kernel_rfl) (by
  change l.length<=1000000 at hp
  with_reducible ((repeat' first|apply br|intro);all_goals repeat cases‹_/\_›)
  all_goals first|rfl|exact qm (t:= .V) (by omega) ‹_› ‹_› |(obtain rfl:_=l.length:=ui ‹_› (by omega);exact tn (t:= .V) ‹_›)|grind)
noncomputable def Q6:=RD.adk aCW
noncomputable def aEA:Con:=con (ac (aL .V) (a1 (aF 197))) (λ(l,_)=>[l.length<=1000000]) (λ(l,_)=> .bool (l.any λv=> !aX v 2000)
 )
def aC5:aEA.Okz 196:=ak Q6 (λ(_,_)=>[]) (λ(_,_)=>⟨_,rfl⟩) λ(l,u) hp=>aZ (l.length<=1000000/\decide (0<=fI (λv=>(!aX v 2000)) l)=fh l (λv=>(!aX v 2000))) (by kernel_rfl) (by change l.length<=1000000 at hp;exact⟨hp,vn _ _⟩)
noncomputable def RE:=Q6.adk aC5
noncomputable def aE3:Con:=con (a1 (aL .V)) (λl=>[l.length<=1000000]) (λl=> .bool (near l)
 )
def aDx:aE3.Okz 150:=ak RE bX (λ_=>⟨_,rfl⟩) λl hp=>aZ (l.length<=1000000/\(!fh l (λv=>(!aX v 2000)))=near l) (by kernel_rfl) (by change l.length<=1000000 at hp;refine⟨hp,?_⟩;unfold near;grind)
noncomputable def Ro:=RE.adk aDx
def tP(r:aD)(i:Nat):Prop:=¬turn (prv r i) (aFG r i) (nxt r i)=0
def ft(r:aD)(i k:Nat):Bool:=(decide (¬(k:Int)=i+1)&&(decide (¬(i:Int)=0)||decide (¬(k:Int)=r.length-1)))&&decide (¬cF (bO r i) (bO r k)=0)
def up2{p:Nat->Nat->Prop}{i k n:Nat}(h:∀j,i<j->j<k->p i j)(hk:¬(k:Int)<n):∀j,i<j->j<n->p i j:=λj h1 h2=>h j h1 (by omega)
def D4(r:aD):cY r=true↔3<=r.length/\r.length<=40/\near r=true/\0<area r/\(∀i,i<r.length->tP r i)/\(∀i k,i<k->k<r.length->ft r i k=false):=by unfold cY tP ft;simp only[bj,decide_eq_true_eq,bh,cD,jQ,bne_iff_ne,beq_iff_eq,Bool.and_eq_false_imp,decide_eq_false_iff_not,ne_eq,and_assoc,S5];grind
noncomputable def c83:Con:=con (a1 (aL .V)) (λr=>[r.length<=1000]) (λr=> .bool (cY r))
def k83:c83.Okz 82:=ak Ro (λr=>[jP 4 [3<=r.length,r.length<=40,near r=true,0<area r],cnt 5 29 r.length (aK (tP r)),lp 12 47 r.length (λi=>[aK (λi=>∀k,i<k->k<r.length->ft r i k=false) i]) [] bX bX λi=>[(15,.mk Nat (λF _=>lh F 8) [] (λk=>[i<k,k<=r.length,∀j,i<j->j<k->ft r i j=false]) (λk=>[(8,.iqz (k:Int))]) bX (λk=>r.length-k) λk=>[jb 18 82 (ft r i k)])]]
  ) (λ_=>⟨_,rfl⟩) λr hp=>aZ (aA (aJ r) λD=>aA (r.length:Int) λI=>((I<3->false=cY r)/\
  (¬I<3->(40<I->false=cY r)/\
   (¬40<I->r.length<=1000000/\((!near r)=true->false=cY r)/\
    ((!near r)=false->near r=true/\r.length<=100000/\(area r<=0->false=cY r)/\
     (¬area r<=0->(3:Nat)<=r.length/\r.length<=40/\near r=true/\0<area r)))))/\
 (∀y:Unit,(3:Nat)<=r.length/\r.length<=40/\near r=true/\0<area r->(0=(0:Int)/\(0:Nat)<=r.length/\aK (tP r) 0)/\
  (∀x:Nat,aA (x:Int) λA=>aA (prv r x) λE=>aA (aFG r x) λF=>aA (nxt r x) λG=>x<=r.length/\aK (tP r) x->(A<r.length->ix A r.length/\x<r.length/\r.length<=1000000/\x<r.length/\r.length<=1000000/\bd 1000000000 E/\bd 1000000000 F/\bd 1000000000 G/\(turn E F G=0->false=cY r)/\
    (¬turn E F G=0->aH (A+1)/\A+1=((x+1:Nat):Int)/\x+1<=r.length/\aK (tP r) (x+1)/\r.length-(x+1)<r.length-x))/\
   (¬A<r.length->r.length<=1000/\(0=(0:Int)/\(0:Nat)<=r.length/\aK (λi=>∀k:Nat,i<k->k<r.length->ft r i k=false) 0)/\
    (∀x_1:Nat,aA (x_1:Int) λB=>aA (x_1+1:Nat) λH=>x_1<=r.length/\aK (λi=>∀k:Nat,i<k->k<r.length->ft r i k=false) x_1->(B<r.length->aH (B+1)/\(B+1=(H:Int)/\x_1<x_1+1/\x_1+1<=r.length/\(∀j:Nat,x_1<j->j<x_1+1->ft r x_1 j=false))/\
      (∀x_2:Nat,aA (x_2:Int) λC=>x_1<x_2/\x_2<=r.length/\(∀j:Nat,x_1<j->j<x_2->ft r x_1 j=false)->(C<r.length->(aH (B+1)/\(¬C=x_1+1->(¬B=0->ix B D.length/\x_1<D.length/\ix C D.length/\x_2<D.length/\decide (¬cF (aW D x_1) (aW D x_2)=0)=ft r x_1 x_2)/\
          (¬(¬B=0)->aH (I-1)/\(¬C=r.length-1->ix B D.length/\x_1<D.length/\ix C D.length/\x_2<D.length/\decide (¬cF (aW D x_1) (aW D x_2)=0)=ft r x_1 x_2)/\
           (¬(¬C=r.length-1)->false=ft r x_1 x_2)))/\
         (¬(¬C=x_1+1)->false=ft r x_1 x_2))/\
        (∀y_1:Unit,(ft r x_1 x_2=true->false=cY r)/\
         (ft r x_1 x_2=false->aH (C+1)/\C+1=((x_2+1:Nat):Int)/\x_1<x_2+1/\x_2+1<=r.length/\(∀j:Nat,x_1<j->j<x_2+1->ft r x_1 j=false)/\r.length-(x_2+1)<r.length-x_2)))/\
       (¬C<r.length->aH (B+1)/\B+1=(H:Int)/\x_1+1<=r.length/\aK (λi=>∀k:Nat,i<k->k<r.length->ft r i k=false) (x_1+1)/\r.length-(x_1+1)<r.length-x_1)))/\
     (¬B<r.length->true=cY r)))))) (by kernel_rfl) (by
  change r.length<=1000 at hp;have iff:=D4 r;have hf:(cY r=true->False)->false=cY r:=λh=>by grind
  have el:3<=r.length->(aJ r).length=r.length:=λh=>xQ r (by omega);have en:near r=true->∀i,i<r.length->bd 1000000000 (aFG r i):=λh i hi=>ni h hi;have ep:3<=r.length->∀i,i<r.length->aW (aJ r) i=bO r i:=λh i hi=>xb (by omega) hi;have hE:3<=r.length->r.length<=40->near r=true->0<area r->∀x y:Nat,¬(x:Int)<r.length->¬(y:Int)<r.length->aK (tP r) x->aK (λi=>∀k:Nat,i<k->k<r.length->ft r i k=false) y->true=cY r:=λh1 h2 h3 h4 x y hx hy h5 h6=>
   (iff.2 ⟨h1,h2,h3,h4,λi hi=>h5 i (by omega),λi k hi hk=>h6 i (by omega) k hi hk⟩).symm
  have b0:∀x y:Nat,¬(¬(y:Int)=x+1)->false=ft r x y:=λx y h=>by unfold ft;grind
  have b1:∀x y:Nat,¬(¬(x:Int)=0)->¬(¬(y:Int)=r.length-1)->false=ft r x y:=λx y h1 h2=>by unfold ft;grind
  have b2:∀x y:Nat,3<=r.length->¬(y:Int)=x+1->¬(x:Int)=0->(x:Int)<r.length->(y:Int)<r.length->decide (¬cF (aW (aJ r) x) (aW (aJ r) y)=0)=ft r x y:=λx y h0 h1 h2 h3 h4=>by unfold ft;grind
  have b3:∀x y:Nat,3<=r.length->¬(y:Int)=x+1->¬(y:Int)=r.length-1->(x:Int)<r.length->(y:Int)<r.length->decide (¬cF (aW (aJ r) x) (aW (aJ r) y)=0)=ft r x y:=λx y h0 h1 h2 h3 h4=>by unfold ft;grind
  with_reducible ((repeat' first|apply br|intro);all_goals repeat cases‹_/\_›)
  all_goals first|assumption|rfl|exact trivial|exact nb ‹_› |exact nb' ‹_› |omega|exact gQ (by omega)|(unfold ix;omega)|(unfold aH;omega)|exact gG _|exact cB ‹_› ‹_› |(refine cB ‹_› ?_;simp_all;done)|exact en ‹_› _ (by omega)|exact en ‹_› _ (bz _ (by omega))|(rw[el ‹_›];exact fC (by omega))|(rw[el ‹_›];omega)|exact b0 _ _ ‹_› |exact b1 _ _ ‹_› ‹_› |exact b2 _ _ ‹_› ‹_› ‹_› ‹_› ‹_› |exact b3 _ _ ‹_› ‹_› ‹_› ‹_› ‹_› |exact hE ‹_› ‹_› ‹_› ‹_› _ _ ‹_› ‹_› ‹_› ‹_› |(refine hf λh=> ?_;have h:=iff.1 h;first|omega|(have h4:=‹(!near r)=true›;rw[h.2.2.1]at h4;cases h4)|(exact absurd ‹turn _ _ _=0› (h.2.2.2.2.1 _ (by omega)))|grind)|exact cB ‹_› (show tP r _ from‹¬turn _ _ _=0›)|(intro j h1 h2;omega)|exact cB ‹_› (up2 (p:=λi k=>ft r i k=false) ‹_› ‹_›)|grind)
noncomputable def t83:=Ro.adk k83
def ZF(n:Nat)(w:World)(h0:0<n)(hn:n<=100000):
  Calls bH 206 #[.slice none 0 0,.int .i64 n] w λe w'=>∃v,e= .returned v/\w'.ownsRow w.heap.size 44 2 v 0 []/\Below w.heap.size w w':=by
 have hinf:(bH.info? 44).map (λi=>(i.zero,i.size,i.bytes))=some (some (.agg #[.int .i64 0,.int .i64 0]),2,16):=by kernel_rfl
 obtain⟨i,hi1,hi2⟩:=Option.map_eq_some_iff.1 hinf;simp only[Prod.mk.injEq]at hi2;obtain⟨i1,i2,i3⟩:=hi2;have hold:(Builtin.firstCells i.size 0 (.slice none 0 0)).run bH w.drew= .ok ([] :List Value).toArray w.drew:=run_firstCells_none w.drew i.size 0 0 0;have hrz:∀ty,(Builtin.append_ #[23,3] ty #[.slice none 0 0,.int .i64 n]).run bH w= .ok (.slice (some ⟨w.heap.size,0,none⟩) n (grownCap w n 0 44))
   (w.drew.alloc (.cells (#[] ++Builtin.zeroCells #[.int .i64 0,.int .i64 0] n++Builtin.zeroCells #[.int .i64 0,.int .i64 0] (grownCap w n 0 44-n)) 44)):=λty=>by
  have h:=Lib.run_append_grow_zeros w 23 3 ty 44 i (.agg #[.int .i64 0,.int .i64 0]) .i64 .i64 Tryz.underlying23 xF hi1 i1 none 0 0 [] hold n h0 (by omega) (by omega) (by omega) (by grind)
   (by unfold Builtin.nextslicecap;grind)
  rw[kN]at h;exact h
 have hGn:n<=grownCap w n 0 44:=grownCap_ge w _ _ _;have hGm:=grownCap_le_maxLen w n 0 44 (by unfold maxLen;omega);obtain⟨G,hG⟩:∃G,G=grownCap w n 0 44:=⟨_,rfl⟩;rw[<-hG]at hrz hGn hGm;have hG63:G<=9223372036854775807:=by unfold maxLen at hGm;omega
 have hzc:∀m,(Builtin.zeroCells #[.int .i64 0,.int .i64 0] m).size=m*2:=by intro m;unfold Builtin.zeroCells;simp
 obtain⟨cur,hcur⟩:∃cur,cur=(#[] ++Builtin.zeroCells #[.int .i64 0,.int .i64 0] n++Builtin.zeroCells #[.int .i64 0,.int .i64 0] (G-n):Array Value):=⟨_,rfl⟩;have hcs:cur.size=G*2:=by rw[hcur];simp[hzc];omega
 rw[<-hcur]at hrz;have hrow:(w.drew.alloc (.cells cur 44)).ownsRow w.heap.size 44 2 (.slice (some ⟨w.heap.size,0,none⟩) 0 G) 0 [] :=
  ⟨by simp,.inr ⟨w.heap.size,G,cur,rfl,bZ _,Blk.new w.drew 44 cur,by omega,hGm,hcs,by simp⟩⟩
 have hbl:Below w.heap.size w (w.drew.alloc (.cells cur 44)):=((Below.refl _ _).drew).alloc (bZ _) _;clear hold hinf hi1 i1 i2 i3 hcur hcs hzc hG hGm
 go_enter Tryz.func206,Tryz.ntmps206
 go_wp2_with (at_builtin;refine Lib.wpList_append_run _ rfl _ _ _ _ rfl _ _ rfl rfl _ _ (hrz _) ?_)
 all_goals
  go_ret
  exact⟨_,rfl,hrow,hbl⟩
def Wi{n:Nat}(h0:0<n)(hn:n<=100000):Ih bH 206 [.int .i64 n] 44 2 [] 0 [] :=by
 refine⟨by kernel_rfl,by decide,λC w vs hC h=> ?_⟩;unfold bK at h;obtain⟨v,r,rfl,h1,h2⟩:=h;unfold aY at h1;unfold bK at h2;subst h1 h2;refine(ZF n w h0 hn).mono ?_;rintro e w' ⟨v,rfl,⟨_,h3⟩,hb⟩;rcases h3 with⟨rfl,_⟩|⟨g,cap,cur,rfl,h4,h5,_,h6,h7,_⟩
 .exact⟨_,[],none,0,rfl,hb,by unfold bK;rfl,.inl ⟨rfl,rfl,rfl,rfl,rfl⟩⟩
 .exact⟨_,[],some g,cap,rfl,hb,by unfold bK;rfl,.inr ⟨g,cur,rfl,rfl,kK _,h4,h5,h7,kK _,h6,λi x hi=>by simp at hi⟩⟩
def Ia:List SV->Option Nat
 |[.nil,.int .i64 (.ofNat n)] =>some n
 |_=>none
def XX{s:List SV}{n:Nat}(h:Ia s=some n):s=[.nil,.int .i64 (n:Int)] :=by
 unfold Ia at h;split at h
 .cases h;rfl
 .cases h
def aEu:Con:=⟨Nat,Ia,λn=>[0<n,n<=100000],.ownN 44 .V (λ_=>[])⟩
def aCZ:aEu.Okz 206:=by intro s n hd hp;rw[XX hd];exact⟨[.int .i64 ((show Nat from n:Nat):Int)],rfl,Wi (hp _ cI) (hp _ (cG _ cI))⟩
def aPt:Ar Pt where
 enc p:= .pro [.int .i64 p.x,.int .i64 p.y,.int .i64 p.den] 0
 dec s:=match s with
  | .pro [.int .i64 x,.int .i64 y,.int .i64 z] 0=>some ⟨x,y,z⟩
  |_=>none
 ok s a h:=by grind
 pl _:=⟨_,rfl⟩
def jPU(key:Nat)(I:List Prop)(u:Frm):Nat×Ann:=(key+10000,.mk Unit (λ_ _=>some ()) [] (λ_=>I) (λ_=>u) (λ_=>[]) (λ_=>0) (λ_=>[]))
def y9(p:Pt)(l:List S):Bool:=l.foldl (λb s=>b !=dg s p) false
def W4{p:Pt}{l:List S}{k:Nat}(h:k<l.length):y9 p (l.take (k+1))=(y9 p (l.take k) !=dg (aW l k) p):=by unfold y9;rw[l0,dw h,zh,jB h];rfl
def Mb{p:Pt}:∀{l:List S} {k:Nat} (ins:Bool),k<l.length->(∀j,j<k->onP (aW l j) p=false)->onP (aW l k) p=true->eE p l ins=1
 |[],k,ins,h,_,_=>by simp at h
 |s::l,0,ins,h,_,h2=>by
  unfold eE;rw[show onP s p=true from h2];rfl
 |s::l,k+1,ins,h,h1,h2=>by
  unfold eE;rw[show onP s p=false from h1 0 (by omega)];exact Mb (l:=l) (k:=k) _ (by simpa using h) (λj hj=>h1 (j+1) (by omega)) h2
def LF{p:Pt}:∀{l:List S} (ins:Bool),(∀j,j<l.length->onP (aW l j) p=false)->eE p l ins=if l.foldl (λb s=>b !=dg s p) ins=true then 2 else 0
 |[],ins,_=>rfl
 |s::l,ins,h1=>by
  unfold eE;rw[show onP s p=false from h1 0 (by simp)];exact LF (l:=l) _ (λj hj=>h1 (j+1) (by grind))
def pb(r:aD)(p:Pt)(k:Nat):Bool:=y9 p ((aJ r).take k)
def ZR{r:aD}(h:cY r=true){j:Nat}(hj:j<(aJ r).length):bd 2000 (aW (aJ r) j).a/\bd 2000 (aW (aJ r) j).b:=PD (by rw[<-tW];exact h) hj
def cOK(a b:V):Prop:=(-4000000000000000000<=a.x*b.y/\a.x*b.y<=4000000000000000000)/\(-4000000000000000000<=a.y*b.x/\a.y*b.x<=4000000000000000000)
noncomputable def aCw:Con:=con (ac aV (a1 aV)) (λ(a,b)=>[cOK a b]) (λ(a,b)=> .iqz (cross a b)
 )
def aCj:aCw.Okz 120:=ak t83 (λ(_,_)=>[]) (λ(_,_)=>⟨_,rfl⟩) λ(a,b) hp=>aZ (aH (a.x*b.y)/\aH (a.y*b.x)/\aH (a.x*b.y-a.y*b.x)/\a.x*b.y-a.y*b.x=cross a b) (by kernel_rfl) (by change cOK a b at hp;unfold cOK at hp;exact⟨bV (by omega),bV (by omega),bV (by omega),rfl⟩)
noncomputable def QQ:=t83.adk aCj
noncomputable def aEB:Con:=con (ac aV (a1 aPt)) (λ(v,p)=>[PtB p,bd 10000 v]) (λ(v,p)=>aV.enc (toV p v)
 )
def aC6:aEB.Okz 185:=ak QQ (λ(_,_)=>[]) (λ(_,_)=>⟨_,rfl⟩) λ(v,p) hp=>aZ (aH (v.x*p.den)/\aH (p.x-v.x*p.den)/\aH (v.y*p.den)/\aH (p.y-v.y*p.den)/\p.x-v.x*p.den=(toV p v).x/\p.y-v.y*p.den=(toV p v).y) (by kernel_rfl) (by change PtB p/\bd 10000 v at hp;have h:=hp.1.off hp.2;have h2:(-600000000000<=p.x/\p.x<=600000000000)/\(-600000000000<=p.y/\p.y<=600000000000):=hp.1.2;exact⟨bV (by omega),bV (by omega),bV (by omega),bV (by omega),rfl,rfl⟩)
noncomputable def RF:=QQ.adk aC6
noncomputable def aFc:Con:=con (ac (aL .V) (a1 aT)) (λ(r,_)=>[r.length<=1000]) (λ(r,p)=> .iqz (bg r p))
def aDF:aFc.Okz 140:=ak RF (λ(r,p)=>[jP 3 [cY r=true,cn p=true],lp 6 25 (aJ r).length (λk=>[aK (λj=>onP (nE r j) p=false) k]) [] (λk=>[(6,.bool (pb r p k))]) bX λk=>[jb 11 77 (onP (nE r k) p),jb 14 91 (dg (nE r k) p),jPU 15 [onP (nE r k) p=false] [(6,.bool (pb r p (k+1)))]]]
  ) (λ(_,_)=>⟨_,rfl⟩) λ(r,p) hp=>aZ (aA (aJ r) λD=>aA (!cY r) λG=>aA (!cn p) λH=>(r.length<=1000/\(G=true->0=bg r p)/\
  (G=false->(H=true->0=bg r p)/\
   (H=false->cY r=true/\cn p=true)))/\
 (∀y:Unit,cY r=true/\cn p=true->r.length<=1000/\(0=(0:Int)/\false=pb r p 0/\(0:Nat)<=D.length/\aK (λj=>onP (nE r j) p=false) 0)/\
  (∀x:Nat,aA (x+1) λA=>aA (nE r x) λB=>aA (x:Int) λC=>aA (toV p B.a) λE=>aA (toV p B.b) λF=>aA (aFJ B.b B.a) λI=>aA (decide (0<=E.y) !=decide (0<=F.y)) λJ=>x<=D.length/\aK (λj=>onP (nE r j) p=false) x->(C<D.length->(ix C D.length/\x<D.length/\PtB p/\bd 10000 B.a/\PtB p/\bd 10000 B.b/\bd 1000000000 B.b/\bd 1000000000 B.a/\cOK I E/\((cross I E=0->(Min.min E.x F.x<=0->(0<=Max.max E.x F.x->(Min.min E.y F.y<=0->decide (0<=Max.max E.y F.y)=onP B p)/\
         (¬Min.min E.y F.y<=0->false=onP B p))/\
        (¬0<=Max.max E.x F.x->false=onP B p))/\
       (¬Min.min E.x F.x<=0->false=onP B p))/\
      (¬cross I E=0->false=onP B p))/\
     (∀y_1:Unit,(onP B p=true->1=bg r p)/\
      (onP B p=false->((J=true->(decide (0<=E.y)==decide (0<cross I E))=dg B p)/\
        (J=false->false=dg B p))/\
       (∀y_2:Unit,(dg B p=true->(!pb r p x)=pb r p A/\onP B p=false)/\
        (dg B p=false->pb r p x=pb r p A/\onP B p=false)))))/\
    (∀y_1:Unit,onP B p=false->aH (C+1)/\C+1=((x+1:Nat):Int)/\pb r p A=pb r p A/\x+1<=D.length/\aK (λj=>onP (nE r j) p=false) A/\D.length-A<D.length-x))/\
   (¬C<D.length->(pb r p x=true->2=bg r p)/\
    (pb r p x=false->0=bg r p))))) (by kernel_rfl) (by
  change r.length<=1000 at hp;have e0:pb r p 0=false:=rfl;have es:∀k:Nat,(k:Int)<(aJ r).length->pb r p (k+1)=(pb r p k !=dg (nE r k) p):=λk h=>W4 (by omega);have hw0:cY r=false\/cn p=false->0=bg r p:=λh=>by unfold bg;grind
  have hw:cY r=true->cn p=true->bg r p=eE p (aJ r) false:=λh1 h2=>by unfold bg;simp[h1,h2]
  have eb:cY r=true->∀j:Nat,(j:Int)<(aJ r).length->bd 2000 (aW (aJ r) j).a/\bd 2000 (aW (aJ r) j).b:=λh j hj=>ZR h (by omega);have el:(aJ r).length<=1000:=by unfold aJ;split<;>simp<;>omega
  have s1:∀j:Nat,(j:Int)<(aJ r).length->aK (λj=>onP (nE r j) p=false) j->onP (nE r j) p=true->eE p (aJ r) false=1:=λj h1 h2 h3=>Mb false (by omega) h2 h3;have s2:∀k:Nat,¬(k:Int)<(aJ r).length->k<=(aJ r).length->aK (λj=>onP (nE r j) p=false) k->eE p (aJ r) false=if pb r p k=true then 2 else 0:=λk h1 h2 h=>by
   obtain rfl:k=(aJ r).length:=by omega
   rw[LF false h];unfold pb y9;grind
  have gV:cY r=true->cn p=true->∀j:Nat,(j:Int)<(aJ r).length->cOK (aFJ (aW (aJ r) j).b (aW (aJ r) j).a) (toV p (aW (aJ r) j).a):=λh1 h2 j hj=>by
   have b1:=jD (eb h1 j hj).2 (eb h1 j hj).1;have hB:=PtB.of h2;have b2:=hB.off (eb h1 j hj).1.mono;have h2:(-600000000000<=p.x/\p.x<=600000000000)/\(-600000000000<=p.y/\p.y<=600000000000):=hB.2;have b3:bd 2000000000000 (toV p (aW (aJ r) j).a):=by unfold bd toV;dsimp only;omega
   exact⟨by have:=iI b1.1 b3.2;omega,by have:=iI b1.2 b3.1;omega⟩
  have oN:∀j:Nat,(¬fP (nE r j) p=0\/¬Min.min (toV p (nE r j).a).x (toV p (nE r j).b).x<=0\/¬0<=Max.max (toV p (nE r j).a).x (toV p (nE r j).b).x\/¬Min.min (toV p (nE r j).a).y (toV p (nE r j).b).y<=0)->false=onP (nE r j) p:=λj h=>by symm;unfold onP;grind
  have oY:∀j:Nat,fP (nE r j) p=0->Min.min (toV p (nE r j).a).x (toV p (nE r j).b).x<=0->0<=Max.max (toV p (nE r j).a).x (toV p (nE r j).b).x->Min.min (toV p (nE r j).a).y (toV p (nE r j).b).y<=0->decide (0<=Max.max (toV p (nE r j).a).y (toV p (nE r j).b).y)=onP (nE r j) p:=λj h1 h2 h3 h4=>by unfold onP;grind
  have hN:∀j:Nat,(decide (0<=(toV p (nE r j).a).y) !=decide (0<=(toV p (nE r j).b).y))=false->false=dg (nE r j) p:=λj h=>by unfold dg;rw[h];rfl
  have hY:∀j:Nat,(decide (0<=(toV p (nE r j).a).y) !=decide (0<=(toV p (nE r j).b).y))=true->(decide (0<=(toV p (nE r j).a).y)==decide (0<fP (nE r j) p))=dg (nE r j) p:=λj h=>by unfold dg;rw[h];rfl
  with_reducible ((repeat' first|apply br|intro);all_goals repeat cases‹_/\_›)
  all_goals first|rfl|with_reducible solve_by_elim|exact PtB.of ‹_› |exact(eb ‹_› _ ‹_›).1.mono|exact(eb ‹_› _ ‹_›).2.mono|exact gV ‹_› ‹_› _ ‹_› |exact oN _ (.inl ‹_›)|exact oN _ (.inr (.inl ‹_›))|exact oN _ (.inr (.inr (.inl ‹_›)))|exact oN _ (.inr (.inr (.inr ‹_›)))|exact hw0 (.inl (nb' ‹_›))|exact hw0 (.inr (nb' ‹_›))|(rw[hw ‹_› ‹_›,s1 _ ‹_› ‹_› ‹_›];done)|(rw[hw ‹_› ‹_›,s2 _ ‹_› ‹_› ‹_›,‹pb _ _ _=_›];rfl)|(rw[es _ ‹_›,‹dg _ _=_›];simp;done)|grind)
noncomputable def R0:=RF.adk aDF
noncomputable def c65:Con:=con (ac (aL .V) (a1 aV)) (λ(r,_)=>[r.length<=1000]) (λ(r,v)=> .iqz (cT r v)
 )
def k65:c65.Okz 66:=ak R0 (λ(_,_)=>[]) (λ(_,_)=>⟨_,rfl⟩) λ(r,v) hp=>aZ (aA (!aX v 4000) λA=>(0:Int)<=4000/\(4000:Int)<=9000000000000000000/\(A=true->0=cT r v)/\
 (A=false->r.length<=1000/\bg r (dq v)=cT r v)) (by kernel_rfl) (by change r.length<=1000 at hp;have e:cT r v=if(!aX v 4000)=true then 0 else bg r (dq v):=rfl;grind)
noncomputable def t65:=R0.adk k65
noncomputable def c89:Con:=con (a1 (aL .V)) (λr=>[r.length<=1000]) (λr=> .iqz (if cY r=true then area r else 0)
 )
def k89:c89.Okz 88:=ak t65 bX (λ_=>⟨_,rfl⟩) λr hp=>aZ (aA (!cY r) λA=>r.length<=1000/\(A=true->0=(if cY r=true then area r else 0))/\
 (A=false->near r=true/\r.length<=100000/\area r=(if cY r=true then area r else 0))) (by kernel_rfl) (by change r.length<=1000 at hp;refine⟨hp,λh=>by grind,λh=>⟨?_,by omega,by grind⟩⟩;exact((D4 r).1 (nb h)).2.2.1)
noncomputable def t89:=t65.adk k89
noncomputable def Q9:=t89.adk aCZ
noncomputable def aEG:Con:=con (a1 (aL .R)) (λl=>[l.length<=1000,0<l.flatten.length,l.flatten.length<=1000]) (λl=> .lst .V l.flatten)
def aDb:aEG.Okz 180:=vq (oO Q9.o) (raw:=λr i=>bF r 1&&bF i 0) (λl=>[lp 3 11 l.length (λ_=>[]) [] (λk=>[(3,.int .i64 (((l.take k).flatten.length:Nat):Int))]) (λ_=>[]),lp 11 27 l.length (λ_=>[]) [7] (λk=>[(6,.own 7 .V ((l.take k).flatten.length))]) (λk=>[(7,.row 44 .V ((l.take k).flatten))])]
  ) (λ_=>⟨_,rfl⟩) λl hp=>aZ (aA (0:Nat) λB=>aA (aU 0 l) λG=>aA (fk G) λK=>aA ([] :List V) λN=>(0=(0:Int)/\0=(K.length:Int)/\B<=l.length)/\
 (∀x:Nat,aA (x:Int) λA=>aA (aC l x) λE=>aA (fk (aU x l)) λI=>aA (I.length:Int) λJ=>x<=l.length->(A<l.length->ix A l.length/\aH (J+E.length)/\(J+E.length<0->False)/\
   (¬J+E.length<0->aH (A+1)/\A+1=((x+1:Nat):Int)/\J+E.length=(fk (aU (x+1) l)).length/\x+1<=l.length/\l.length-(x+1)<l.length-x))/\
  (¬A<l.length->B<I.length/\I.length<=100000/\(0=(0:Int)/\N.length=K.length/\N=fk G/\B<=l.length)/\
   (∀x_1:Nat,aA (x_1:Int) λD=>aA (aU (x_1+1) l) λH=>aA (aU x_1 l) λL=>aA (fk L) λM=>x_1<=l.length->(D<l.length->ix D l.length/\M.length=M.length/\M.length+(aC l x_1).length<=1000000/\aH (D+1)/\D+1=((x_1+1:Nat):Int)/\(fk L++aC l x_1).length=(fk H).length/\fk L++aC l x_1=fk H/\x_1+1<=l.length/\l.length-(x_1+1)<l.length-x_1)/\
    (¬D<l.length->M.length=M.length/\fk L=fk l))))) (by kernel_rfl) (by
  change l.length<=1000/\0<l.flatten.length/\l.flatten.length<=1000 at hp;have e1:∀x:Nat,(x:Int)<l.length->(l.take (x+1)).flatten=(l.take x).flatten++aC l x:=λx h=>by rw[mc (by omega),uh,List.flatten_singleton,kz (by omega)]
  have e2:∀x:Nat,(l.take x).flatten.length<=l.flatten.length:=λx=>by
   conv=>rhs;rw[<-List.take_append_drop x l,uh,fM]
   omega
  have e3:∀x:Nat,¬(x:Int)<l.length->aU x l=l:=λx h=>iV (by omega);have e4:∀x:Nat,(x:Int)<l.length->(l.take x).flatten.length+(aC l x).length<=l.flatten.length:=λx h=>by grind
  have e5:∀x:Nat,(x:Int)<l.length->((fk (aU x l)).length:Int)+(aC l x).length=(fk (aU (x+1) l)).length:=λx h=>by grind
  have e6:∀x:Nat,(x:Int)<l.length->aH (((fk (aU x l)).length:Int)+(aC l x).length):=λx h=>bV (by grind)
  repeat' first|with_reducible apply br|with_reducible intro
  all_goals repeat with_reducible cases‹_/\_›
  all_goals grind)
noncomputable def RL:=Q9.adk aDb
def yO(a b:V):bq a b<0↔bf a b=true:=by unfold bq bf aFK;grind
def E1(a:V):bf a a=false:=by unfold bf;grind
noncomputable def aEJ:Con:=con (ac (aL .V) (a1 (aF 77))) (λ(r,_)=>[0<r.length,r.length<=1000]) (λ(r,_)=>aV.enc (aFG r (dP r)))
def aDe:aEJ.Okz 170:=ak RL (λ(r,_)=>[(5,.mk Nat (λF _=>lh F 6) [] (λk=>[0<k,k<=r.length]) (λk=>[(6,.iqz (k:Int))]) (λk=>[(7,.box 44 [.iqz (aFG r (dH r k)).x,.iqz (aFG r (dH r k)).y])]) (λk=>r.length-k) bX)]
  ) (λ(_,_)=>⟨_,rfl⟩) λ(r,u) hp=>aZ (aA (0:Nat) λC=>aA (dP r) λE=>aA (r.length:Int) λF=>aA (dH r 1) λK=>(F<1->False)/\
 (¬F<1->ix 0 r.length/\(1=(1:Int)/\(aFG r 0).x=(aFG r K).x/\(aFG r 0).y=(aFG r K).y/\C<1/\(1:Nat)<=r.length)/\
  (∀x:Nat,aA (x+1) λA=>aA (x:Int) λB=>aA (aFG r x) λD=>aA (aFG r (dH r x)) λH=>aA (aFG r (dH r A)) λJ=>aA ((x+1:Nat):Int) λL=>C<x/\x<=r.length->(B<r.length->ix B r.length/\(bq D H<0->ix B r.length/\aH (B+1)/\B+1=L/\D.x=J.x/\D.y=J.y/\C<x+1/\x+1<=r.length/\r.length-A<r.length-x)/\
    (¬bq D H<0->aH (B+1)/\B+1=L/\H.x=J.x/\H.y=J.y/\C<x+1/\x+1<=r.length/\r.length-A<r.length-x))/\
   (¬B<r.length->H.x=(aFG r E).x/\H.y=(aFG r E).y)))) (by kernel_rfl) (by
  change 0<r.length/\r.length<=1000 at hp;have e0:dH r 1=0:=by unfold dH dH;split<;>rfl
  have e1:∀x:Nat,bq (aFG r x) (aFG r (dH r x))<0->dH r (x+1)=x:=λx h=>if_pos ((yO _ _).1 h);have e2:∀x:Nat,¬bq (aFG r x) (aFG r (dH r x))<0->dH r (x+1)=dH r x:=λx h=>if_neg λh2=>h ((yO _ _).2 h2);have e3:∀x:Nat,¬(x:Int)<r.length->x<=r.length->dH r x=dP r:=λx h1 h2=>by rw[show x=r.length by omega];rfl
  with_reducible ((repeat' first|apply br|intro);all_goals repeat cases‹_/\_›)
  all_goals grind)
noncomputable def RO:=RL.adk aDe
noncomputable def aEK:Con:=con (ac (aL .V) (a1 aV)) (λ(r,_)=>[r.length<=1000]) (λ(r,v)=> .iqz (fI (λx=>decide (v=x)) r))
def aDf:aEK.Okz 169:=ak RO (λ(r,v)=>[cnt 2 8 r.length (aK λj=>decide (v=aFG r j)=false)]
  ) (λ(_,_)=>⟨_,rfl⟩) λ(r,v) hp=>aZ ((0=(0:Int)/\(0:Nat)<=r.length/\aK (λj=>decide (v=aFG r j)=false) 0)/\
 (∀x:Nat,aA (x:Int) λA=>x<=r.length/\aK (λj=>decide (v=aFG r j)=false) x->(A<r.length->ix A r.length/\(v=(aFG r x)->A=fI (λx=>decide (v=x)) r)/\
   (¬v=(aFG r x)->aH (A+1)/\A+1=((x+1:Nat):Int)/\x+1<=r.length/\aK (λj=>decide (v=aFG r j)=false) (x+1)/\r.length-(x+1)<r.length-x))/\
  (¬A<r.length-> -1=fI (λx=>decide (v=x)) r))) (by kernel_rfl) (by
  change r.length<=1000 at hp
  with_reducible ((repeat' first|apply br|intro);all_goals repeat cases‹_/\_›)
  all_goals first|rfl|exact qm (t:= .V) (by omega) (decide_eq_true ‹_›) ‹_› |(obtain rfl:_=r.length:=ui ‹_› (by omega);exact tn (t:= .V) ‹_›)|grind)
noncomputable def RP:=RO.adk aDf
noncomputable def aFo:Con:=con (a1 (aL .V)) (λr=>[r.length<=1000]) (λr=> .lst .V (dD r)
 )
def aDS:aFo.Okz 126:=ak RP bX (λ_=>⟨_,rfl⟩) λr hp=>aZ (aA (aFG r (dP r)) λB=>aA (!cY r) λC=>r.length<=1000/\(C=true->dD r=([] :List V))/\
 (C=false->(0:Nat)<r.length/\r.length<=1000/\r.length<=1000/\(0<=fI (λx=>decide (B=x)) r/\fI (λx=>decide (B=x)) r<=r.length)/\(0<=fI (λx=>decide (B=x)) r/\fI (λx=>decide (B=x)) r<=r.length)/\[db (fI (λx=>decide (B=x)) r).toNat r,aU (fI (λx=>decide (B=x)) r).toNat r].length<=1000/\(0:Nat)<(fk [db (fI (λx=>decide (B=x)) r).toNat r,aU (fI (λx=>decide (B=x)) r).toNat r]).length/\(fk [db (fI (λx=>decide (B=x)) r).toNat r,aU (fI (λx=>decide (B=x)) r).toNat r]).length<=1000/\fk [db (fI (λx=>decide (B=x)) r).toNat r,aU (fI (λx=>decide (B=x)) r).toNat r] =dD r)) (by kernel_rfl) (by
  change r.length<=1000 at hp;have h0:(!cY r)=false->0<r.length:=λh=>by have:=((D4 r).1 (nb h)).1;omega
  have hf:0<r.length->fI (λx=>decide (aFG r (dP r)=x)) r=(dP r:Int):=λh=>by
   have hl:=nV h;symm;exact qm (t:= .V) hl (decide_eq_true rfl) λj hj=>decide_eq_false λe=>by have:=Dr r r.length j hj;rw[show dH r r.length=dP r from rfl,e]at this;exact absurd ((E1 (aFG r j)).symm.trans this) (by decide)
  refine⟨hp,λh=>by unfold dD;grind,λh=> ?_⟩;have h1:=h0 h;have hl:=nV h1;rw[hf h1];have hc:[db ((dP r:Nat):Int).toNat r,aU ((dP r:Nat):Int).toNat r].flatten=dD r:=by unfold dD;rw[nb h];simp[bw]
  grind)
noncomputable def SD:=RP.adk aDS
def aPR:Ar aD where
 enc r:= .pro [.lst .V r] 0
 dec s:=match s with
  | .pro [x] 0=>pZ .V x
  |_=>none
 ok s a h:=by
  split at h
  .have e:=rZ h;show(match bT (avs [_])with|some q=>AV.p (.pro q 0)|none=> .any)=_;rw[avs,avs,e];rfl
  .cases h
 pl _:=⟨_,rfl⟩
def aPi:Ar Int where
 enc n:= .pro [.int .i64 n] 0
 dec s:=match s with
  | .pro [.int .i64 n] 0=>some n
  |_=>none
 ok s a h:=by grind
 pl _:=⟨_,rfl⟩
def aCl(f:Nat){α:Type}(A:Arl α):Ar α where
 enc a:= .fnp f [] (A.enc a)
 dec s:=match s with
  | .fnp g [] b=>(match bF g f with|true=>A.dec b|false=>none)
  |_=>none
 ok s a h:=by
  split at h
  .split at h
   .rename_i b e;have:=A.ok _ _ h;simp only[SV.av,this];simp_all
   .cases h
  .cases h
 pl a:=by obtain⟨q,h⟩:=A.pl a;exact⟨.fn (.func f) [] q,by simp only[SV.av,h,avs,dV];rfl⟩
def Qo:Ar (aD×Int×Unit):=aCl 179 (ac aPR (ac aPi a0))
def CL{t:LT}{l:List t.ty}{q:t.ty->Bool}{j:Nat}(hj:j<l.length)(h:q (t.nth l j)=false):l.all q=false:=
 ug.2 ⟨_,List.getElem_mem hj,by rw[<-t.nth_eq l hj,h];simp⟩
def Bv{t:LT}{l:List t.ty}{q:t.ty->Bool}(h:aK (λj=>q (t.nth l j)=true) l.length):l.all q=true:=
 bh.2 λx hx=>by obtain⟨j,hj,rfl⟩:=jS hx;have:=h j hj;dsimp only at this;rwa[t.nth_eq l hj]at this
noncomputable def aEH:Con:=con (ac aV (ac aPR (a1 aPi))) (λ(_,r,_)=>[r.length<=1000]) (λ(v,r,p)=> .bool (decide (¬cT r v=p))
 )
def aDc:aEH.Okz 179:=ak SD (λ(_,_,_)=>[]) (λ(_,_,_)=>⟨_,rfl⟩) λ(v,r,p) hp=>aZ (r.length<=1000/\decide (¬cT r v=p)=decide (¬cT r v=p)) (by kernel_rfl) (by change r.length<=1000 at hp;grind)
noncomputable def RM:=SD.adk aDc
noncomputable def aEY:Con:=con (ac (aL .V) (a1 Qo)) (λ(l,c)=>[l.length<=1000000,c.1.length<=1000]) (λ(l,c)=> .iqz (fI (λv=>decide (¬cT c.1 v=c.2.1)) l))
def aDs:aEY.Okz 156:=ak RM (λ(l,c)=>[cnt 2 8 l.length (aK λj=>decide (¬cT c.1 (aFG l j)=c.2.1)=false)]
  ) (λ(_,_)=>⟨_,rfl⟩) λ(l,c) hp=>aZ ((0=(0:Int)/\(0:Nat)<=l.length/\aK (λj=>decide (¬cT c.1 (aFG l j)=c.2.1)=false) 0)/\
 (∀x:Nat,aA (x:Int) λA=>x<=l.length/\aK (λj=>decide (¬cT c.1 (aFG l j)=c.2.1)=false) x->(A<l.length->ix A l.length/\c.1.length<=1000/\(decide (¬cT c.1 (aFG l x)=c.2.1)=true->A=fI (λv=>decide (¬cT c.1 v=c.2.1)) l)/\
   (decide (¬cT c.1 (aFG l x)=c.2.1)=false->aH (A+1)/\A+1=((x+1:Nat):Int)/\x+1<=l.length/\aK (λj=>decide (¬cT c.1 (aFG l j)=c.2.1)=false) (x+1)/\l.length-(x+1)<l.length-x))/\
  (¬A<l.length-> -1=fI (λv=>decide (¬cT c.1 v=c.2.1)) l))) (by kernel_rfl) (by
  change l.length<=1000000/\c.1.length<=1000 at hp
  with_reducible ((repeat' first|apply br|intro);all_goals repeat cases‹_/\_›)
  all_goals first|rfl|exact qm (t:= .V) (by omega) ‹_› ‹_› |(obtain rfl:_=l.length:=ui ‹_› (by omega);exact tn (t:= .V) ‹_›)|grind)
noncomputable def Rh:=RM.adk aDs
noncomputable def c84:Con:=con (ac (aL .V) (a1 Qo)) (λ(l,c)=>[l.length<=1000000,c.1.length<=1000]) (λ(l,c)=> .bool (l.any λv=>decide (¬cT c.1 v=c.2.1))
 )
def k84:c84.Okz 83:=ak Rh (λ(_,_)=>[]) (λ(_,_)=>⟨_,rfl⟩) λ(l,c) hp=>aZ (l.length<=1000000/\c.fst.length<=1000/\decide (0<=fI (λv=>decide (¬cT c.fst v=c.2.1)) l)=fh l (λv=>decide (¬cT c.1 v=c.2.1))) (by kernel_rfl) (by change l.length<=1000000/\c.1.length<=1000 at hp;exact⟨hp.1,hp.2,vn _ _⟩)
noncomputable def t84:=Rh.adk k84
noncomputable def Sr:Con:=con (ac (aL .V) (ac (aL .V) (a1 aI))) (λ(r,q,_)=>[r.length<=1000,q.length<=1000]) (λ(r,q,p)=> .bool (Geo.bT r q p)
 )
def Sk:Sr.Okz 123:=ak t84 (λ(_,_,_)=>[]) (λ(_,_,_)=>⟨_,rfl⟩) λ(r,q,p) hp=>aZ (r.length<=1000000/\q.length<=1000/\(!fh r (λv=>decide (¬cT q v=p)))=Geo.bT r q p) (by kernel_rfl) (by change r.length<=1000/\q.length<=1000 at hp;refine⟨by omega,hp.2,?_⟩;unfold Geo.bT;grind)
noncomputable def SG:=t84.adk Sk
noncomputable def Sq:Con:=con (ac (aL .V) (a1 (aL .V))) (λ(a,b)=>[a.length<=1000,b.length<=1000]) (λ(a,b)=> .bool (fH a b))
def Sj:Sq.Okz 124:=ak SG (λ(a,b)=>[cnt 2 12 (aJ a).length (aK λi=>((aJ b).all λy=>cF (aW (aJ a) i) y==0)=true) λi=>[cnt 5 19 (aJ b).length (aK λk=>(cF (aW (aJ a) i) (aW (aJ b) k)==0)=true)]]
  ) (λ(_,_)=>⟨_,rfl⟩) λ(a,b) hp=>aZ (aA (aJ a) λC=>aA (aJ b) λE=>a.length<=1000/\(0=(0:Int)/\(0:Nat)<=C.length/\aK (λi=>mf E (λy=>cF (aW C i) y==0)=true) 0)/\
 (∀x:Nat,aA (x:Int) λA=>aA (aW C x) λD=>x<=C.length/\aK (λi=>mf E (λy=>cF (aW C i) y==0)=true) x->(A<C.length->ix A C.length/\x<C.length/\b.length<=1000/\(0=(0:Int)/\(0:Nat)<=E.length/\aK (λk=>(cF D (aW E k)==0)=true) 0)/\
   (∀x_1:Nat,aA (x_1:Int) λB=>x_1<=E.length/\aK (λk=>(cF D (aW E k)==0)=true) x_1->(B<E.length->ix B E.length/\x_1<E.length/\(¬cF D (aW E x_1)=0->false=fH a b)/\
     (¬(¬cF D (aW E x_1)=0)->aH (B+1)/\B+1=((x_1+1:Nat):Int)/\x_1+1<=E.length/\aK (λk=>(cF D (aW E k)==0)=true) (x_1+1)/\E.length-(x_1+1)<E.length-x_1))/\
    (¬B<E.length->aH (A+1)/\A+1=((x+1:Nat):Int)/\x+1<=C.length/\aK (λi=>mf E (λy=>cF (aW C i) y==0)=true) (x+1)/\C.length-(x+1)<C.length-x)))/\
  (¬A<C.length->true=fH a b))) (by kernel_rfl) (by
  change a.length<=1000/\b.length<=1000 at hp;have el:∀r:aD,r.length<=1000->(aJ r).length<=1000:=λr h=>by unfold aJ;grind
  have ea:=el a hp.1;have eb:=el b hp.2;have h1:∀x y:Nat,(x:Int)<(aJ a).length->(y:Int)<(aJ b).length->¬cF (aW (aJ a) x) (aW (aJ b) y)=0->false=fH a b:=λx y hx hy h=>
   (CL (t:= .S) (l:=aJ a) (j:=x) (by omega) (CL (t:= .S) (l:=aJ b) (q:=λy=>cF (aW (aJ a) x) y==0) (j:=y) (by omega) (beq_eq_false_iff_ne.2 h))).symm
  have h2:∀x:Nat,¬(x:Int)<(aJ a).length->x<=(aJ a).length->aK (λi=>((aJ b).all λy=>cF (aW (aJ a) i) y==0)=true) x->true=fH a b:=λx hx hx2 h=>by
   obtain rfl:x=(aJ a).length:=by omega
   exact(Bv (t:= .S) h).symm
  have h3:∀x y:Nat,¬(y:Int)<(aJ b).length->y<=(aJ b).length->aK (λk=>(cF (aW (aJ a) x) (aW (aJ b) k)==0)=true) y->((aJ b).all λz=>cF (aW (aJ a) x) z==0)=true:=λx y hy hy2 h=>by
   obtain rfl:y=(aJ b).length:=by omega
   exact Bv (t:= .S) h
  with_reducible ((repeat' first|apply br|intro);all_goals repeat cases‹_/\_›)
  all_goals first|rfl|with_reducible solve_by_elim|exact cB ‹_› (h3 _ _ ‹_› ‹_› ‹_›)|exact cB ‹_› (beq_iff_eq.2 (sk ‹¬¬_›))|grind)
noncomputable def Cs:=SG.adk Sj
end Go.Proofs.YthbofdolalagjaaGreat
