/- What the statement stands on: contracts of functions, plain laws. Part 5 of 7, no condition of its own. (E16 J2 J3 J4 J5 K42 J6 J7 J8 K18 K41 N0 N00 Shelf J9 J10 J12 K13 K14 K26 L2 K27 K28 K29 K30 J15 K31) -/
import Derived.Test.YthbofdolalagjaaGreatCS4
import Derived.OrdersIn
import Derived.RangeFuncCalls
import Derived.TacticsIn
import Derived.RangeFuncNested
import Derived.RangeFuncBound
import Derived.RangeFuncLeaves
import Derived.RangeFuncFrom
import Derived.Shelf.Abstract
import Derived.OwnWalkIn
import Derived.TacticsInMore
import Derived.LoopNIn
import Derived.LoopIn
import Derived.Deep.DeepCutAuto
import Derived.Calls
set_option linter.all false
set_option maxRecDepth 100000
set_option maxHeartbeats 8000000
open Go.Region renaming wanted->iz,binds->iT
open Go.Oper renaming semAt_some->zq
open Array renaming replicate->oe,getD_eq_getD_getElem?->gh,getElem?_eq_some_iff->JD,replicate_succ->xJ,replicate_zero->xK
open List renaming range->bM,all_eq_true->bh,mem_range->cD,any_eq_true->jd,getElem?_eq_getElem->dw,flatMap_cons->ff,length_append->fM,length_cons->iE,length_nil->lr,getElem?_append_right->lO,getElem?_eq_some_iff->zZ,getElem?_map->gr,map_flatMap->JE,mem_cons_self->cI,size_toArray->ue,push_toArray->xL,append_toArray->xM,nil_append->q7,cons_append->kM,take_add_one->l0,getD_eq_getElem?_getD->eI,mem_cons_of_mem->cG,take_length->si,all_eq_false->ug,map->dZ,length->eQ,mem_append->bl,map_map->dU,length_map->di,mem_cons->bI,not_mem_nil->cq,flatMap_map->Iw,foldl_cons->zJ,map_cons->dX,getElem?_take->pp,getElem?_drop->wq,length_eq_zero_iff->p7,mem_of_getElem?->TJ,mem_map->bR,any_eq_false->zn,Perm.refl->DF,Pairwise.nil->wi,exists_mem_of_ne_nil->Iy,pairwise_map->km,pairwise_iff_getElem->sW,Perm.eq_of_pairwise->S4,nodup_append->lv,take->aU,take_succ_eq_append_getElem->mc,map_append->dM,take_of_length_le->iV,any->fh,all->mf,flatten->fk,flatten_append->uh,flatten_singleton->TO,take_append_drop->uX,getElem_mem->nR,getElem_map->kJ,pairwise_cons->iS,replicate->cl,length_set->zf,length_replicate->ze,getD->kP,set->nU,length_singleton->uP,length_take->mX,length_pos_of_mem->JF,mem_singleton->bn,filter->sm,drop->db,Nodup->sn,flatMap->kn
open Option renaming map_some->eJ,getD_some->lz,some.injEq->fg
open Bool renaming and_eq_true->bj,or_eq_true->jQ,true_and->jM,eq_iff_iff->fL,eq_false_iff->pu
open Go.Act renaming put->og
open Nat renaming zero_add->kN,lt_of_lt_of_le->xC,le_trans->cL,reduceAdd->xH,reduceSub->xI,le_refl->bZ,eq_zero_or_pos->qz,zero_le->kK,mod_lt->bz,le_of_eq->Di,le_antisymm->ui,mul_le_mul->nP
open Go.Proofs.Tryz renaming prog->bH,func178->Dg,underlying24->Dh
open Go.Value renaming int->cg,ownBlock->DV
open Go.World renaming cell?_of_block->je,ownsRow_nil->I6,block_lt_of_cell?->kO
open And renaming intro->br
open Decidable renaming of_not_not->sk
open Go.Sem renaming run->gF
open Go.Result renaming ok->zt
open Go.Sort renaming grow->Dj
open Function renaming comp->DH
open Int renaming tmod->cZ,tdiv->eK,toNat_natCast->jf
open Prod renaming snd->DP
open Go.RowKit
open Go.Proofs.YthbofdolalagjaaGreat.Geo
open Go.Proofs.YthbofdolalagjaaGreat.Geo renaming nth->aFG,bT->aFN,V->aFH,rowP->aFO,sub->aFJ
namespace Go.Proofs.YthbofdolalagjaaGreat
def Z8{r n:Nat}{P:Program}{row:String}{args:Array Value}{w:World}{R:Value->World->Prop}(h:Rows P row args w R):RowsIn (Fence.wide.inRound r) n P row args w R:=
 λc cs _=>let⟨v,w',hr,s⟩:=h c cs;⟨v,w',hr,stepsIn_wide.2 s⟩
def rM{r n:Nat}{P:Program}{ops:Array Oper}{Q:Exit->Act->World->Prop}(hd:∀(i:Nat) (o:Oper),ops[i]? =some o->∀c,o.op≠ .defer c)(hno:¬LetsOut Q):
  ∀(l:List Nat) (a:Act) (w:World),wpOps P ops Q l a w->wpOpsIn (Fence.wide.inRound r) n P ops Q l a w
 |[],_,_,h=>h
 |i::rest,a,w,h=>by
  unfold wpOps at h;unfold wpOpsIn;cases ho:ops[i]? with
  |none=>rw[ho]at h;exact rM hd hno rest a w h
  |some o=>
   rw[ho]at h;simp only[]at h|-;by_cases hw:iz o (yielded ops a.tmps)=true
   .rw[if_pos hw]at h|-;rcases h with h|⟨_,h⟩
    .refine⟨λ_ _=>trivial,?_⟩;show o.uponIn _ n P a _ Q ((Oper.semAt (some r) a.eval o).run P w);rw[zq r a.eval o (hd i o ho)];unfold Oper.wp at h;generalize (execOp a.eval o).run P w=res at h|-;cases res with
     |ok x w'=>
      cases x with
      |value v=>exact rM hd hno rest _ _ h
      |skip=>exact rM hd hno rest _ _ h
      |defer d=>exact rM hd hno rest _ _ h
      |enter f args=>
       refine⟨λh=>by simp[Fence.wide]at h,CallsIn.inRound r (callsIn_wide.2 (Calls.mono h ?_))⟩;intro e w'' he;cases e with
       |returned v=>exact rM hd hno rest _ _ he
       |panicked c=>exact he
       |outgrown=>exact he
      |row row args=>
       refine⟨λh=>by simp[Fence.wide]at h,Z8 (Rows.mono h ?_)⟩;intro v w'' he;exact rM hd hno rest _ _ he
      |_=>exact h.elim
     |halt x w'=>cases x<;>first|exact h|exact h.elim
    grind
   .rw[if_neg hw]at h|-;exact⟨λ_ _=>trivial,rM hd hno rest _ _ h⟩
def QW(Q:Exit->Act->World->Prop):Exit->Act->World->Prop:=λe a w=>e= .normal/\Q .normal a w
def Yn(Q:Exit->Act->World->Prop):¬LetsOut (QW Q):=λh=>by obtain⟨a,w,e,_⟩:=h;cases e
def Ym{F:Fence}{n:Nat}{P:Program}{c:Code}{Q:Exit->Act->World->Prop}{a:Act}{w:World}(h:c.wpIn F n P (QW Q) a w):c.wpIn F n P Q a w:=
 wpIn_mono h λe a w he=>by obtain⟨rfl,he⟩:=he;exact he
def Tc{P:Program}{ops:Array Oper}{Q:Exit->Act->World->Prop}{a0:Act}{w0:World}
  (hac:∀(i:Nat) (o:Oper),ops[i]? =some o->∀e∈o.after.toList,iT .any e=true->e.on<i)
  (Inv:(Nat->Bool)->Act->World->Prop) (h0:Inv (λ_=>false) a0 w0.drew)
  (hstep:∀(i:Nat) (o:Oper) (D:Nat->Bool) (a:Act) (w:World),ops[i]? =some o->Inv D a w->D i=false->(∀e∈o.after.toList,iT .any e=true->D e.on=true)->
    wpOp P ops Q i (λa' w'=>Inv (λj=>if j=i then true else D j) a' w') a w)
  (hend:∀(D:Nat->Bool) (a:Act) (w:World),Inv D a w->(∀i,i<ops.size->D i=true)->Q .normal a w):
  wpAny P .any ops Q ops.size (oe ops.size false) a0 w0.drew:=by
 refine(K3 hac Inv hstep hend _ _ _ _ (by simp) ?_ ?_)
 .simp
 .have e:(λj=>(oe ops.size false).getD j false)=(λ_=>false):=by
   funext j
   rw[gh,Array.getElem?_replicate];split<;>rfl
  grind
def T5{P:Program}{ops:Array Oper}{Q:Exit->Act->World->Prop}{a0:Act}{w0:World}
  (dsts:List Nat)
  (hok:((bM ops.size).all λi=>((ops[i]?).map λo=>(o.after.toList.all λe=> !iT .any e||decide (e.on<i))&&(match o.dst with|some d=>dsts.contains d|none=>true)).getD true)=true)
  (hds:∀s∈dsts,s<a0.tmps.size)
  (F:(Nat->Bool)->(Nat->Value)->World->Prop) (h0:F (λ_=>false) (λs=>a0.tmps.getD s undef) w0.drew)
  (hstep:∀(i:Nat) (o:Oper) (D:Nat->Bool) (V:Nat->Value) (w:World),ops[i]? =some o->F D V w->D i=false->(∀e∈o.after.toList,iT .any e=true->D e.on=true)->
    (∀s,s∉dsts->V s=a0.tmps.getD s undef)->
    if iz o (gdV ops V)=true then
     cQ P o V w (λv w'=>F (λj=>if j=i then true else D j) (match o.dst with|some d=>λs=>if s=d then v else V s|none=>V) w')
    else F (λj=>if j=i then true else D j) (match o.dst with|some d=>λs=>if s=d then undef else V s|none=>V) w)
  (hend:∀(D:Nat->Bool) (V:Nat->Value) (w:World),F D V w->(∀i,i<ops.size->D i=true)->Q .normal (iZ a0 dsts V) w):
  wpAny P .any ops Q ops.size (oe ops.size false) a0 w0.drew:=by
 have hops:∀(i:Nat) (o:Oper),ops[i]? =some o->(∀e∈o.after.toList,iT .any e=true->e.on<i)/\(∀d,o.dst=some d->d∈dsts):=by
  intro i o ho;have hi:i<ops.size:=by grind
  rw[bh]at hok;have:=hok i (cD.2 hi);rw[ho]at this;simp only[eJ,lz,bj]at this;obtain⟨g2,g3⟩:=this;refine⟨?_,?_⟩
  .grind
  .grind
 refine Tc (by grind) (λD a w=>a.defers=a0.defers/\a.tmps.size=a0.tmps.size/\(∀s,s∉dsts->a.tmps.getD s undef=a0.tmps.getD s undef)/\F D (λs=>a.tmps.getD s undef) w) (by grind) ?_ ?_
 .intro i o D a w ho ⟨i1,i2,i3,i4⟩ hD hpre;obtain⟨_,hdst⟩:=hops i o ho;have hrun:=hstep i o D (λs=>a.tmps.getD s undef) w ho i4 hD hpre i3;have hput:∀(v:Value) (w':World),F (λj=>if j=i then true else D j) (match o.dst with|some d=>λs=>if s=d then v else a.tmps.getD s undef|none=>λs=>a.tmps.getD s undef) w'->
    (a.put o.dst v).defers=a0.defers/\(a.put o.dst v).tmps.size=a0.tmps.size/\(∀s,s∉dsts->(a.put o.dst v).tmps.getD s undef=a0.tmps.getD s undef)/\F (λj=>if j=i then true else D j) (λs=>(a.put o.dst v).tmps.getD s undef) w':=by
   intro v w' hF;cases hd:o.dst with
   |none=>rw[hd]at hF;exact⟨i1,i2,i3,hF⟩
   |some d=>
    have hdm:=hdst d hd;have hget:∀s,(a.put (some d) v).tmps.getD s undef=if s=d then v else a.tmps.getD s undef:=by
     intro s;simp only[og,gh,Array.getElem?_setIfInBounds];by_cases e:d=s
     .grind
     .grind
    refine⟨i1,by simpa[og]using i2,?_,?_⟩
    .intro s hs;rw[hget,if_neg (by grind)];exact i3 s hs
    .have e:(λs=>(a.put (some d) v).tmps.getD s undef)=(λs=>if s=d then v else a.tmps.getD s undef):=funext hget;grind
  unfold wpOp;rw[ho];simp only[];rw[D2];by_cases hw:iz o (gdV ops λs=>a.tmps.getD s undef)=true
  .rw[if_pos hw]at hrun|-;refine .inl ?_;unfold Oper.wp;rw[Act.eval_evalV];unfold cQ at hrun;cases hr:(execOp (bJ λs=>a.tmps.getD s undef) o).run P w with
   |halt x w'=>grind
   |ok n w'=>
    rw[hr]at hrun;cases n<;>simp only[]at hrun<;>first|exact hrun.elim|skip
    .exact hput _ _ hrun
    .exact hput _ _ hrun
    .rename_i f args;refine hrun.mono ?_;rintro e w'' ⟨v,rfl,hK⟩;exact hput _ _ hK
  .rw[if_neg hw]at hrun|-;exact hput _ _ hrun
 .intro D a w ⟨i1,i2,i3,i4⟩ hall;obtain⟨p1,p2,p3⟩:=AA (λs=>a.tmps.getD s undef) dsts a0 hds;have e:iZ a0 dsts (λs=>a.tmps.getD s undef)=a:=by
   obtain⟨t,df⟩:=a;have ht:(iZ a0 dsts (λs=>t.getD s undef)).tmps=t:=by
    apply Array.ext
    .rw[p2];exact i2.symm
    .intro s h1 h2;have h3:=p3 s (by grind);rw[gh,Array.getElem?_eq_getElem h1,lz]at h3;rw[h3];by_cases hm:s∈dsts
     .rw[if_pos hm];simp[gh,h2]
     .rw[if_neg hm,<-i3 s hm];simp[gh,h2]
   have hdf:(iZ a0 dsts (λs=>t.getD s undef)).defers=df:=p1.trans i1.symm;show iZ a0 dsts (λs=>t.getD s undef)={tmps:=t,defers:=df};cases hp:iZ a0 dsts (λs=>t.getD s undef)with
   |mk t' df'=>
    grind
  grind
def T6{P:Program}{l:List Oper}{Q:Exit->Act->World->Prop}{a0:Act}{w0:World}
  (dsts:List Nat) (anc:List (List Nat)) (hok:okF l anc=true) (hdst:((bM l.length).all λi=>dd l i==1000000||dsts.contains (dd l i))=true) (hds:∀s∈dsts,s<a0.tmps.size)
  (WR:(Nat->Bool)->World->Prop) (fact:Nat->Value->World->Prop) (h0:WR (λ_=>false) w0.drew)
  (hmono:∀j v w w',fact j v w->Below w.heap.size w w'->fact j v w')
  (hstep:Bd (QR P l anc a0 WR fact) l 0)
  (hend:∀(D:Nat->Bool) (V:Nat->Value) (w:World),(∀i,i<l.length->D i=true)->(∀i,i<l.length->fact i (mK l V i) w)->WR D w->Q .normal (iZ a0 dsts V) w):
  wpAny P .any l.toArray Q l.toArray.size (oe l.toArray.size false) a0 w0.drew:=by
 unfold okF at hok;rw[bh]at hok;have hget:∀i o,l[i]? =some o->i<l.length:=by grind
 have hop:∀i o,l[i]? =some o->(∀e∈o.after.toList,iT .any e=true->e.on<i/\(fu anc i).contains e.on=true)/\o.guard=none/\
   (∀j,(fu anc i).contains j=true->j<i/\∃e∈o.after.toList,iT .any e=true/\(e.on=j\/(fu anc e.on).contains j=true))/\(∀d,o.dst=some d->dd l i=d/\d≠1000000)/\(o.dst=none->dd l i=1000000):=by
  intro i o ho;have h1:=hok i (cD.2 (hget i o ho));simp only[bj]at h1;obtain⟨⟨h2,h3⟩,_⟩:=h1;rw[ho]at h2;simp only[eJ,lz,bj,Option.isNone_iff_eq_none,bne_iff_ne,ne_eq]at h2;refine⟨?_,h2.1.2,?_,?_,?_⟩
  .grind
  .intro j hj;rw[bh]at h3;have:=h3 j (by grind);simp only[bj,decide_eq_true_eq]at this;obtain⟨h4,h5⟩:=this;refine⟨h4,?_⟩;rw[ho]at h5;simp only[eJ,lz,jd,bj,jQ,beq_iff_eq]at h5;exact h5
  .intro d hd;refine⟨by unfold dd;grind,?_⟩;grind
  .unfold dd;grind
 have huniq:∀i j,i<l.length->j<l.length->j≠i->dd l j=dd l i->dd l i=1000000:=by
  intro i j hi hj hne he;have h1:=hok i (cD.2 hi);simp only[bj]at h1;obtain⟨_,h3⟩:=h1;rw[bh]at h3;have:=h3 j (cD.2 hj);simp only[jQ,beq_iff_eq,bne_iff_ne,ne_eq]at this;rcases this with(h|h)|h
  .omega
  .omega
  .exact h
 let G:(Nat->Bool)->(Nat->Value)->World->Prop:=λD V w=>
  (∀i j,D i=true->(fu anc i).contains j=true->D j=true)/\(∀i,i<l.length->D i=true->fact i (mK l V i) w)/\
  (∀s,(∀j,j<l.length->dd l j=s->D j=false)->V s=a0.tmps.getD s undef)/\WR D w
 refine T5 dsts ?_ hds G ?_ ?_ ?_
 .rw[bh];intro i hi;have hi':=cD.1 hi;have ho:l[i]? =some l[i] :=dw hi';simp only[List.getElem?_toArray,ho,eJ,lz,bj];refine⟨?_,?_⟩
  .grind
  .cases hd:l[i].dst with
   |none=>rfl
   |some d=>
    grind
 .grind
 .intro i o D V w ho ⟨g1,g2,g3,g4⟩ hD hpre hV;have ho':l[i]? =some o:=by simpa using ho
  obtain⟨q1,q2,q3,q4,q5⟩:=hop i o ho';have hi:=hget i o ho';have hanc:∀j,(fu anc i).contains j=true->D j=true:=by
   intro j hj;obtain⟨_,e,he,hb,h⟩:=q3 j hj;have:=hpre e he hb;rcases h with rfl|h
   .exact this
   .grind
  have hdesc:∀j,(fu anc j).contains i=true->D j=false:=by
   intro j hj;cases hx:D j with
   |false=>rfl
   |true=>grind
  have hs:=Jg l 0 hstep i o ho';rw[kN]at hs;have hrun:=hs D V w hD (λj hj=>⟨hanc j hj,g2 j (Nat.lt_trans (q3 j hj).1 hi) (hanc j hj)⟩) hdesc (λs hsl=>g3 s (λj hj hjs=>by unfold Pr at hsl;grind)) g4
  rw[if_pos (by unfold iz;rw[q2])];have hmono':∀(K K':Value->World->Prop),(∀v w,K v w->K' v w)->cQ P o V w K->cQ P o V w K':=by
   intro K K' hk h;unfold cQ at h|-;split at h
   .grind
   .grind
   .exact h.mono λe w'' ⟨v,he,hv⟩=>⟨v,he,hk _ _ hv⟩
   .exact h.elim
  have key:∀(U:Nat->Value) (v:Value) (w':World),(∀s,s≠dd l i->U s=V s)->(dd l i≠1000000->U (dd l i)=v)->
    (fact i (if dd l i=1000000 then undef else v) w'/\WR (gp D i) w'/\(w'=w\/Below w.heap.size w w'\/∀j,D j=true->fact j (mK l V j) w->fact j (mK l V j) w'))->G (gp D i) U w':=by
   rintro U v w' hVd hVv ⟨k1,k2,k3⟩;refine⟨?_,?_,?_,k2⟩
   .intro i' j h1 h2;by_cases e:j=i
    .simp[gp,e]
    .by_cases e':i'=i
     .simp only[gp,e,if_false];grind
     .simp only[gp,e',if_false]at h1;simp only[gp,e,if_false];grind
   .intro i' hi' h1;by_cases e:i'=i
    .subst e;have:mK l U i'=if dd l i'=1000000 then undef else v:=by
      unfold mK;by_cases h6:dd l i'=1000000
      .grind
      .grind
     grind
    .simp only[gp,e,if_false]at h1;have:mK l U i'=mK l V i':=by
      unfold mK;by_cases h6:dd l i'=1000000
      .grind
      .grind
     rw[this];have h8:=g2 i' hi' h1;rcases k3 with rfl|k3|k3
     .exact h8
     .grind
     grind
   .intro s hs;have hne:s≠dd l i:=by intro h;have:=hs i hi h.symm;simp[gp]at this
    rw[hVd s hne];refine g3 s (λj hj hjs=> ?_);have:=hs j hj hjs;by_cases e:j=i
    .grind
    .simpa[gp,e]using this
  refine hmono' _ _ ?_ hrun;intro v w' hk;show G (gp D i) _ w';cases hd:o.dst with
  |none=>
   have e1:=q5 hd;refine key _ v w' ?_ (λh=>absurd e1 h) hk;grind
  |some d=>
   refine key _ v w' ?_ ?_ hk
   .grind
   grind
 grind
def Dq{r n:Nat}{P:Program}{id:Nat}{l:List Oper}{Q:Exit->Act->World->Prop}{a0:Act}{w0:World}(hm:P.follows .mixedOrders=true)
  (hdf:(l.all λo=>match o.op with| .defer _=>false|_=>true)=true)
  (dsts:List Nat) (anc:List (List Nat)) (hok:okF l anc=true) (hdst:((bM l.length).all λi=>dd l i==1000000||dsts.contains (dd l i))=true) (hds:∀s∈dsts,s<a0.tmps.size)
  (WR:(Nat->Bool)->World->Prop) (fact:Nat->Value->World->Prop) (h0:WR (λ_=>false) w0.drew)
  (hmono:∀j v w w',fact j v w->Below w.heap.size w w'->fact j v w')
  (hstep:Bd (QR P l anc a0 WR fact) l 0)
  (hend:∀(D:Nat->Bool) (V:Nat->Value) (w:World),(∀i,i<l.length->D i=true)->(∀i,i<l.length->fact i (mK l V i) w)->WR D w->Q .normal (iZ a0 dsts V) w):
  (Code.region id l.toArray true).wpIn (Fence.wide.inRound r) n P Q a0 w0:=by
 refine Ym (wpIn_region_draw λt=> ?_);simp only[Region.schedule,hm,Bool.true_or,if_true];refine rM ?_ (Yn Q) _ _ _ (wpAny_sound _ t _ _ _ (T6 dsts anc hok hdst hds WR fact h0 hmono hstep λD V w h1 h2 h3=>⟨rfl,by grind⟩));grind
def RdV(w:World)(a:Option Addr)(xs:List V):Prop:=
 ∀i,i<xs.length->∃b off,a=some ⟨b,off,none⟩/\b<w.heap.size/\w.cell? ⟨b,off+i*2,none⟩=some (.int .i64 (aFG xs i).x)/\w.cell? ⟨b,off+i*2+1,none⟩=some (.int .i64 (aFG xs i).y)
def RdV.below{w w':World}{a:Option Addr}{xs:List V}(h:RdV w a xs)(hb:Below w.heap.size w w'):RdV w' a xs:=by intro i hi;obtain⟨b,off,ha,hlt,h1,h2⟩:=h i hi;exact⟨b,off,ha,xC hlt hb.size,(hb.cell (p:=⟨b,_,none⟩) hlt).trans h1,(hb.cell (p:=⟨b,_,none⟩) hlt).trans h2⟩
def jE(xs:List S):List Value:=xs.flatMap λs=>[.int .i64 s.a.x,.int .i64 s.a.y,.int .i64 s.b.x,.int .i64 s.b.y]
def Je(xs:List S):(jE xs).length=xs.length*4:=by
 induction xs with
 |nil=>rfl
 |cons s l ih=>unfold jE at*;simp only[ff,fM,ih,iE,lr];omega
def UJ(xs ys:List S):jE (xs++ys)=jE xs++jE ys:=by unfold jE;grind
def Rd.Of{w:World}{base:Nat}{e:TypeId}{size:Nat}{v:Value}{n:Nat}{cs:List Value}(h:w.ownsRow base e size v n cs):∃a c,v= .slice a n c/\Rd w a cs/\jq base a/\(a=none->c=0)/\n<=c:=by
 obtain⟨a,c,hv,h1,h2,h3⟩:=Rd.HH h;refine⟨a,c,hv,h1,h2,h3,?_⟩;rcases h.2 with⟨h4,h5⟩|⟨g,cap,cur,h4,_,_,h5,_⟩
 .omega
 grind
def JZ{w:World}{base base':Nat}{e:TypeId}{size:Nat}{v:Value}{n:Nat}{xs:List Value}(h:w.ownsRow base e size v n xs)(hb:base'<=base):w.ownsRow base' e size v n xs:=
 ⟨h.1,h.2.imp id λ⟨g,cap,cur,h1,h2,h3⟩=>⟨g,cap,cur,h1,cL hb h2,h3⟩⟩
def lk(xs:List V):List Value:=xs.flatMap λv=>[.int .i64 v.x,.int .i64 v.y]
def Jd(xs:List V):(lk xs).length=xs.length*2:=by
 induction xs with
 |nil=>rfl
 |cons s l ih=>unfold lk at*;grind
def Lu(xs:List V):∀(i:Nat),i<xs.length->(lk xs)[i*2]? =some (.int .i64 (aFG xs i).x)/\(lk xs)[i*2+1]? =some (.int .i64 (aFG xs i).y):=by
 induction xs with
 |nil=>grind
 |cons s l ih=>
  intro i hi;have e:lk (s::l)=[.int .i64 s.x,.int .i64 s.y] ++lk l:=by unfold lk;rw[ff]
  rw[e];cases i with
  |zero=>simp[aFG]
  |succ i=>
   have h:=ih i (by grind);have e0:(i+1)*2=2+i*2:=by omega
   rw[e0,lO (by simp),lO (by simp;omega)];simpa[Nat.add_assoc,Nat.add_sub_cancel_left,aFG]using h
def RdV.aCc{w:World}{a:Option Addr}{xs:List V}(h:Rd w a (lk xs)):RdV w a xs:=by intro i hi;obtain⟨g0,g1⟩:=Lu xs i hi;obtain⟨b,off,ha,hlt,h0⟩:=h _ _ g0;obtain⟨b',off',he,_,h1⟩:=h _ _ g1;grind
structure RV where
 a:Option Addr
 c:Nat
 r:aD
instance:Inhabited RV:=⟨⟨none,0,[]⟩⟩
def RV.enc(x:RV):Value:= .slice x.a x.r.length x.c
def Len(x:RV):Prop:=x.r.length<=1000/\x.r.length<=x.c/\(x.a=none->x.c=0)
def oP(w:World):bG:=λb o v=>w.cell? ⟨b,o,none⟩=some v
def qG{w:World}{a:Option Addr}{c:Nat}{r:List V}(h:RdV w a r)(hl:Len ⟨a,c,r⟩):aY (oP w) (.sl r.length (fy r)) (.slice a r.length c):=by
 obtain⟨_,h2,h3⟩:=hl;dsimp only at h2 h3;unfold aY;refine⟨a,c,rfl,h2,λha=>⟨h3 ha,?_⟩,?_⟩
 .cases r with
  |nil=>rfl
  |cons v r=>grind
 .rintro ad rfl;refine⟨λh0=> ?_,dA.of _ _ _ λi x hi=> ?_⟩
  .obtain⟨b,off,hb,_⟩:=h 0 h0;cases hb;rfl
  .have hlt:i<(fy r).length:=(zZ.1 hi).1;rw[vw.length]at hlt;obtain⟨b,off,hb,_,h0,h1⟩:=h (i/2) (by omega);cases hb;have h4:=aAM (v:=r) (i:=i/2) (by omega);have g:∀j,j<2->(fy r)[i/2*2+j]? =([.int .i64 (aFG r (i/2)).x,.int .i64 (aFG r (i/2)).y] :List PV)[j]? :=λj hj=>by grind
   rcases Nat.mod_two_eq_zero_or_one i with hm|hm
   .have:=g 0 (by decide);rw[show i/2*2+0=i by omega,hi]at this;cases this;exact⟨_,by show w.cell? _=_;rw[show off+i=off+i/2*2 by omega];exact h0,rfl,by unfold aY;rfl⟩
   .have:=g 1 (by decide);rw[show i/2*2+1=i by omega,hi]at this;cases this;exact⟨_,by show w.cell? _=_;rw[show off+i=off+i/2*2+1 by omega];exact h1,rfl,by unfold aY;rfl⟩
def bK.one{C:bG}{x:PV}{v:Value}(h:aY C x v):bK C [x] [v] :=by unfold bK;exact⟨_,_,rfl,h,by unfold bK;rfl⟩
def bK.Ck{C:bG}{x:PV}{v:Value}{l:List PV}{vs:List Value}(h:aY C x v)(h2:bK C l vs):bK C (x::l) (v::vs):=by unfold bK;grind
def x8{f:FuncId}{xs:List SV}{r:SV}{B:List PV}{q:PV}{vs:List Value}{u:Value}{w:World}(h:∃A q,avs xs=A.map .p/\r.av= .p q/\Sat bH false f A q)(hB:avs xs=B.map .p)(hq:r.av= .p q)
  (hu:∀C v,aY C q v->v=u) (hr:bK (oP w) B vs):Calls bH f vs.toArray w λe w'=>e= .returned u/\Below w.heap.size w w':=by
 obtain⟨A,q',h1,h2,h3⟩:=h;rw[hq]at h2;cases h2;rw[hB]at h1;have:B=A:=by have:=congrArg bT h1;rw[dV,dV]at this;cases this;rfl
 subst this;refine(h3.2 (oP w) w vs (λ_ _ _ h=>h) hr).mono ?_;grind
def Tx(a:Option Addr)(c:Nat)(xs:List V)(w:World)(h:RdV w a xs)(hl:Len ⟨a,c,xs⟩):
  Calls bH 82 #[.slice a xs.length c] w λe w'=>e= .returned (.bool (cY xs))/\Below w.heap.size w w':=
 x8 (k83 [.lst .V xs] xs rfl ((jz (l:=c83.pre xs)).1 hl.1)) (B:=[.sl xs.length (fy xs)]) rfl rfl (λC v h=>by unfold aY at h;exact h) (bK.one (qG h hl))
def MD(a:Option Addr)(c:Nat)(xs:List V)(w:World)(h:RdV w a xs)(hl:Len ⟨a,c,xs⟩):
  Calls bH 88 #[.slice a xs.length c] w λe w'=>e= .returned (.int .i64 (if cY xs then area xs else 0))/\Below w.heap.size w w':=
 x8 (k89 [.lst .V xs] xs rfl ((jz (l:=c89.pre xs)).1 hl.1)) (B:=[.sl xs.length (fy xs)]) rfl rfl (λC v h=>by unfold aY at h;exact h) (bK.one (qG h hl))
def nt(a:Option Addr)(c:Nat)(xs:List V)(a':Option Addr)(c':Nat)(ys:List V)(p:Int)(w:World)(h':RdV w a' ys)(hl':Len ⟨a',c',ys⟩)(h:RdV w a xs)(hl:Len ⟨a,c,xs⟩):
  Calls bH 123 #[.slice a xs.length c,.slice a' ys.length c',.int .i64 p] w λe w'=>e= .returned (.bool (aFN xs ys p))/\Below w.heap.size w w':=
 x8 (Sk [.lst .V xs,.lst .V ys,.int .i64 p] (xs,ys,p) rfl ((jz (l:=Sr.pre (xs,ys,p))).1 ⟨hl.1,hl'.1⟩)) (B:=[.sl xs.length (fy xs),.sl ys.length (fy ys),.int .i64 p]) rfl rfl (λC v h=>by unfold aY at h;exact h)
  ((bK.one (by unfold aY;rfl)).Ck (qG h' hl')|>.Ck (qG h hl))
def BG(a:Option Addr)(c:Nat)(xs:List V)(a':Option Addr)(c':Nat)(ys:List V)(w:World)(h:RdV w a xs)(h':RdV w a' ys)(hl:Len ⟨a,c,xs⟩)(hl':Len ⟨a',c',ys⟩):
  Calls bH 124 #[.slice a xs.length c,.slice a' ys.length c'] w λe w'=>e= .returned (.bool (fH xs ys))/\Below w.heap.size w w':=
 x8 (Sj [.lst .V xs,.lst .V ys] (xs,ys) rfl ((jz (l:=Sq.pre (xs,ys))).1 ⟨hl.1,hl'.1⟩)) (B:=[.sl xs.length (fy xs),.sl ys.length (fy ys)]) rfl rfl (λC v h=>by unfold aY at h;exact h)
  ((bK.one (qG h' hl')).Ck (qG h hl))
def OZ{f:FuncId}{t:LT}{ty:Nat}{l:List t.ty}{n:List Int}(he:t.enc l=n.map (PV.int .i64)){a:Option Addr}{c:Nat}{xs:List V}{w:World}(h:RdV w a xs)(hl:Len ⟨a,c,xs⟩)
  (hk:∃A Y,avs [SV.lst .V xs] =A.map .p/\avs [] =Y.map .p/\wg bH f A ty t.w (t.enc l) l.length Y):
  Calls bH f #[.slice a xs.length c] w λe w'=>∃a' c',e= .returned (.slice a' l.length c')/\Rd w' a' (n.map (cg .i64))/\jq w.heap.size a'/\(a'=none->c'=0)/\l.length<=c'/\Below w.heap.size w w':=by
 obtain⟨A,Y,h1,h2,h3⟩:=hk;cases Y with
 |cons y Y=>simp[avs]at h2
 |nil=>
 have hA:A=[.sl xs.length (fy xs)] :=by have h1:[AV.p (.sl xs.length (fy xs))] =A.map .p:=h1;have:=congrArg bT h1;rw[dV]at this;cases this;rfl
 subst hA;refine(h3.2.2 (oP w) w [_] (λ_ _ _ h=>h) (bK.one (qG h hl))).mono ?_;rintro e w' ⟨v,us,q,c',rfl,hb,hys,hrow⟩;unfold bK at hys;subst hys;rw[he]at hrow;rcases hrow with⟨_,rfl,hm,hn,_⟩|⟨b,arr,_,rfl,h4,h5,h6,_,h7,_,h8⟩
 .refine⟨none,0,by rw[hm];rfl,(λi u hi=>by simp_all),(λb hb=>by cases hb),(λ_=>rfl),by omega,hb⟩
 .refine⟨some ⟨b,0,none⟩,c',rfl,λi u hi=> ?_,λb' hb'=>by grind,(λe=>by cases e),h4,hb⟩;rw[gr,Option.map_eq_some_iff]at hi;obtain⟨n,hn,rfl⟩:=hi;obtain⟨u,g1,_,g2⟩:=h8 i (.int .i64 n) (by grind);unfold aY at g2;subst g2;exact⟨b,0,rfl,(JD.1 h6).1,by rw[kN,cell_of_row w' b i arr ty (0,0) h6];exact g1⟩
def XV(a:Option Addr)(c:Nat)(xs:List V)(w:World)(h:RdV w a xs)(hl:Len ⟨a,c,xs⟩):
  Calls bH 154 #[.slice a xs.length c] w λe w'=>∃a' c',e= .returned (.slice a' (aJ xs).length c')/\Rd w' a' (jE (aJ xs))/\jq w.heap.size a'/\(a'=none->c'=0)/\Below w.heap.size w w':=by
 have e1:jE (aJ xs)=((aJ xs).flatMap λs=>[s.a.x,s.a.y,s.b.x,s.b.y]).map (cg .i64):=by unfold jE;rw[JE];rfl
 rw[e1];refine(OZ (t:= .S) (l:=aJ xs) (n:=(aJ xs).flatMap λs=>[s.a.x,s.a.y,s.b.x,s.b.y]) (by unfold LT.enc;rw[JE];rfl) h hl (Sf [.lst .V xs] xs rfl ((jz (l:=Sn.pre xs)).1 hl.1))).mono ?_;rintro e w' ⟨a',c',h1,h2,h3,h4,_,h5⟩;exact⟨a',c',h1,h2,h3,h4,h5⟩
section
open Go.RowKit Go.Shelf
attribute [local go_sem] zq
def RdH(n0:Nat)(w:World)(ah:Option Addr)(hs:List RV):Prop:=∀i,i<hs.length->∃b off,ah=some ⟨b,off,none⟩/\b<n0/\w.cell? ⟨b,off+i,none⟩=some (RV.enc (hs.getD i default))
def RdH.below{n0:Nat}{w w':World}{ah:Option Addr}{hs:List RV}(h:RdH n0 w ah hs)(hb:Below n0 w w'):RdH n0 w' ah hs:=by intro i hi;obtain⟨b,off,ha,hlt,h1⟩:=h i hi;exact⟨b,off,ha,hlt,(hb.cell (p:=⟨b,_,none⟩) hlt).trans h1⟩
def RdH.mono{n0 n1:Nat}{w:World}{ah:Option Addr}{hs:List RV}(h:RdH n0 w ah hs)(hn:n0<=n1):RdH n1 w ah hs:=by intro i hi;obtain⟨b,off,ha,hlt,h1⟩:=h i hi;grind
def Kp2(n0 b:Nat)(W W':World):Prop:=Below n0 W W'/\W'.heap[b]? =W.heap[b]?
def Kp2.trans{n0 b:Nat}{A B C:World}(h:Kp2 n0 b A B)(k:Kp2 n0 b B C):Kp2 n0 b A C:=⟨h.1.trans k.1,k.2.trans h.2⟩
def Kp2.blk{n0 b:Nat}{W W':World}{t:TypeId}{cs:Array Value}(h:Kp2 n0 b W W')(hb:Blk W b t cs):Blk W' b t cs:=h.2.trans hb
def Wp(F:Fence)(n:Nat)(h179:F.fn 178)(hro:F.round=none)(hn:1<=n)(l b n0:Nat)(o:RV)(ah:Option Addr)(ch:Nat)(hs:List RV)(hhs:hs.length<=1000)(J Jx:List RV->World->Prop)
  (hY:∀pre x W,x∈o::hs->J pre W->pre.length<hs.length+1->YieldAt F (n-1) bH l #[RV.enc x] W λe W'=>
    (e= .returned (.bool true)/\J (pre++[x]) W'/\Kp2 n0 b W W')\/(e= .returned (.bool false)/\Jx (pre++[x]) W'))
  (W:World) (hB:Blk W b 26 #[RV.enc o,.slice ah hs.length ch]) (hH:RdH n0 W ah hs) (h0:J [] W):
  CallsIn F n bH 178 #[.func (.yield l) #[] #[],.pointer (some ⟨b,0,none⟩)] W λe W'=>(∃v,e= .returned v)/\
   ((∃ys,ys=o::hs/\J ys W')\/(∃pre,pre<+:o::hs/\Jx pre W')):=by
 obtain⟨fn,tmps,assign,body,hy,hR⟩:=hY [] o W cI h0 (by simp);dsimp only[RV.enc]at hy;have c0:=hB.cell 0;have c1:=hB.cell 1;simp[RV.enc]at c0 c1;refine callsIn_of_wp Dg rfl h179 ?_ hro;simp only[Tryz.ntmps178,ue,iE,lr,xH,xI,xJ,xK,xL,xM,q7,kM]
 gi_wp2
 refine hR.mono ?_;rintro e W1 (⟨rfl,hJ1,hk1⟩|⟨rfl,hJx1⟩)
 .have hB1:=hk1.blk hB;have hH1:=hH.below hk1.1;clear c0 c1 hR hy;have c0:=hB1.cell 0;have c1:=hB1.cell 1;simp[RV.enc]at c0 c1
  gi_wp2
  gi_loopw [4,13] (λ_ i wr=>∃k:Nat,k<=hs.length/\i= .int .i64 k/\J (o::hs.take k) wr/\Kp2 n0 b W1 wr) (λ_ i _=>hs.length-(intOf i).toNat)
  case atStart=>exact⟨0,by omega,rfl,by grind,Below.refl _ _,rfl⟩
  case round=>
   obtain⟨k,hk,rfl,hJr,hkr⟩:=hrel;by_cases hlt:k<hs.length
   .obtain⟨bb,off,rfl,hbb,p0⟩:=hH1.below hkr.1 k hlt;have hblt:bb<wr.heap.size:=by
     rcases Nat.lt_or_ge bb wr.heap.size with h|h
     .exact h
     .simp[World.cell?,Array.getElem?_eq_none h]at p0
    have htk:o::hs.take (k+1)=(o::hs.take k)++[hs.getD k default] :=by rw[l0,eI,dw hlt];simp
    obtain⟨fn,tmps,assign,body,hy,hR⟩:=hY (o::hs.take k) (hs.getD k default) wr (cG _ (by grind)) hJr (by simp;omega);rw[<-htk]at hR;dsimp only[RV.enc]at hy;unfold RV.enc at p0;clear htk;generalize hs.getD k default=z at hy p0
    gi_wp2
    refine hR.mono ?_;rintro e W3 (⟨rfl,hJ3,hk3⟩|⟨rfl,hJx3⟩)
    .gi_wp2
     go_roundw
     case rel=>exact⟨k+1,by omega,by go_num,hJ3,hkr.trans hk3⟩
     case measure=>simp[intOf];omega
    .gi_wp2
     refine bodyPost_ret (results_none rfl _ _ _) rfl ?_;grind
   .have hk2:k=hs.length:=by omega
    subst hk2;rw[si]at hJr
    gi_wp2
    go_end0
    grind
 .gi_wp2
  refine bodyPost_ret (results_none rfl _ _ _) rfl ?_;grind
def z8(F:Fence)(n:Nat)(h179:F.fn 178)(hro:F.round=none)(hn:1<=n)(b n0:Nat)(o:RV)(ah:Option Addr)(ch:Nat)(hs:List RV)(hhs:hs.length<=1000)(w:World)(hn0:n0<=w.heap.size)(hB:Blk w b 26 #[RV.enc o,.slice ah hs.length ch])(hH:RdH n0 w ah hs):
  SeqStopsK F n bH 178 #[.pointer (some ⟨b,0,none⟩)] (λx:{x:RV//x∈o::hs}=> #[RV.enc x.1]) (Kp2 n0 b) (λys=>ys.map (·.1)=o::hs) (λpre=>pre.map (·.1)<+:o::hs) (hs.length+1) w:=λl J Jx W hW _ _ hY h0=>by
 refine(Wp F n h179 hro hn l b n0 o ah ch hs hhs (λpre W=>∃p:List {x:RV//x∈o::hs},p.map (·.1)=pre/\J p W) (λpre W=>∃p:List {x:RV//x∈o::hs},p.map (·.1)=pre/\Jx p W) ?_ W (hB.then_ hW) (hH.below (hW.mono hn0)) ⟨[],rfl,h0⟩).mono ?_
 .rintro pre x W' hx ⟨p,rfl,hJ⟩ hl;obtain⟨fn,tmps,assign,body,hy,hR⟩:=hY p ⟨x,hx⟩ W' hJ (by grind);refine⟨fn,tmps,assign,body,hy,hR.mono ?_⟩;grind
 grind
def Cg{n0 b:Nat}{w:World}(hn:n0<=w.heap.size)(hb:b<w.heap.size)(W:World)(l:Nat)(o o':Obj)(hl:w.heap.size<=l)(h:W.heap[l]? =some o)(h1:o.isCells=false)(h2:o.isWalk=false):Kp2 n0 b W (W.putObj l o'):=
 ⟨belowK_b hn W l o o' hl h h1 h2,World.putObj_heap_other (by omega)⟩
def Ap(o:RV)(ah:Option Addr)(nh ch:Nat)(w:World):
  Calls bH 122 #[.agg #[RV.enc o,.slice ah nh ch]] w λe w'=>e= .returned (.func (.func 178) #[] #[.pointer (some ⟨w.heap.size,0,none⟩)])/\w'=w.alloc (.cells #[RV.enc o,.slice ah nh ch] 26):=by
 unfold RV.enc
 go_enter Tryz.func122,Tryz.ntmps122
 go_wp2
 go_ret
 simp_all
end
section
open Go.RowKit Go.Shelf
attribute [local go_sem] zq
structure RdSh(w:World)(o:RV)(ah:Option Addr)(hs:List RV):Prop where
 h:RdH w.heap.size w ah hs
 v:∀x∈o::hs,RdV w x.a x.r/\Len x
 n:hs.length<=1000
def RdSh.below{w w':World}{o:RV}{ah:Option Addr}{hs:List RV}(H:RdSh w o ah hs)(hb:Below w.heap.size w w'):RdSh w' o ah hs:=
 ⟨(H.h.below hb).mono hb.size,λx hx=>⟨(H.v x hx).1.below hb,(H.v x hx).2⟩,H.n⟩
def dy(o:RV)(hs:List RV):Shape:=⟨o.r,hs.map RV.r⟩
section
variable {F:Fence} {n:Nat} {P:Program} {fn:Func} {R:Ending->World->Prop} {a:Act} {w:World} {v:Value}
def KQ(hr:(results fn a.tmps).run P w= .ok v w)(hd:a.defers=[])(hR:R (.returned v) w):bodyPostM F n P fn R .ret a w:=by show LeavesInM F n P fn a.tmps R a.defers .returning w;rw[hd];exact⟨v,hr,hR⟩
def KO{D:Nat}(hd:a.defers=[{target:= .collected D,args:= #[]}])(hK:w.heap[D]? =some (.deferred (some [])))(hr:(results fn a.tmps).run P (w.putObj D (.deferred none))= .ok v (w.putObj D (.deferred none)))
  (hR:R (.returned v) (w.putObj D (.deferred none))):bodyPostM F n P fn R .ret a w:=by
 show LeavesInM F n P fn a.tmps R a.defers .returning w;rw[hd];exact⟨by simp,.inl ⟨_,_,rfl,run_takeDeferred hK,v,hr,hR⟩⟩
end
def nW{n0 D:Nat}{W:World}(hD:n0<=D)(hK:W.heap[D]? =some (.deferred (some []))):Below n0 W (W.putObj D (.deferred none)):=
 (Below.refl n0 W).grown (grownBy_putObj' W D _) (by grind) (by grind)
def AL{W W':World}(h:Below W.heap.size W W'):KeepsOthers W W':=
 ⟨h.size,λk _o hk _=>(h.block k (by grind)).trans hk⟩
def nk{β:Type}{B g:Nat}{t:TypeId}{cs:β->Array Value}:OwnFrom B (λ(s:β) W=>Blk W g t (cs s)):=λs W W' row h hg hr=>by have h':W.heap[g]? =some (.cells (cs s) t (0,0)):=h;refine(hg.block g (by grind) ?_).trans h';intro e;obtain⟨_,o,ho,hc⟩:=hr g e.symm;rw[h']at ho;cases ho;cases hc
def rm{β:Type}{B:Nat}{p:β->Prop}:OwnFrom B (λ(s:β) (_:World)=>p s):=λ_ _ _ _ h _ _=>h
def Za{W:World}{D g:Nat}{t:TypeId}{cs:Array Value}(h:Blk W g t cs)(hK:W.heap[D]? =some (.deferred (some [])))(o':Obj):Blk (W.putObj D o') g t cs:=by have h':W.heap[g]? =some (.cells cs t (0,0)):=h;refine(World.putObj_heap_other ?_).trans h';grind
def ri{F:Fence}{n:Nat}{R:Ending->World->Prop}{W:World}{D s:Nat}{T:Array Value}{v:Bool}(hT:T.getD 2 undef= .pointer (some ⟨s,0,none⟩))(b2:Blk W s 4 #[.bool v])(hK:W.heap[D]? =some (.deferred (some [])))
  (hR:R (.returned (.bool v)) (W.putObj D (.deferred none))):bodyPostM F n bH Tryz.f56 R .ret {tmps:=T,defers:=[{target:= .collected D,args:= #[]}]} W:=by
 refine KO (v:= .bool v) rfl hK ?_ hR;have c2:=(Za b2 hK (.deferred none)).cell 0;rw[gh]at hT;simp[results,Tryz.f56,go_sem,hT,c2]
def UU{s:Shape}(h:6<s.holes.length):bP s=false:=by unfold bP;grind
def mH(o:aD)(L:List aD)(i:Nat):Bool:=aFN (aC L i) o 2&&fH (aC L i) o&&
 ((bM i).all λk=>fH (aC L i) (aC L k)&&aFN (aC L i) (aC L k) 0&&aFN (aC L k) (aC L i) 0)
def uA(L:List aD)(i k:Nat):Bool:=fH (aC L i) (aC L k)&&aFN (aC L i) (aC L k) 0&&aFN (aC L k) (aC L i) 0
def xS(s:Shape):bP s=(decide (s.holes.length<=6)&&(aE s).all cY&&decide (jA s<=80)&&((bM s.holes.length).all (mH s.outer s.holes))):=rfl
def UV{s:Shape}{i:Nat}(hi:i<s.holes.length)(h:mH s.outer s.holes i=false):bP s=false:=by rw[xS];grind
def Td{s:Shape}(h:80<jA s):bP s=false:=by rw[xS,decide_eq_false (show¬jA s<=80 by omega)];simp
def UT{s:Shape}{r:aD}(hr:r∈aE s)(h:cY r=false):bP s=false:=by rw[xS];grind
def VD{s:Shape}(h1:¬6<s.holes.length)(h2:∀r∈aE s,cY r=true)(h3:¬80<jA s)(h4:∀i,i<s.holes.length->mH s.outer s.holes i=true):bP s=true:=by rw[xS,decide_eq_true (by grind),decide_eq_true (by grind),bh.2 h2];grind
def XJ{o:aD}{L:List aD}{i:Nat}(h1:aFN (aC L i) o 2=true)(h2:fH (aC L i) o=true)(h3:∀k,k<i->uA L i k=true):mH o L i=true:=by unfold mH;rw[h1,h2];simp only[jM,bh,cD];exact h3
def Vt{o:aD}{L:List aD}{i:Nat}(h1:aFN (aC L i) o 2=false):mH o L i=false:=by unfold mH;rw[h1];simp
def Vr{o:aD}{L:List aD}{i:Nat}(h1:fH (aC L i) o=false):mH o L i=false:=by unfold mH;rw[h1];simp
def Vq{o:aD}{L:List aD}{i k:Nat}(hk:k<i)(h1:uA L i k=false):mH o L i=false:=by unfold mH;have:((bM i).all λk=>fH (aC L i) (aC L k)&&aFN (aC L i) (aC L k) 0&&aFN (aC L k) (aC L i) 0)=false:=ug.2 ⟨k,by grind,by simpa[uA]using h1⟩;grind
def Yq(hs:List RV){k:Nat}(hk:k<hs.length):aC (hs.map RV.r) k=(hs.getD k default).r:=by unfold aC;grind
def NL(hs:List RV){k:Nat}(hk:k<hs.length):hs.getD k default∈hs:=by grind
def Do(o:RV)(ah:Option Addr)(ch:Nat)(hs:List RV)(w:World)(H:RdSh w o ah hs)(hch:hs.length<=ch):
  Calls bH 56 #[.agg #[RV.enc o,.slice ah hs.length ch]] w λe w'=>e= .returned (.bool (bP (dy o hs)))/\Below w.heap.size w w':=by
 have hN:=H.n;by_cases c1:6<hs.length
 .have HV:Hid (bP (dy o hs)=false):=Lib.hid (UU (by unfold dy;grind));refine(callsIn_wide (n:=9)).1 (callsIn_of_wp_marks Tryz.func56 rfl trivial ((wpIn_wide (n:=9)).2 ?_) rfl);simp only[Tryz.ntmps56,ue,iE,lr,xH,xI,xJ,xK,xL,xM,q7,kM]
  go_wp2_with fail
  have hBW:Below w.heap.size w (((w.alloc (.cells #[.slice o.a o.r.length o.c,.slice ah hs.length ch] 26)).alloc (.cells #[.bool false] 4))):=((Below.refl _ _).alloc (bZ _) _).alloc (by simp) _;refine KQ (v:= .bool false) ?_ rfl ?_
  .simp[results,Tryz.f56,go_sem]
  .exact⟨by rw[HV.out],hBW⟩
 .have d1:decide ((6:Int)<hs.length)=false:=by grind
  refine(callsIn_wide (n:=9)).1 (callsIn_of_wp_marks Tryz.func56 rfl trivial ((wpIn_wide (n:=9)).2 ?_) rfl);simp only[Tryz.ntmps56,ue,iE,lr,xH,xI,xJ,xK,xL,xM,q7,kM];dsimp only[RV.enc]
  go_wp2_with fail
  refine(Ap o ah hs.length ch _).mono ?_;rintro e w1 ⟨rfl,rfl⟩
  go_wp2_with fail
  have B1:=(((Blk.new w 26 #[.slice o.a o.r.length o.c,.slice ah hs.length ch]).alloc (.cells #[.bool false] 4)).alloc (.cells #[.int .i64 0] 3)).alloc (.cells #[RV.enc o,.slice ah hs.length ch] 26);have B2:=((Blk.new (w.alloc (.cells #[.slice o.a o.r.length o.c,.slice ah hs.length ch] 26)) 4 #[.bool false]).alloc (.cells #[.int .i64 0] 3)).alloc (.cells #[RV.enc o,.slice ah hs.length ch] 26);have B3:=(Blk.new ((w.alloc (.cells #[.slice o.a o.r.length o.c,.slice ah hs.length ch] 26)).alloc (.cells #[.bool false] 4)) 3 #[.int .i64 0]).alloc (.cells #[RV.enc o,.slice ah hs.length ch] 26);have B4:=Blk.new (((w.alloc (.cells #[.slice o.a o.r.length o.c,.slice ah hs.length ch] 26)).alloc (.cells #[.bool false] 4)).alloc (.cells #[.int .i64 0] 3)) 26 #[RV.enc o,.slice ah hs.length ch];have hBW:Below w.heap.size w ((((w.alloc (.cells #[.slice o.a o.r.length o.c,.slice ah hs.length ch] 26)).alloc (.cells #[.bool false] 4)).alloc (.cells #[.int .i64 0] 3)).alloc (.cells #[RV.enc o,.slice ah hs.length ch] 26)):=((((Below.refl _ _).alloc (bZ _) _).alloc (by simp) _).alloc (by simp;omega) _).alloc (by simp;omega) _;have hs0:w.heap.size+4=((((w.alloc (.cells #[.slice o.a o.r.length o.c,.slice ah hs.length ch] 26)).alloc (.cells #[.bool false] 4)).alloc (.cells #[.int .i64 0] 3)).alloc (.cells #[RV.enc o,.slice ah hs.length ch] 26)).heap.size:=by simp
  simp only[World.size_alloc]at B1 B2 B3 B4;generalize (((w.alloc (.cells #[.slice o.a o.r.length o.c,.slice ah hs.length ch] 26)).alloc (.cells #[.bool false] 4)).alloc (.cells #[.int .i64 0] 3)).alloc (.cells #[RV.enc o,.slice ah hs.length ch] 26)=W0 at B1 B2 B3 B4 hBW hs0|-;refine(wpIn_wide (n:=9)).1 ?_
  refine' wpIn_rangeFunc_ownF (F:=Fence.wide) (n:=9) rfl (by omega) (gf:=178) (lb:= #[.pointer (some ⟨w.heap.size+1+1+1,0,none⟩)]) rfl trivial (enters_of Dg (by kernel_rfl) rfl)
   (z8 Fence.wide 8 trivial rfl (by omega) (w.heap.size+1+1+1) w.heap.size o ah ch hs H.n W0 (by omega) B4 (H.h.below hBW)) Kp2.trans (Cg (by omega) (by omega)) (Below.refl _ _) (λ_=>rfl)
   (λpre W=>((Blk W w.heap.size 26 #[.slice o.a o.r.length o.c,.slice ah hs.length ch]/\(Blk W (w.heap.size+1) 4 #[.bool false]/\Blk W (w.heap.size+1+1+1) 26 #[RV.enc o,.slice ah hs.length ch]))/\Blk W (w.heap.size+1+1) 3 #[.int .i64 ((pre.map λx=>x.1.r.length).sum:Nat)])/\(((pre.map λx=>x.1.r.length).sum<=1000*pre.length/\∀x∈pre,cY x.1.r=true)/\Below w.heap.size w W))
   (λc pre W=>Blk W (w.heap.size+1) 4 #[.bool false]/\((c= .ret/\∃x∈pre,cY x.1.r=false)/\Below w.heap.size w W))
   (OwnFrom.and (OwnFrom.and (OwnFrom.and nk (OwnFrom.and nk nk)) nk) (OwnFrom.and rm (ownFrom_below (bZ _) (by omega))))
   (λc=>OwnFrom.and nk (OwnFrom.and rm (ownFrom_below (bZ _) (by omega))))
   (by grind) _ ?assign ?body ?done ?stop
  case assign=>
   intro l x W K hK
   gi_wp2
   exact hK
  case body=>
   rintro l pre ⟨⟨xa,xc,xr⟩,hxm⟩ W ⟨⟨⟨b1,b2,b4⟩,b3⟩,⟨hsum,hval⟩,hb⟩ hlen;obtain⟨hxr,hxl⟩:=H.v _ hxm;have hxn:xr.length<=1000:=hxl.1;have HS:Hid (((pre++[(⟨⟨xa,xc,xr⟩,hxm⟩:{x:RV//x∈o::hs})]).map λx:{x:RV//x∈o::hs}=>x.1.r.length).sum=(pre.map λx=>x.1.r.length).sum+xr.length):=Lib.hid (by simp);obtain⟨S,hS⟩:∃S,S=(dZ (λx:{x:RV//x∈o::hs}=>eQ x.1.r) pre).sum:=⟨_,rfl⟩;rw[<-hS]at b3 hsum HS;clear hS;have c2:=b2.cell 0;have c3:=b3.cell 0;have f2:=b2.frozen 0;have f3:=b3.frozen 0;dsimp only[RV.enc]
   gi_wp2_with fail
   refine⟨trivial,(CallsIn.inRound l (callsIn_wide.2 (Tx xa xc xr _ (hxr.below (hb.setCell (p:=⟨w.heap.size+1+1,0,none⟩) (by simp;omega) _)) hxl))).mono ?_⟩;rintro e w1 ⟨rfl,hb1⟩;have hk:KeepsOthers W w1:=(KeepsOthers.setCell W _ _).trans (AL hb1);have q2:=(b2.far (p:=⟨w.heap.size+1+1,0,none⟩) (by simp) (.int .i64 ((S:Int)+xr.length))).then_ hb1;have q1:=(b1.far (p:=⟨w.heap.size+1+1,0,none⟩) (by simp;omega) (.int .i64 ((S:Int)+xr.length))).then_ hb1;have q4:=(b4.far (p:=⟨w.heap.size+1+1,0,none⟩) (by simp) (.int .i64 ((S:Int)+xr.length))).then_ hb1;have q3:=(b3.jH 0 (.int .i64 ((S:Int)+xr.length))).then_ hb1;have hB1:Below w.heap.size W w1:=((Below.refl _ W).setCell (p:=⟨w.heap.size+1+1,0,none⟩) (by simp;omega) _).trans (hb1.mono (by have:=hb.size;simp_all));have hK:Kp2 w.heap.size (w.heap.size+1+1+1) W w1:=⟨hB1,Eq.trans q4 (Eq.symm b4)⟩;cases hv:cY xr with
   |true=>
    gi_wp2
    refine⟨hk,hK,⟨⟨q1,q2,q4⟩,?_⟩,⟨?_,?_⟩,hb.trans hB1⟩
    .rw[HS.out];grind
    .rw[HS.out];simp;omega
    grind
   |false=>
    have c2:=q2.cell 0;have f2:=q2.frozen 0
    gi_wp2
    refine⟨hk.trans (KeepsOthers.setCell _ _ _),by simpa using q2.jH 0 (.bool false),⟨rfl,⟨_,bl.2 (.inr cI),hv⟩⟩,(hb.trans hB1).setCell (p:=⟨w.heap.size+1,0,none⟩) (by simp) _⟩
  case stop=>
   rintro D c pre W hD hpre ⟨b2,⟨rfl,x,hx,hv⟩,hb⟩ hK;have HV:Hid (bP (dy o hs)=false):=Lib.hid (UT (r:=x.1.r) (by unfold dy aE;grind) hv)
   gi_wp2
   exact ri rfl b2 hK ⟨by rw[HV.out],hb.trans (nW (by omega) hK)⟩
  case done=>
   rintro D xs W hD hxs ⟨⟨⟨b1,b2,b4⟩,b3⟩,⟨hsum,hval⟩,hb⟩ hK;have hN7:xs.length<=7:=by have:=congrArg eQ hxs;simp at this;omega
   have HC:(xs.map λx=>x.1.r.length).sum=jA (dy o hs):=by
    have e:(xs.map λx=>x.1.r.length)=(xs.map (·.1)).map λx=>x.r.length:=by rw[dU];rfl
    rw[e,hxs];unfold jA aE dy;simp[Function.comp_def]
   have HA:Hid (∀r∈aE (dy o hs),cY r=true):=Lib.hid (by
    intro r hr;have hr2:r∈(o::hs).map RV.r:=by unfold aE dy at hr;simpa using hr
    grind)
   rw[HC]at b3 hsum;clear HC hval hxs b4 B1 B2 B3 B4;have c80':=Lib.hid (λh:80<jA (dy o hs)=>Td h);have HVA:=Lib.hid (λ(h:¬80<jA (dy o hs)) h4=>VD (s:=dy o hs) (by unfold dy;grind) HA.out h h4);generalize jA (dy o hs)=N at b3 hsum c80' HVA;have hNb:N<=7000:=by omega
   clear HA hsum hN7 xs;have c3:=b3.cell 0;have f2:=b2.frozen 0;have c2:=b2.cell 0;have d0:=b1.cell 0;have d1':=b1.cell 1;simp at c2 c3 d0 d1';have hne:D≠w.heap.size+1:=by omega
   have hKs:∀v,(W.setCell ⟨w.heap.size+1,0,none⟩ v).heap[D]? =some (.deferred (some [])):=λv=>(Below.heap_setCell W ⟨w.heap.size+1,0,none⟩ v D (by omega)).trans hK;by_cases c80:80<N
   .have d80:decide ((80:Int)<N)=true:=by grind
    have HV:=Lib.hid (c80'.out c80)
    go_wp2
    exact ri rfl (by simpa using b2.jH 0 (.bool false)) (hKs _) ⟨by rw[HV.out],(hb.setCell (p:=⟨w.heap.size+1,0,none⟩) (by simp) _).trans (nW (by omega) (hKs _))⟩
   .have d80:decide ((80:Int)<N)=false:=by grind
    replace HVA:=Lib.hid (HVA.out c80);clear c80' c80 hNb b3
    go_wp2_with fail
    have hDl:D<W.heap.size:=by grind
    have hKX:∀wx,Below W.heap.size W wx->(wx.setCell ⟨w.heap.size+1,0,none⟩ (.bool false)).heap[D]? =some (.deferred (some [])):=λwx h=>(Below.heap_setCell wx ⟨w.heap.size+1,0,none⟩ _ D (by omega)).trans ((h.block D hDl).trans hK);have hKT:∀wx,Below W.heap.size W wx->(wx.setCell ⟨w.heap.size+1,0,none⟩ (.bool true)).heap[D]? =some (.deferred (some [])):=λwx h=>(Below.heap_setCell wx ⟨w.heap.size+1,0,none⟩ _ D (by omega)).trans ((h.block D hDl).trans hK);have ho:=H.v o (by grind);have hol:(dy o hs).outer=o.r:=rfl;have hhl:(dy o hs).holes=hs.map RV.r:=rfl;have hlen:(dy o hs).holes.length=hs.length:=by rw[hhl,di]
    have HNO:=Lib.hid (λi (hi:i<hs.length) h=>UV (s:=dy o hs) (i:=i) (by omega) h);rw[hol,hhl]at HNO;rw[hol,hhl,di]at HVA;have HM:=Lib.hid (λk (hk:k<hs.length)=>Yq hs hk);clear hol hhl hlen hKs f2 c2 c3 d0 d1' hBW;have HC:=Lib.hid (λ(wx:World) (h:Below W.heap.size W wx)=>(show wx.cell? ⟨w.heap.size,0,none⟩=some (.slice o.a o.r.length o.c)/\wx.cell? ⟨w.heap.size,1,none⟩=some (.slice ah hs.length ch)/\wx.cell? ⟨w.heap.size+1,0,none⟩=some (.bool false)/\wx.frozen? ⟨w.heap.size+1,0,none⟩=false from
     ⟨by simpa using(b1.then_ h).cell 0,by simpa using(b1.then_ h).cell 1,by simpa using(b2.then_ h).cell 0,(b2.then_ h).frozen 0⟩))
    go_loopw [5,6,8,28] (λ_ _ _ i wr=>∃k:Nat,k<=hs.length/\i= .int .i64 k/\Hid (∀i,i<k->mH o.r (hs.map RV.r) i=true)/\Below W.heap.size W wr) (λ_ _ _ i _=>hs.length-(intOf i).toNat)
    case atStart=>exact⟨0,by omega,rfl,Lib.hid (by grind),Below.refl _ _⟩
    case round=>
     obtain⟨k,hk,rfl,HT,hbr⟩:=hrel;by_cases hlt:k<hs.length
     .obtain⟨bb,off,rfl,hbb,p0⟩:=H.h k hlt;have hbw:=hb.trans (hbr.mono hb.size);replace p0:=(hbw.cell (p:=⟨bb,_,none⟩) hbb).trans p0;have hx:=H.v _ (cG _ (NL hs hlt));have HMk:=HM.out k hlt;obtain⟨d0,d1',e1,e2⟩:=HC.out _ hbr;have hbbr:bb<wr.heap.size:=xC hbb hbw.size;obtain⟨⟨xa,xc,xr⟩,hz⟩:∃z,z=hs.getD k default:=⟨_,rfl⟩;rw[<-hz]at p0 hx HMk;dsimp only[RV.enc]at p0 hx HMk;clear hz;have HNK:=Lib.hid (HNO.out k hlt);cases h1:aFN xr o.r 2 with
      |false=>
       have HV:=Lib.hid (HNK.out (Vt (by grind)))
       go_wp2_with fail
       refine(nt xa xc xr o.a o.c o.r 2 _ (ho.1.below hbw) ho.2 (hx.1.below hbw) hx.2).mono ?_;rintro e w1 ⟨rfl,hb1⟩;have hbX:=hbr.trans (hb1.mono hbr.size);obtain⟨d0,d1',e1,e2⟩:=HC.out _ hbX
       go_wp2
       exact ri rfl (by simpa using(b2.then_ hbX).jH 0 (.bool false)) (hKX _ hbX) ⟨by rw[HV.out],((hb.trans (hbX.mono hb.size)).setCell (p:=⟨w.heap.size+1,0,none⟩) (by simp) _).trans (nW (by omega) (hKX _ hbX))⟩
      |true=>
       go_wp2_with fail
       refine(nt xa xc xr o.a o.c o.r 2 _ (ho.1.below hbw) ho.2 (hx.1.below hbw) hx.2).mono ?_;rintro e w1 ⟨rfl,hb1⟩;rw[h1];have hbY:=hbr.trans (hb1.mono hbr.size);have hbv:=hbw.trans (hb1.mono hbw.size);clear d0 d1' e1 e2 hb1 p0 hbr hbw;obtain⟨d0,d1',e1,e2⟩:=HC.out _ hbY;cases h2:fH xr o.r with
       |false=>
        have HV:=Lib.hid (HNK.out (Vr (by simp_all)))
        go_wp2_with fail
        refine(BG xa xc xr o.a o.c o.r _ (hx.1.below hbv) (ho.1.below hbv) hx.2 ho.2).mono ?_;rintro e w2 ⟨rfl,hb2⟩;have hbX:=hbY.trans (hb2.mono hbY.size);obtain⟨d0,d1',e1,e2⟩:=HC.out _ hbX
        go_wp2
        exact ri rfl (by simpa using(b2.then_ hbX).jH 0 (.bool false)) (hKX _ hbX) ⟨by rw[HV.out],((hb.trans (hbX.mono hb.size)).setCell (p:=⟨w.heap.size+1,0,none⟩) (by simp) _).trans (nW (by omega) (hKX _ hbX))⟩
       |true=>
        go_wp2_with fail
        refine(BG xa xc xr o.a o.c o.r _ (hx.1.below hbv) (ho.1.below hbv) hx.2 ho.2).mono ?_;rintro e w2 ⟨rfl,hb2⟩;rw[h2];have hbX:=hbY.trans (hb2.mono hbY.size);clear d0 d1' e1 e2 hb2 hbY hbv hbbr;obtain⟨d0,d1',e1,e2⟩:=HC.out _ hbX;have hkc:k<=ch:=by omega
        go_wp2_with fail
        clear d0 d1' e1 e2 HNO;have hbv2:=hb.trans (hbX.mono hb.size)
        go_loopw [8,50] (λ_ i wr=>∃q:Nat,q<=k/\i= .int .i64 q/\Hid (∀i,i<q->uA (hs.map RV.r) k i=true)/\Below W.heap.size W wr) (λ_ i _=>k-(intOf i).toNat)
        case atStart=>exact⟨0,by omega,rfl,Lib.hid (λi hi=>by omega),hbX⟩
        case round=>
         obtain⟨q,hq,rfl,HQ,hbq⟩:=hrel;by_cases hlq:q<k
         .have hqs:q<hs.length:=by omega
          obtain⟨bb',off',he,hbb',p0⟩:=H.h q hqs;simp only[fg,Addr.mk.injEq,and_true]at he;obtain⟨rfl,rfl⟩:=he;have hbw:=hb.trans (hbq.mono hb.size);replace p0:=(hbw.cell (p:=⟨bb,_,none⟩) hbb).trans p0;have hy:=H.v _ (cG _ (NL hs hqs));have HMq:=HM.out q hqs;have hbbr:bb<wr.heap.size:=xC hbb hbw.size;obtain⟨⟨ya,yc,yr⟩,hz⟩:∃z,z=hs.getD q default:=⟨_,rfl⟩;rw[<-hz]at p0 hy HMq;dsimp only[RV.enc]at p0 hy HMq;clear hz hbb';have HNQ:=Lib.hid (λh=>HNK.out (Vq hlq h));have HP:Hid (uA (hs.map RV.r) k q=(fH xr yr&&aFN xr yr 0&&aFN yr xr 0)):=Lib.hid (by unfold uA;rw[HMk,HMq]);cases h3:fH xr yr with
          |false=>
           have HV:=Lib.hid (HNQ.out (by rw[HP.out,h3];rfl))
           go_wp2_with fail
           refine(BG xa xc xr ya yc yr _ (hx.1.below hbw) (hy.1.below hbw) hx.2 hy.2).mono ?_;rintro e w3 ⟨rfl,hbw3⟩;have hbz:=hbq.trans (hbw3.mono hbq.size);obtain⟨d0,d1',e1,e2⟩:=HC.out _ hbz
           go_wp2
           exact ri rfl (by simpa using(b2.then_ hbz).jH 0 (.bool false)) (hKX _ hbz) ⟨by rw[HV.out],((hb.trans (hbz.mono hb.size)).setCell (p:=⟨w.heap.size+1,0,none⟩) (by simp) _).trans (nW (by omega) (hKX _ hbz))⟩
          |true=>
           go_wp2_with fail
           refine(BG xa xc xr ya yc yr _ (hx.1.below hbw) (hy.1.below hbw) hx.2 hy.2).mono ?_;rintro e w3 ⟨rfl,hbw3⟩;have hbz:=hbq.trans (hbw3.mono hbq.size);have hbv3:=hbw.trans (hbw3.mono hbw.size);cases h4:aFN xr yr 0 with
           |false=>
            have HV:=Lib.hid (HNQ.out (by rw[HP.out,h3,h4];rfl))
            go_wp2_with fail
            refine(nt xa xc xr ya yc yr 0 _ (hy.1.below hbv3) hy.2 (hx.1.below hbv3) hx.2).mono ?_;rintro e w4 ⟨rfl,hbw4⟩;have hbz4:=hbz.trans (hbw4.mono hbz.size);obtain⟨d0,d1',e1,e2⟩:=HC.out _ hbz4
            go_wp2
            exact ri rfl (by simpa using(b2.then_ hbz4).jH 0 (.bool false)) (hKX _ hbz4) ⟨by rw[HV.out],((hb.trans (hbz4.mono hb.size)).setCell (p:=⟨w.heap.size+1,0,none⟩) (by simp) _).trans (nW (by omega) (hKX _ hbz4))⟩
           |true=>
            go_wp2_with fail
            refine(nt xa xc xr ya yc yr 0 _ (hy.1.below hbv3) hy.2 (hx.1.below hbv3) hx.2).mono ?_;rintro e w4 ⟨rfl,hbw4⟩;have hbz4:=hbz.trans (hbw4.mono hbz.size);have hbv4:=hbv3.trans (hbw4.mono hbv3.size);cases h5:aFN yr xr 0 with
            |false=>
             have HV:=Lib.hid (HNQ.out (by rw[HP.out,h3,h4,h5];rfl))
             go_wp2_with fail
             refine(nt ya yc yr xa xc xr 0 _ (hx.1.below hbv4) hx.2 (hy.1.below hbv4) hy.2).mono ?_;rintro e w5 ⟨rfl,hbw5⟩;have hbz5:=hbz4.trans (hbw5.mono hbz4.size);obtain⟨d0,d1',e1,e2⟩:=HC.out _ hbz5
             go_wp2
             exact ri rfl (by simpa using(b2.then_ hbz5).jH 0 (.bool false)) (hKX _ hbz5) ⟨by rw[HV.out],((hb.trans (hbz5.mono hb.size)).setCell (p:=⟨w.heap.size+1,0,none⟩) (by simp) _).trans (nW (by omega) (hKX _ hbz5))⟩
            |true=>
             have HQ2:Hid (∀i,i<q+1->uA (hs.map RV.r) k i=true):=Lib.hid (λi hi=>by
              by_cases e:i=q
              .subst e;rw[HP.out,h3,h4,h5];rfl
              .exact HQ.out i (by omega))
             go_wp2_with fail
             refine(nt ya yc yr xa xc xr 0 _ (hx.1.below hbv4) hx.2 (hy.1.below hbv4) hy.2).mono ?_;rintro e w5 ⟨rfl,hbw5⟩;have hbz5:=hbz4.trans (hbw5.mono hbz4.size)
             go_wp2
             go_roundw
             case rel=>exact⟨q+1,by omega,by go_num,HQ2,hbz5⟩
             case measure=>simp[intOf];omega
         .have HT2:Hid (∀i,i<k+1->mH o.r (hs.map RV.r) i=true):=Lib.hid (λi hi=>by
           by_cases e:i=k
           .subst e;exact XJ (by simp_all) (by simp_all) (λj hj=>HQ.out j (by omega))
           .exact HT.out i (by omega))
          go_wp2
          go_roundw
          case rel=>exact⟨k+1,by omega,by go_num,HT2,hbq⟩
          case measure=>simp[intOf];omega
     .have HV:=Lib.hid (HVA.out (λi hi=>HT.out i (by omega)));obtain⟨d0,d1',e1,e2⟩:=HC.out _ hbr
      go_wp2
      exact ri rfl (by simpa using(b2.then_ hbr).jH 0 (.bool true)) (hKT _ hbr) ⟨by rw[HV.out],((hb.trans (hbr.mono hb.size)).setCell (p:=⟨w.heap.size+1,0,none⟩) (by simp) _).trans (nW (by omega) (hKT _ hbr))⟩
end
section
open Go.RowKit Go.Shelf
attribute [local go_sem] zq
def D8{W W':World}{base:Nat}{e:TypeId}{size:Nat}{v:Value}{n:Nat}{xs:List Value}{row:Option Nat}(h:W.ownsRow base e size v n xs)(hg:W.grownBy W' row)(hr:∀r,row=some r->∃o:Obj,W.heap[r]? =some o/\o.isCells=false):W'.ownsRow base e size v n xs:=
 ⟨h.1,h.2.imp id λ⟨g,cap,cur,h1,h2,h3,h4⟩=>⟨g,cap,cur,h1,h2,(hg.block g (by grind) (λe=>by obtain⟨o,ho,hc⟩:=hr g e.symm;rw[h3]at ho;cases ho;cases hc)).trans h3,h4⟩⟩
def Z9{β:Type}{B bx base:Nat}{t:TypeId}{e:TypeId}{size:Nat}{n:β->Nat}{xs:β->List Value}:OwnFrom B (λ(s:β) W=>∃v,Blk W bx t #[v]/\W.ownsRow base e size v (n s) (xs s)):=λs W W' row ⟨v,h1,h2⟩ hg hr=>
 ⟨v,nk (cs:=λ_:β=> #[v]) s W W' row h1 hg hr,D8 h2 hg (by grind)⟩
def JY{W:World}{D base:Nat}{e:TypeId}{size:Nat}{v:Value}{n:Nat}{xs:List Value}(h:W.ownsRow base e size v n xs)(hK:W.heap[D]? =some (.deferred (some [])))(o':Obj):(W.putObj D o').ownsRow base e size v n xs:=
 D8 h (grownBy_putObj' W D o') (λr e=>by cases e;exact⟨_,hK,rfl⟩)
def ME{W W':World}{base:Nat}{e:TypeId}{size:Nat}{v:Value}{n:Nat}{xs:List Value}(h:W.ownsRow base e size v n xs)(hg:W.grownBy W' v.ownBlock):KeepsOthers W W':=
 KeepsOthers.of_grownBy hg (λj o hj ho=>by
  rcases h.2 with⟨h1,h2⟩|⟨g,cap,cur,h1,h2,h3,h4⟩
  .rw[h1]at hj;simp[DV]at hj
  .rw[h1]at hj;simp[DV]at hj;subst hj;rw[h3]at ho;cases ho;rfl)
def Er{F:Fence}{n:Nat}{P:Program}{fn:Func}{R:Ending->World->Prop}{W:World}{D:Nat}{T:Array Value}{t:Tmp}{v:Value}(hf:fn.results= #[.tmp t])(hT:T.getD t undef=v)(hK:W.heap[D]? =some (.deferred (some [])))
  (hR:R (.returned v) (W.putObj D (.deferred none))):bodyPostM F n P fn R .ret {tmps:=T,defers:=[{target:= .collected D,args:= #[]}]} W:=by
 refine KO (v:=v) rfl hK ?_ hR;rw[<-hT];simp[results,hf]
def XM(xs:List S):∀u∈jE xs,u.oneCell'=true:=by intro u hu;obtain⟨v,_,hv⟩:=List.mem_flatMap.1 hu;simp only[bI,cq,or_false]at hv;rcases hv with rfl|rfl|rfl|rfl<;>rfl
def Rd.grown{w w':World}{a:Option Addr}{cs:List Value}{row:Option Nat}{m:Nat}(h:Rd w a cs)(hF:jq m a)(hr:∀k,row=some k->k<m)(hg:w.grownBy w' row):Rd w' a cs:=by intro i u hi;obtain⟨b,off,rfl,hb,hc⟩:=h i u hi;have hm:m<=b:=hF _ rfl;refine⟨b,off,rfl,xC hb hg.size,(je (a:=⟨b,off+i,none⟩) (hg.block b hb ?_)).trans hc⟩;grind
def Rd.jH{w:World}{a:Option Addr}{cs:List Value}{m:Nat}{p:Addr}{u:Value}(h:Rd w a cs)(hF:jq m a)(hp:p.block<m):Rd (w.setCell p u) a cs:=by intro i v hi;obtain⟨b,off,rfl,hb,hc⟩:=h i v hi;have hm:m<=b:=hF _ rfl;exact⟨b,off,rfl,by simp_all,(je (a:=⟨b,off+i,none⟩) (Below.heap_setCell w p u b (by omega))).trans hc⟩
def AJ{W:World}{base:Nat}{e:TypeId}{size:Nat}{v:Value}{n:Nat}{xs:List Value}{p:Addr}{u:Value}(h:W.ownsRow base e size v n xs)(hp:p.block<base):(W.setCell p u).ownsRow base e size v n xs:=
 ⟨h.1,h.2.imp id λ⟨g,cap,cur,h1,h2,h3,h4⟩=>⟨g,cap,cur,h1,h2,(Below.heap_setCell W p u g (by omega)).trans h3,h4⟩⟩
abbrev Mem(o:RV)(hs:List RV):={x:RV//x∈o::hs}
def k8{o:RV}{hs:List RV}(pre:List (Mem o hs)):List S:=pre.flatMap λx=>aJ x.1.r
def UK{o:RV}{hs:List RV}(pre:List (Mem o hs))(x:Mem o hs):k8 (pre++[x])=k8 pre++aJ x.1.r:=by unfold k8;simp
def V6{o:RV}{hs:List RV}(h:∀x∈o::hs,x.r.length<=1000)(pre:List (Mem o hs)):(k8 pre).length<=1000*pre.length:=by
 induction pre with
 |nil=>simp[k8]
 |cons x l ih=>
  have h2:=x6 x.1.r;unfold k8 at*;grind
def Uz{o:RV}{hs:List RV}{xs:List (Mem o hs)}(h:xs.map (·.1)=o::hs):k8 xs=ao (dy o hs):=by
 have e:k8 xs=(xs.map (·.1)).flatMap λx=>aJ x.r:=by unfold k8;rw[Iw]
 rw[e,h];unfold ao aE dy;simp[ff,Iw]
def Th(o:RV)(ah:Option Addr)(ch:Nat)(hs:List RV)(w:World)(H:RdSh w o ah hs)(hn:hs.length<=900):
  Calls bH 131 #[.agg #[RV.enc o,.slice ah hs.length ch]] w λe w'=>∃v,e= .returned v/\w'.ownsRow w.heap.size 46 4 v (ao (dy o hs)).length (jE (ao (dy o hs)))/\Below w.heap.size w w':=by
 refine(callsIn_wide (n:=9)).1 (callsIn_of_wp_marks Tryz.func131 rfl trivial ((wpIn_wide (n:=9)).2 ?_) rfl);simp only[Tryz.ntmps131,ue,iE,lr,xH,xI,xJ,xK,xL,xM,q7,kM];dsimp only[RV.enc]
 go_wp2_with fail
 refine(Ap o ah hs.length ch _).mono ?_;rintro e w1 ⟨rfl,rfl⟩
 go_wp2_with fail
 have B3:=(Blk.new (w.alloc (.cells #[.slice o.a o.r.length o.c,.slice ah hs.length ch] 26)) 32 #[.slice none 0 0]).alloc (.cells #[RV.enc o,.slice ah hs.length ch] 26);have B4:=Blk.new ((w.alloc (.cells #[.slice o.a o.r.length o.c,.slice ah hs.length ch] 26)).alloc (.cells #[.slice none 0 0] 32)) 26 #[RV.enc o,.slice ah hs.length ch];have hBW:Below w.heap.size w ((((w.alloc (.cells #[.slice o.a o.r.length o.c,.slice ah hs.length ch] 26)).alloc (.cells #[.slice none 0 0] 32))).alloc (.cells #[RV.enc o,.slice ah hs.length ch] 26)):=(((Below.refl _ _).alloc (bZ _) _).alloc (by simp) _).alloc (by simp;omega) _;have hs0:w.heap.size+3=((((w.alloc (.cells #[.slice o.a o.r.length o.c,.slice ah hs.length ch] 26)).alloc (.cells #[.slice none 0 0] 32))).alloc (.cells #[RV.enc o,.slice ah hs.length ch] 26)).heap.size:=by simp
 simp only[World.size_alloc]at B3 B4;generalize (((w.alloc (.cells #[.slice o.a o.r.length o.c,.slice ah hs.length ch] 26)).alloc (.cells #[.slice none 0 0] 32))).alloc (.cells #[RV.enc o,.slice ah hs.length ch] 26)=W0 at B3 B4 hBW hs0|-;refine(wpIn_wide (n:=9)).1 ?_
 refine' wpIn_rangeFunc_ownF (F:=Fence.wide) (n:=9) rfl (by omega) (gf:=178) (lb:= #[.pointer (some ⟨w.heap.size+1+1,0,none⟩)]) rfl trivial (enters_of Dg (by kernel_rfl) rfl)
  (z8 Fence.wide 8 trivial rfl (by omega) (w.heap.size+1+1) w.heap.size o ah ch hs H.n W0 (by omega) B4 (H.h.below hBW)) Kp2.trans (Cg (by omega) (by omega)) (Below.refl _ _) (λ_=>rfl)
  (λpre W=>(Blk W (w.heap.size+1+1) 26 #[RV.enc o,.slice ah hs.length ch]/\∃v,Blk W (w.heap.size+1) 32 #[v]/\W.ownsRow (w.heap.size+3) 46 4 v (k8 pre).length (jE (k8 pre)))/\(w.heap.size+3<=W.heap.size/\Below w.heap.size w W))
  (λc pre W=>False/\False)
  (OwnFrom.and (OwnFrom.and nk Z9) (OwnFrom.and (λs A B row h hg _=>cL h hg.size) (ownFrom_below (bZ _) (by omega))))
  (λc=>OwnFrom.and rm rm)
  ⟨⟨B4,_,B3,I6 _ _ _ _⟩,by omega,hBW⟩ _ ?assign ?body ?done ?stop
 case assign=>
  intro l x W K hK
  gi_wp2
  exact hK
 case stop=>
  grind
 case done=>
  rintro D xs W hD hxs ⟨⟨b4,v,b3,hrow⟩,_,hb⟩ hK;have c3:=b3.cell 0;have hD2:w.heap.size<=D:=by omega
  rw[Uz hxs]at hrow
  go_wp2
  exact Er (v:=v) rfl rfl hK ⟨v,rfl,JZ (JY hrow hK _) (by omega),hb.trans (nW hD2 hK)⟩
 case body=>
  rintro l pre ⟨⟨xa,xc,xr⟩,hxm⟩ W ⟨⟨b4,u3,b3,hrow⟩,hsz,hb⟩ hlen;obtain⟨hxr,hxl⟩:=H.v _ hxm;dsimp only at hxr hxl;have hxn:xr.length<=1000:=hxl.1;have HE:Hid (k8 (pre++[(⟨⟨xa,xc,xr⟩,hxm⟩:Mem o hs)])=k8 pre++aJ xr):=Lib.hid (UK _ _);have hle:=V6 (λx hx=>(H.v x hx).2.1) pre;have hle2:=x6 xr;have hsz2:(k8 pre).length+(aJ xr).length<=1000000:=by omega
  rw[show(w.heap.size+3)=w.heap.size+3 from rfl]at hrow;generalize k8 pre=E at HE hrow hsz2;clear hle hle2 B3 B4 hBW hs0;refine wpIn_block ?_;dsimp only[RV.enc];refine Dq (by kernel_rfl) (by kernel_rfl) [8,9,10,11] [[],[],[1],[0,1,2],[0,1,2,3]] (by kernel_rfl) (by kernel_rfl) (by simp_all)
   (WR3 3 4 (λwx=>Below W.heap.size W wx) (λwx=>Blk wx (w.heap.size+1) 32 #[u3]/\Blk wx (w.heap.size+1+1) 26 #[RV.enc o,.slice ah hs.length ch]/\Below w.heap.size w wx/\KeepsOthers W wx/\Below w.heap.size W wx/\w.heap.size+3<=wx.heap.size) (λwx=>∃v,Blk wx (w.heap.size+1) 32 #[v]/\wx.ownsRow (w.heap.size+3) 46 4 v (E.length+(aJ xr).length) (jE (E++aJ xr))/\Blk wx (w.heap.size+1+1) 26 #[RV.enc o,.slice ah hs.length ch]/\Below w.heap.size w wx/\KeepsOthers W wx/\Below w.heap.size W wx/\w.heap.size+3<=wx.heap.size))
   (λi v wx=>match i with
     |0=>v=u3
     |1=>v= .slice xa xr.length xc
     |2=>∃a c,v= .slice a (aJ xr).length c/\Rd wx a (jE (aJ xr))/\(a=none->c=0)/\jq W.heap.size a
     |3=>wx.ownsRow (w.heap.size+3) 46 4 v (E.length+(aJ xr).length) (jE (E++aJ xr))
     |4=>True
     |_=>True)
   (WR3.start (Below.refl _ _).drew) ?_ ?_ ?_
  .intro j v wx wy hf hxy;match j with
   |0=>exact hf
   |1=>exact hf
   |2=>obtain⟨a,c,h1,h2,h3⟩:=hf;exact⟨a,c,h1,h2.below hxy,h3⟩
   |3=>exact uj hf hxy
   |4=>exact hf
   |_+5=>exact trivial
  .refine⟨?_,?_,?_,?_,?_,trivial⟩
   .intro D V wx hD hanc hdesc hin hWR;have hA:=hWR.lo (hdesc 3 (by kernel_rfl)) (hdesc 4 (by kernel_rfl));have e3:=hin 3 (by kernel_rfl);have q0:=(Blk.then_ b3 hA).cell 0;refine opK ?_;intro K hK;simp[cQ,execOp,bJ,e3,q0,go_sem];exact hK _ _ ⟨rfl,(hWR.keep (by decide) (by decide)),.inl rfl⟩
   .intro D V wx hD hanc hdesc hin hWR;have e4:=hin 4 (by kernel_rfl);refine opK ?_;intro K hK;simp[cQ,execOp,bJ,e4,go_sem];exact hK _ _ ⟨rfl,(hWR.keep (by decide) (by decide)),.inl rfl⟩
   .intro D V wx hD hanc hdesc hin hWR;have hA:=hWR.lo (hdesc 3 (by kernel_rfl)) (hdesc 4 (by kernel_rfl));have e9:V 9= .slice xa xr.length xc:=(hanc 1 (by kernel_rfl)).2;refine opK ?_;intro K hK;simp[cQ,execOp,bJ,e9,go_sem];refine(XV xa xc xr _ (hxr.below (hb.trans (hA.mono hb.size))) hxl).mono ?_;rintro e w1 ⟨a,c,rfl,hR,hF,hN,hc⟩;exact⟨_,rfl,hK _ _ ⟨⟨a,c,rfl,hR,hN,hF.mono hA.size⟩,(.mkLo (hdesc 3 (by kernel_rfl)) (hdesc 4 (by kernel_rfl)) (by decide) (by decide) (Below.then_ hA hc)),.inr (.inl hc)⟩⟩
   .intro D V wx hD hanc hdesc hin hWR;have hA:=hWR.lo hD (hdesc 4 (by kernel_rfl));have e8:V 8=u3:=(hanc 0 (by kernel_rfl)).2;have e10:=(hanc 2 (by kernel_rfl)).2;refine opK ?_;intro K hK;obtain⟨a,c,e10,hR,hN,hF⟩:=e10;refine Eu (.tmp 8) (.tmp 10) 32 rfl (w.heap.size+3) 46 (.agg #[.int .i64 0,.int .i64 0,.int .i64 0,.int .i64 0]) 4 32 Tryz.underlying32 (by kernel_rfl) rfl (by decide) u3 _ _ e8 (uj hrow hA) _ _ _ (jE (aJ xr)) e10 (Je _) hR hN (XM _) (by omega) (by omega) (by have:=hA.size;omega) ?_;intro v' w' h1 h2 h3 h4;have hbx:=(Blk.then_ b3 hA);have hbr:=(Blk.then_ b4 hA);have hro:=uj hrow hA;refine hK _ _ ⟨by rw[UJ];exact h1,.mkMid (hdesc 4 (by kernel_rfl)) (by decide) ⟨xV h3 hbx (BJ hro (by omega)),xV h3 hbr (BJ hro (by omega)),(hb.trans (hA.mono hb.size)).trans (h2.mono (by omega)),(AL hA).trans (ME hro h3),((Below.refl w.heap.size W).trans (hA.mono hb.size)).trans (h2.mono (by omega)),by have:=hA.size;have:=h2.size;omega⟩,.inr (.inr ?_)⟩;intro j hj hf;match j with
    |0=>exact hf
    |1=>exact hf
    |2=>obtain⟨a,c,g1,g2,g3,g4⟩:=hf;exact⟨a,c,g1,g2.grown g4 (λk hk=>(rE hrow k hk).2) h3,g3,g4⟩
    |3=>grind
    |4=>omega
    |_+5=>exact trivial
   .intro D V wx hD hanc hdesc hin hWR;have hB:=hWR.mid (hanc 3 (by kernel_rfl)).1 hD;have e3:=hin 3 (by kernel_rfl);have e11:=(hanc 3 (by kernel_rfl)).2;refine opK ?_;intro K hK;have q0:=hB.1.cell 0;have f0:=hB.1.frozen 0;have e11:wx.ownsRow (w.heap.size+3) 46 4 (V 11) (E.length+(aJ xr).length) (jE (E++aJ xr)):=e11;obtain⟨ra,rc,hv11,_,_,_⟩:=Rd.HH e11;rw[hv11]at e11;simp[cQ,execOp,bJ,e3,hv11,q0,f0,go_sem];refine hK _ _ ⟨trivial,.mkHi ⟨_,by simpa using hB.1.jH 0 (.slice ra (E.length+(aJ xr).length) rc),AJ e11 (by grind),hB.2.1.far (by simp) _,hB.2.2.1.setCell (p:=⟨w.heap.size+1,0,none⟩) (by simp) _,hB.2.2.2.1.trans (KeepsOthers.setCell _ _ _),hB.2.2.2.2.1.setCell (p:=⟨w.heap.size+1,0,none⟩) (by simp) _,by simpa using hB.2.2.2.2.2⟩,.inr (.inr ?_)⟩;intro j hj hf;match j with
    |0=>exact hf
    |1=>exact hf
    |2=>obtain⟨a,c,g1,g2,g3,g4⟩:=hf;exact⟨a,c,g1,g2.jH g4 b3.lt,g3,g4⟩
    |3=>exact AJ hf (by grind)
    |4=>omega
    |_+5=>exact trivial
  intro D V wx hall hf hWR;replace hWR:=hWR.hi (by grind);have f0:V 8=u3:=hf 0 (by decide);have f1:V 9= .slice xa xr.length xc:=hf 1 (by decide);simp only[iZ,zJ,List.foldl_nil,f0,f1];obtain⟨v',k1,k2,k3,k4,k5,k6,k7⟩:=hWR;refine⟨k5,⟨k6,Eq.trans k3 (Eq.symm b4)⟩,⟨k3,v',k1,?_⟩,k7,k4⟩;rw[HE.out,fM];exact k2
end
noncomputable def Sp:Con:=DE (a1 (aL .V)) (λl=>[0<l.length,l.length<=1000]) 44 .V (λl=>l) (λ_=>[])
def Si:Sp.Okz 125:=Gs (oO Cs.o) (raw:=uB) bX (λ_=>⟨[],rfl⟩) λl hp=>aZ (aA ([] :List V) λA=>aA (A++l).length λB=>(0:Nat)<l.length/\A.length+l.length<=1000000/\A++l=l/\B=B) (by kernel_rfl) (by change 0<l.length/\l.length<=1000 at hp;exact⟨hp.1,by simp;omega,rfl,rfl⟩)
section
open Go.RowKit Go.Shelf
attribute [local go_sem] zq
def Xk(a:Option Addr)(c:Nat)(xs:List aFH)(w:World)(h:RdV w a xs)(h0:0<xs.length)(hl:Len ⟨a,c,xs⟩):
  Calls bH 125 #[.slice a xs.length c] w λe w'=>∃a' c',e= .returned (.slice a' xs.length c')/\Rd w' a' (lk xs)/\jq w.heap.size a'/\(a'=none->c'=0)/\xs.length<=c'/\Below w.heap.size w w':=by
 have e1:lk xs=(xs.flatMap λv=>[v.x,v.y]).map (cg .i64):=by unfold lk;rw[JE];rfl
 rw[e1];exact OZ (t:= .V) (l:=xs) (n:=xs.flatMap λv=>[v.x,v.y]) (by unfold LT.enc;rw[JE];rfl) h hl (Si [.lst .V xs] xs rfl ((jz (l:=Sp.pre xs)).1 ⟨h0,hl.1⟩))
def RdV.grown{w w':World}{a:Option Addr}{xs:List aFH}{row:Option Nat}(h:RdV w a xs)(hr:0<xs.length->∀b,a=some b->row≠some b.block)(hg:w.grownBy w' row):RdV w' a xs:=by intro i hi;obtain⟨b,off,rfl,hb,h0,h1⟩:=h i hi;have e:=hg.block b hb (λe=>hr (by omega) _ rfl e.symm);exact⟨b,off,rfl,xC hb hg.size,(je (a:=⟨b,_,none⟩) e).trans h0,(je (a:=⟨b,_,none⟩) e).trans h1⟩
def RdV.jH{w:World}{a:Option Addr}{xs:List aFH}{p:Addr}{u:Value}(h:RdV w a xs)(hp:0<xs.length->∀b,a=some b->p.block≠b.block):RdV (w.setCell p u) a xs:=by intro i hi;obtain⟨b,off,rfl,hb,h0,h1⟩:=h i hi;have e:=Below.heap_setCell w p u b (λe=>hp (by omega) _ rfl (by grind));exact⟨b,off,rfl,by grind,(je (a:=⟨b,_,none⟩) e).trans h0,(je (a:=⟨b,_,none⟩) e).trans h1⟩
def RdV.own{W W':World}{a:Option Addr}{xs:List aFH}{row:Option Nat}(h:RdV W a xs)(hg:W.grownBy W' row)(hr:∀r,row=some r->∃o:Obj,W.heap[r]? =some o/\o.isCells=false):RdV W' a xs:=by intro i hi;obtain⟨b,off,rfl,hb,h0,h1⟩:=h i hi;exact⟨b,off,rfl,xC hb hg.size,cell_kept h0 hg hr,cell_kept h1 hg hr⟩
def RdV.lt{w:World}{a:Option Addr}{xs:List aFH}(h:RdV w a xs)(h0:0<xs.length):∀b,a=some b->b.block<w.heap.size:=by intro b e;obtain⟨b',off,he,hb,_⟩:=h 0 h0;grind
structure RingOk(base:Nat)(w:World)(v:Value)(x:RV):Prop where
 rd:RdV w x.a x.r
 fresh:jq base x.a
 cap:x.r.length<=x.c
 len:x.r.length<=1000
 sep:0<x.r.length->∀b,x.a=some b->v.ownBlock≠some b.block
structure Rings(base bx:Nat)(w:World)(v:Value)(rs:List RV):Prop where
 box:Blk w bx 24 #[v]
 row:w.ownsRow base 23 1 v rs.length (rs.map RV.enc)
 ok:∀x∈rs,RingOk base w v x
def Wo{β:Type}{B base bx:Nat}{p:β->List RV->Prop}:OwnFrom B (λ(s:β) W=>∃v rs,Rings base bx W v rs/\p s rs):=λs W W' row ⟨v,rs,h,hp⟩ hg hr=>
 ⟨v,rs,⟨nk (cs:=λ_:β=> #[v]) s W W' row h.box hg hr,D8 h.row hg (λr e=>(hr r e).2),λx hx=>⟨(h.ok x hx).rd.own hg (λr e=>(hr r e).2),(h.ok x hx).fresh,(h.ok x hx).cap,(h.ok x hx).len,(h.ok x hx).sep⟩⟩,hp⟩
def Tf(o:RV)(ah:Option Addr)(ch:Nat)(hs:List RV)(w:World)(H:RdSh w o ah hs)(hp0:∀x∈o::hs,0<x.r.length):
  Calls bH 57 #[.agg #[RV.enc o,.slice ah hs.length ch]] w λe w'=>∃(v:Value) (rs:List RV),e= .returned v/\rs.map RV.r=aE (dy o hs)/\w'.ownsRow w.heap.size 23 1 v rs.length (rs.map RV.enc)/\(∀x∈rs,RingOk w.heap.size w' v x)/\Below w.heap.size w w':=by
 refine(callsIn_wide (n:=9)).1 (callsIn_of_wp_marks Tryz.func57 rfl trivial ((wpIn_wide (n:=9)).2 ?_) rfl);simp only[Tryz.ntmps57,ue,iE,lr,xH,xI,xJ,xK,xL,xM,q7,kM];dsimp only[RV.enc]
 go_wp2_with fail
 refine(Ap o ah hs.length ch _).mono ?_;rintro e w1 ⟨rfl,rfl⟩
 go_wp2_with fail
 have B3:=(Blk.new (w.alloc (.cells #[.slice o.a o.r.length o.c,.slice ah hs.length ch] 26)) 24 #[.slice none 0 0]).alloc (.cells #[RV.enc o,.slice ah hs.length ch] 26);have B4:=Blk.new ((w.alloc (.cells #[.slice o.a o.r.length o.c,.slice ah hs.length ch] 26)).alloc (.cells #[.slice none 0 0] 24)) 26 #[RV.enc o,.slice ah hs.length ch];have hBW:Below w.heap.size w ((((w.alloc (.cells #[.slice o.a o.r.length o.c,.slice ah hs.length ch] 26)).alloc (.cells #[.slice none 0 0] 24))).alloc (.cells #[RV.enc o,.slice ah hs.length ch] 26)):=(((Below.refl _ _).alloc (bZ _) _).alloc (by simp) _).alloc (by simp;omega) _;have hs0:w.heap.size+3=((((w.alloc (.cells #[.slice o.a o.r.length o.c,.slice ah hs.length ch] 26)).alloc (.cells #[.slice none 0 0] 24))).alloc (.cells #[RV.enc o,.slice ah hs.length ch] 26)).heap.size:=by simp
 simp only[World.size_alloc]at B3 B4;generalize (((w.alloc (.cells #[.slice o.a o.r.length o.c,.slice ah hs.length ch] 26)).alloc (.cells #[.slice none 0 0] 24))).alloc (.cells #[RV.enc o,.slice ah hs.length ch] 26)=W0 at B3 B4 hBW hs0|-;refine(wpIn_wide (n:=9)).1 ?_
 refine' wpIn_rangeFunc_ownF (F:=Fence.wide) (n:=9) rfl (by omega) (gf:=178) (lb:= #[.pointer (some ⟨w.heap.size+1+1,0,none⟩)]) rfl trivial (enters_of Dg (by kernel_rfl) rfl)
  (z8 Fence.wide 8 trivial rfl (by omega) (w.heap.size+1+1) w.heap.size o ah ch hs H.n W0 (by omega) B4 (H.h.below hBW)) Kp2.trans (Cg (by omega) (by omega)) (Below.refl _ _) (λ_=>rfl)
  (λpre W=>(Blk W (w.heap.size+1+1) 26 #[RV.enc o,.slice ah hs.length ch]/\∃v rs,Rings (w.heap.size+3) (w.heap.size+1) W v rs/\rs.map RV.r=pre.map λx=>x.1.r)/\(w.heap.size+3<=W.heap.size/\Below w.heap.size w W))
  (λc pre W=>False/\False)
  (OwnFrom.and (OwnFrom.and nk Wo) (OwnFrom.and (λs A B row h hg _=>cL h hg.size) (ownFrom_below (bZ _) (by omega))))
  (λc=>OwnFrom.and rm rm)
  ⟨⟨B4,_,[],⟨B3,I6 _ _ _ _,λx hx=>by cases hx⟩,rfl⟩,by omega,hBW⟩ _ ?assign ?body ?done ?stop
 case assign=>
  intro l x W K hK;dsimp only[RV.enc]
  gi_wp2
  exact hK
 case stop=>
  grind
 case done=>
  rintro D xs W hD hxs ⟨⟨b4,v,rs,hR,hm⟩,_,hb⟩ hK;have c3:=hR.box.cell 0;simp at c3;have hD2:w.heap.size<=D:=by omega
  have hm2:rs.map RV.r=aE (dy o hs):=by
   have e:(xs.map λx=>x.1.r)=(xs.map (·.1)).map RV.r:=by rw[dU];rfl
   rw[hm,e,hxs];rfl
  clear hxs b4 B3 B4 hBW hs0 hD hm;have hmk:∀x∈rs,RingOk w.heap.size (W.putObj D (.deferred none)) v x:=λx hx=>⟨(hR.ok x hx).rd.own (grownBy_putObj' W D _) (λr e=>by cases e;exact⟨_,hK,rfl⟩),(hR.ok x hx).fresh.mono (by omega),(hR.ok x hx).cap,(hR.ok x hx).len,(hR.ok x hx).sep⟩;have hrow:=hR.row;clear hR
  go_wp2
  exact Er (v:=v) rfl rfl hK ⟨v,rs,rfl,hm2,JZ (JY hrow hK _) (by omega),hmk,hb.trans (nW hD2 hK)⟩
 case body=>
  rintro l pre ⟨⟨xa,xc,xr⟩,hxm⟩ W ⟨⟨b4,u3,rs,hR,hm⟩,hsz,hb⟩ hlen;obtain⟨hxr,hxl⟩:=H.v _ hxm;dsimp only at hxr hxl;have hxn:xr.length<=1000:=hxl.1;have hrl:rs.length<=1001:=by have h1:=congrArg eQ hm;have h2:=H.n;simp at h1;omega
  have HE:Hid (∀rs':List RV,rs'.map RV.r=rs.map RV.r++[xr]->rs'.map RV.r=(pre++[(⟨⟨xa,xc,xr⟩,hxm⟩:Mem o hs)]).map λx=>x.1.r):=Lib.hid (λrs' h=>by grind);have b3:=hR.box;have hrow:=hR.row;clear hm B3 B4 hBW hs0;refine wpIn_block ?_;dsimp only[RV.enc];refine Dq (by kernel_rfl) (by kernel_rfl) [8,9,10,11,12] [[],[],[1],[1,2],[0,1,2,3],[0,1,2,3,4]] (by kernel_rfl) (by kernel_rfl) (by simp_all)
   (WR3 4 5 (λwx=>Below W.heap.size W wx) (λwx=>(∀x∈rs,RdV wx x.a x.r)/\Blk wx (w.heap.size+1) 24 #[u3]/\Blk wx (w.heap.size+1+1) 26 #[RV.enc o,.slice ah hs.length ch]/\Below w.heap.size w wx/\KeepsOthers W wx/\Below w.heap.size W wx/\w.heap.size+3<=wx.heap.size) (λwx=>∃v rs',Rings (w.heap.size+3) (w.heap.size+1) wx v rs'/\rs'.map RV.r=rs.map RV.r++[xr]/\Blk wx (w.heap.size+1+1) 26 #[RV.enc o,.slice ah hs.length ch]/\Below w.heap.size w wx/\KeepsOthers W wx/\Below w.heap.size W wx/\w.heap.size+3<=wx.heap.size))
   (λi v wx=>match i with
     |0=>v=u3
     |1=>v= .slice xa xr.length xc
     |2=>∃a c,v= .slice a xr.length c/\RdV wx a xr/\jq W.heap.size a/\xr.length<=c
     |3=>∃a c g,v= .slice (some ⟨g,0,none⟩) 1 1/\Blk wx g 23 #[.slice a xr.length c]/\W.heap.size<=g/\RdV wx a xr/\jq W.heap.size a/\xr.length<=c
     |4=>∃a c,wx.ownsRow (w.heap.size+3) 23 1 v (rs.length+1) (rs.map RV.enc++[.slice a xr.length c])/\RdV wx a xr/\jq W.heap.size a/\xr.length<=c/\(∀k,v.ownBlock=some k->u3.ownBlock=some k\/W.heap.size<=k)/\(0<xr.length->∀b,a=some b->v.ownBlock≠some b.block)
     |5=>True
     |_=>True)
   (WR3.start (Below.refl _ _).drew) ?_ ?_ ?_
  .intro j v wx wy hf hxy;match j with
   |0=>exact hf
   |1=>exact hf
   |2=>obtain⟨a,c,h1,h2,h3⟩:=hf;exact⟨a,c,h1,h2.below hxy,h3⟩
   |3=>obtain⟨a,c,g,h1,h2,h3,h4,h5⟩:=hf;exact⟨a,c,g,h1,h2.then_ hxy,h3,h4.below hxy,h5⟩
   |4=>obtain⟨a,c,h1,h2,h3⟩:=hf;exact⟨a,c,uj h1 hxy,h2.below hxy,h3⟩
   |5=>exact hf
   |_+6=>exact trivial
  .refine⟨?_,?_,?_,?_,?_,?_,trivial⟩
   .intro D V wx hD hanc hdesc hin hWR;have hA:=hWR.lo (hdesc 4 (by kernel_rfl)) (hdesc 5 (by kernel_rfl));have e3:=hin 3 (by kernel_rfl);simp at e3;have q0:=(Blk.then_ b3 hA).cell 0;simp at q0;refine opK ?_;intro K hK;simp[cQ,execOp,bJ,e3,q0,go_sem];exact hK _ _ ⟨rfl,(hWR.keep (by decide) (by decide)),.inl rfl⟩
   .intro D V wx hD hanc hdesc hin hWR;have hA:=hWR.lo (hdesc 4 (by kernel_rfl)) (hdesc 5 (by kernel_rfl));have e4:=hin 4 (by kernel_rfl);simp at e4;refine opK ?_;intro K hK;simp[cQ,execOp,bJ,e4,go_sem];exact hK _ _ ⟨rfl,(hWR.keep (by decide) (by decide)),.inl rfl⟩
   .intro D V wx hD hanc hdesc hin hWR;have hA:=hWR.lo (hdesc 4 (by kernel_rfl)) (hdesc 5 (by kernel_rfl));have e9:V 9= .slice xa xr.length xc:=(hanc 1 (by kernel_rfl)).2;refine opK ?_;intro K hK;simp[cQ,execOp,bJ,e9,go_sem];refine(Xk xa xc xr _ (hxr.below (hb.trans (hA.mono hb.size))) (hp0 _ hxm) hxl).mono ?_;rintro e w1 ⟨a,c,rfl,hR',hF,hN,hC,hc⟩;exact⟨_,rfl,hK _ _ ⟨⟨a,c,rfl,RdV.aCc hR',hF.mono hA.size,hC⟩,(.mkLo (hdesc 4 (by kernel_rfl)) (hdesc 5 (by kernel_rfl)) (by decide) (by decide) (Below.then_ hA hc)),.inr (.inl hc)⟩⟩
   .intro D V wx hD hanc hdesc hin hWR;have hA:=hWR.lo (hdesc 4 (by kernel_rfl)) (hdesc 5 (by kernel_rfl));have e10:=(hanc 2 (by kernel_rfl)).2;refine opK ?_;intro K hK;obtain⟨a,c,e10,r1,r2,r3⟩:=e10;have e10:V 10=_:=e10;simp[cQ,execOp,bJ,e10,go_sem];refine hK _ _ ⟨⟨a,c,_,rfl,Blk.new _ _ _,hA.size,r1.below ((Below.refl _ _).alloc (bZ _) _),r2,r3⟩,(.mkLo (hdesc 4 (by kernel_rfl)) (hdesc 5 (by kernel_rfl)) (by decide) (by decide) (hA.alloc hA.size _)),.inr (.inl ((Below.refl _ _).alloc (bZ _) _))⟩
   .intro D V wx hD hanc hdesc hin hWR;have hA:=hWR.lo hD (hdesc 5 (by kernel_rfl));have e8:V 8=u3:=(hanc 0 (by kernel_rfl)).2;have e11:=(hanc 3 (by kernel_rfl)).2;refine opK ?_;intro K hK;obtain⟨a,c,g,e11,k1,k2,k3,k4,k5⟩:=e11;have e11:V 11=_:=e11;refine Eu (.tmp 8) (.tmp 11) 24 rfl (w.heap.size+3) 23 (.slice none 0 0) 1 24 Dh (by kernel_rfl) rfl (by decide) u3 _ _ e8 (uj hrow hA) _ _ _ [.slice a xr.length c] e11 rfl (Rd.aBA k1) (λh=>by cases h) (by intro u hu;simp at hu;subst hu;rfl) (by omega) (by omega) (by have:=hA.size;omega) ?_;intro v' w' h1 h2 h3 h4;have hbx:=(Blk.then_ b3 hA);have hbr:=(Blk.then_ b4 hA);have hro:=uj hrow hA;have hlt:=k3.lt;refine hK _ _ ⟨⟨a,c,h1,k3.grown (λ_ b hb e=>by have:=k4 b hb;have:=(rE hrow _ e).2;omega) h3,k4,k5,(λk hk=>(h4 k hk).imp id (λh=>cL hA.size h)),(λh0 b hb e=>by have:=hlt h0 b hb;have:=k4 b hb;rcases h4 _ e with h|h<;>first|omega|(have:=(rE hrow _ h).2;omega))⟩,.mkMid (hdesc 5 (by kernel_rfl)) (by decide) ⟨(λx hx=>((hR.ok x hx).rd.below hA).grown (hR.ok x hx).sep h3),xV h3 hbx (BJ hro (by omega)),xV h3 hbr (BJ hro (by omega)),(hb.trans (hA.mono hb.size)).trans (h2.mono (by omega)),(AL hA).trans (ME hro h3),((Below.refl w.heap.size W).trans (hA.mono hb.size)).trans (h2.mono (by omega)),by have:=hA.size;have:=h2.size;omega⟩,.inr (.inr ?_)⟩;intro j hj hf;match j with
    |0=>exact hf
    |1=>exact hf
    |2=>obtain⟨a,c,g1,g2,g3,g4⟩:=hf;exact⟨a,c,g1,g2.grown (λ_ b hb e=>by have:=g3 b hb;have:=(rE hrow _ e).2;omega) h3,g3,g4⟩
    |3=>obtain⟨a,c,g,g1,g2,g5,g6,g3,g4⟩:=hf;exact⟨a,c,g,g1,xV h3 g2 (λe=>by have:=(rE hrow _ e).2;omega),g5,g6.grown (λ_ b hb e=>by have:=g3 b hb;have:=(rE hrow _ e).2;omega) h3,g3,g4⟩
    |4=>grind
    |5=>omega
    |_+6=>exact trivial
   .intro D V wx hD hanc hdesc hin hWR;have hB:=hWR.mid (hanc 4 (by kernel_rfl)).1 hD;have e3:=hin 3 (by kernel_rfl);simp at e3;have e12:=(hanc 4 (by kernel_rfl)).2;refine opK ?_;intro K hK;have q0:=hB.2.1.cell 0;have f0:=hB.2.1.frozen 0;simp at q0;obtain⟨a,c,e12,k2,k3,k4,k5,k6⟩:=e12;have e12:wx.ownsRow (w.heap.size+3) 23 1 (V 12) (rs.length+1) (rs.map RV.enc++[.slice a xr.length c]):=e12;have e3:V 3=_:=e3;have k5:∀k,(V 12).ownBlock=some k->_:=k5;have k6:0<xr.length->∀b,a=some b->(V 12).ownBlock≠some b.block:=k6;obtain⟨ra,rc,hv,_,_,_⟩:=Rd.HH e12;rw[hv]at e12 k5 k6;simp[cQ,execOp,bJ,e3,hv,q0,f0,go_sem];have HRK:∀x∈rs++[(⟨a,c,xr⟩:RV)],RingOk (w.heap.size+3) (wx.setCell ⟨w.heap.size+1,0,none⟩ (.slice ra (rs.length+1) rc)) (.slice ra (rs.length+1) rc) x:=by
     intro x hx;rcases bl.1 hx with h|h
     .have ok:=hR.ok x h;refine⟨(hB.1 x h).jH (λ_ b hb=>by have:=ok.fresh b hb;grind),ok.fresh,ok.cap,ok.len,λh0 b hb e=> ?_⟩;rcases k5 _ e with e2|e2
      .exact ok.sep h0 b hb e2
      .have:=ok.rd.lt h0 b hb;omega
     .simp at h;subst h;exact⟨k2.jH (λ_ b hb=>by have:=k3 b hb;grind),k3.mono hsz,k4,hxn,k6⟩
    refine hK _ _ ⟨trivial,.mkHi ⟨_,rs++[⟨a,c,xr⟩],⟨by simpa using hB.2.1.jH 0 (.slice ra (rs.length+1) rc),by simpa[RV.enc]using AJ e12 (by grind),HRK⟩,by simp,hB.2.2.1.far (by simp) _,hB.2.2.2.1.setCell (p:=⟨w.heap.size+1,0,none⟩) (by simp) _,hB.2.2.2.2.1.trans (KeepsOthers.setCell _ _ _),hB.2.2.2.2.2.1.setCell (p:=⟨w.heap.size+1,0,none⟩) (by simp) _,by simpa using hB.2.2.2.2.2.2⟩,.inr (.inr ?_)⟩;intro j hj hf;match j with
    |0=>exact hf
    |1=>exact hf
    |2=>obtain⟨a,c,g1,g2,g3,g4⟩:=hf;exact⟨a,c,g1,g2.jH (λ_ b hb=>by have:=g3 b hb;grind),g3,g4⟩
    |3=>obtain⟨a,c,g,g1,g2,g5,g6,g3,g4⟩:=hf;exact⟨a,c,g,g1,g2.far (by grind) _,g5,g6.jH (λ_ b hb=>by have:=g3 b hb;grind),g3,g4⟩
    |4=>obtain⟨a,c,g1,g2,g3,g4,g5,g6⟩:=hf;exact⟨a,c,AJ g1 (by grind),g2.jH (λ_ b hb=>by have:=g3 b hb;grind),g3,g4,g5,g6⟩
    |5=>omega
    |_+6=>exact trivial
  intro D V wx hall hf hWR;replace hWR:=hWR.hi (hall 5 (by decide));have f0:V 8=u3:=hf 0 (by decide);have f1:V 9= .slice xa xr.length xc:=hf 1 (by decide);have f2:=hf 2 (by decide);have f3:=hf 3 (by decide);have f4:=hf 4 (by decide);clear hf hall;simp only[iZ,zJ,List.foldl_nil,f0,f1];simp only[og,List.setIfInBounds_toArray,List.set_cons_succ,List.set_cons_zero];clear f0 f1;obtain⟨v',rs',k1,k2,k3,k4,k5,k6,k7⟩:=hWR;exact⟨k5,⟨k6,Eq.trans k3 (Eq.symm b4)⟩,⟨k3,v',rs',k1,HE.out _ k2⟩,k7,k4⟩
end
section
open Go.RowKit Go.Shelf
attribute [local go_sem] zq
def n9(s:Shape):Int:=area s.outer-(s.holes.map area).sum
def Gw{xs:List aFH}(h:cY xs=true): -8000000000<=area xs/\area xs<=8000000000:=by have V:=(iF xs).1 h;have h:=wN V.near xs.length (bZ _);have e:ar xs xs.length=area xs:=rfl;have:=V.most;omega
def j4{o:RV}{hs:List RV}(pre:List (Mem o hs)):Int:=(pre.map λx=>area x.1.r).sum
def UP{o:RV}{hs:List RV}(pre:List (Mem o hs))(x:Mem o hs):j4 (pre++[x])=j4 pre+area x.1.r:=by unfold j4;simp
def WH{o:RV}{hs:List RV}(hv:∀x∈o::hs,cY x.r=true)(pre:List (Mem o hs)): -(8000000000*(pre.length:Int))<=j4 pre/\j4 pre<=8000000000*(pre.length:Int):=by
 induction pre with
 |nil=>simp[j4]
 |cons x l ih=>
  have:=Gw (hv x.1 x.2);unfold j4 at*;grind
def U8{o:RV}{hs:List RV}{xs:List (Mem o hs)}(h:xs.map (·.1)=o::hs):area o.r*2-j4 xs=n9 (dy o hs):=by
 have e:(xs.map λx=>area x.1.r)=(xs.map (·.1)).map λx=>area x.r:=by rw[dU];rfl
 unfold j4 n9 dy;rw[e,h];simp only[dX,List.sum_cons,dU,Function.comp_def];omega
def T7{s:Shape}(h:bP s=true):∀r∈aE s,cY r=true:=by rw[xS]at h;grind
def Tt(o:RV)(ah:Option Addr)(ch:Nat)(hs:List RV)(w:World)(H:RdSh w o ah hs)(hch:hs.length<=ch):
  Calls bH 89 #[.agg #[RV.enc o,.slice ah hs.length ch]] w λe w'=>e= .returned (.int .i64 (if bP (dy o hs)then n9 (dy o hs)else 0))/\Below w.heap.size w w':=by
 have HB0:=Blk.new w 26 #[RV.enc o,.slice ah hs.length ch];have hB0:Below w.heap.size w (w.alloc (.cells #[RV.enc o,.slice ah hs.length ch] 26)):=(Below.refl _ _).alloc (bZ _) _;cases hv:bP (dy o hs)with
 |false=>
  refine(callsIn_wide (n:=9)).1 (callsIn_of_wp_marks Tryz.func89 rfl trivial ((wpIn_wide (n:=9)).2 ?_) rfl);simp only[Tryz.ntmps89,ue,iE,lr,xH,xI,xJ,xK,xL,xM,q7,kM]
  go_wp2_with fail
  refine(Do o ah ch hs _ (H.below hB0) hch).mono ?_;rintro e w1 ⟨rfl,hb1⟩
  go_wp2_with fail
  exact KQ (v:= .int .i64 0) (by simp[results,Tryz.f89]) rfl ⟨rfl,hB0.trans (hb1.mono hB0.size)⟩
 |true=>
  have hval:∀x∈o::hs,cY x.r=true:=λx hx=>T7 hv x.r (by unfold aE dy;grind)
  have hAO:=Gw (hval o cI);have hAO2:(if cY o.r then area o.r else 0)=area o.r:=by rw[hval o (by grind)];rfl
  refine(callsIn_wide (n:=9)).1 (callsIn_of_wp_marks Tryz.func89 rfl trivial ((wpIn_wide (n:=9)).2 ?_) rfl);simp only[Tryz.ntmps89,ue,iE,lr,xH,xI,xJ,xK,xL,xM,q7,kM]
  go_wp2_with fail
  refine(Do o ah ch hs _ (H.below hB0) hch).mono ?_;rintro e w1 ⟨rfl,hb1⟩;rw[hv];have B1:=HB0.then_ hb1;have hB1:=hB0.trans (hb1.mono hB0.size);have hsz1:w.heap.size+1<=w1.heap.size:=by simpa using hb1.size
  clear HB0 hB0 hb1;have c0:=B1.cell 0;have c1:=B1.cell 1;simp at c0 c1
  go_wp2_with fail
  refine(MD o.a o.c o.r _ ((H.v o (by grind)).1.below hB1) (H.v o (by grind)).2).mono ?_;rintro e w2 ⟨rfl,hb2⟩;rw[hAO2];have B2:=B1.then_ hb2;have hB2:=hB1.trans (hb2.mono hB1.size);have hsz2:w.heap.size+1<=w2.heap.size:=cL hsz1 hb2.size;clear B1 hB1 hb2 c0 c1 hsz1 hAO2;generalize hAe:area o.r=A at hAO;have B2a:=B2.alloc (.cells #[.int .i64 (2*A)] 3);have B3:=Blk.new w2 3 #[.int .i64 (2*A)];have hB2a:=hB2.alloc hB2.size (.cells #[.int .i64 (2*A)] 3);have hsz3:w.heap.size+1<=(w2.alloc (.cells #[.int .i64 (2*A)] 3)).heap.size:=by simp;omega
  have hp3:w2.heap.size<(w2.alloc (.cells #[.int .i64 (2*A)] 3)).heap.size:=by simp
  have c0:=B2a.cell 0;have c1:=B2a.cell 1;simp at c0 c1;obtain⟨p3,hp3e⟩:∃p,p=w2.heap.size:=⟨_,rfl⟩;rw[<-hp3e]at B3 hp3 hsz2
  go_wp2_with fail
  rw[<-hp3e];clear hp3e;generalize w2.alloc (.cells #[.int .i64 (2*A)] 3)=w3 at B2a B3 hB2a hsz3 hp3 c0 c1|-;clear B2 hB2;refine(Ap o ah hs.length ch _).mono ?_;rintro e w4 ⟨rfl,rfl⟩
  go_wp2_with fail
  have B3':=B3.alloc (.cells #[RV.enc o,.slice ah hs.length ch] 26);have B4:=Blk.new w3 26 #[RV.enc o,.slice ah hs.length ch];have hB4:=hB2a.alloc hB2a.size (.cells #[RV.enc o,.slice ah hs.length ch] 26);have hsz4:w3.heap.size<(w3.alloc (.cells #[RV.enc o,.slice ah hs.length ch] 26)).heap.size:=by simp
  obtain⟨p4,hp4e⟩:∃p,p=w3.heap.size:=⟨_,rfl⟩;rw[<-hp4e]at B4 hp3 hsz3 hsz4;rw[<-hp4e];clear hp4e B3 B2a c0 c1 hB2a;generalize w3.alloc (.cells #[RV.enc o,.slice ah hs.length ch] 26)=W0 at B3' B4 hB4 hsz4|-;refine(wpIn_wide (n:=9)).1 ?_
  refine' wpIn_rangeFunc_ownF (F:=Fence.wide) (n:=9) rfl (by omega) (gf:=178) (lb:= #[.pointer (some ⟨p4,0,none⟩)]) rfl trivial (enters_of Dg (by kernel_rfl) rfl)
   (z8 Fence.wide 8 trivial rfl (by omega) p4 w.heap.size o ah ch hs H.n W0 (by omega) B4 (H.h.below hB4)) Kp2.trans (Cg (by omega) (by omega)) (Below.refl _ _) (λ_=>rfl)
   (λpre W=>(Blk W p4 26 #[RV.enc o,.slice ah hs.length ch]/\Blk W p3 3 #[.int .i64 (2*A-j4 pre)])/\Below w.heap.size w W)
   (λc pre W=>False/\False)
   (OwnFrom.and (OwnFrom.and nk nk) (ownFrom_below (bZ _) (by omega)))
   (λc=>OwnFrom.and rm rm)
   ⟨⟨B4,by simpa[j4]using B3'⟩,hB4⟩ _ ?assign ?body ?done ?stop
  case assign=>
   intro l x W K hK
   gi_wp2
   exact hK
  case stop=>
   grind
  case done=>
   rintro D xs W hD hxs ⟨⟨b4,b3⟩,hb⟩ hK;have hres:2*A-j4 xs=n9 (dy o hs):=by have:=U8 hxs;rw[hAe]at this;omega
   rw[hres]at b3;have hD2:w.heap.size<=D:=by omega
   have c3:=b3.cell 0
   go_wp2
   exact Er (v:= .int .i64 (n9 (dy o hs))) rfl rfl hK ⟨rfl,hb.trans (nW hD2 hK)⟩
  case body=>
   rintro l pre ⟨⟨xa,xc,xr⟩,hxm⟩ W ⟨⟨b4,b3⟩,hb⟩ hlen;obtain⟨hxr,hxl⟩:=H.v _ hxm;have hvx:=hval _ hxm;have hA:=Gw hvx;dsimp only at hxr hxl hvx hA;have HE:Hid (j4 (pre++[(⟨⟨xa,xc,xr⟩,hxm⟩:Mem o hs)])=j4 pre+area xr):=Lib.hid (UP _ _);have hbd:=WH hval pre;have hN:=H.n;have hX2:(if cY xr then area xr else 0)=area xr:=by rw[hvx];rfl
   have hwrap:IntKind.i64.wrap (2*A-j4 pre-area xr)=2*A-j4 pre-area xr:=IntWalk.i64_in _ (by grind);generalize j4 pre=S at HE hbd b3 hwrap;have hX:=Lib.hid hX2;clear hX2 hvx hval B4 B3' hB4;refine wpIn_block ?_;dsimp only[RV.enc];refine Dq (by kernel_rfl) (by kernel_rfl) [15,16,17,18] [[],[],[1],[0,1,2],[0,1,2,3]] (by kernel_rfl) (by kernel_rfl) (by simp_all)
    (WR2 4 (λwx=>Below W.heap.size W wx) (λwx=>Blk wx p3 3 #[.int .i64 (2*A-S-area xr)]/\Blk wx p4 26 #[RV.enc o,.slice ah hs.length ch]/\Below w.heap.size w wx/\KeepsOthers W wx/\Below w.heap.size W wx))
    (λi v wx=>match i with
      |0=>v= .int .i64 (2*A-S)
      |1=>v= .slice xa xr.length xc
      |2=>v= .int .i64 (area xr)
      |3=>v= .int .i64 (2*A-S-area xr)
      |4=>True
      |_=>True)
    (WR2.start (Below.refl _ _).drew) ?_ ?_ ?_
   .grind
   .refine⟨?_,?_,?_,?_,?_,trivial⟩
    .intro D V wx hD hanc hdesc hin hWR;have hA:=hWR.lo (hdesc 4 (by kernel_rfl));have e3:=hin 3 (by kernel_rfl);have q0:=(Blk.then_ b3 hA).cell 0;refine opK ?_;intro K hK;simp[cQ,execOp,bJ,e3,q0,go_sem];exact hK _ _ ⟨rfl,(hWR.keep (by decide)),.inl rfl⟩
    .intro D V wx hD hanc hdesc hin hWR;have e4:=hin 4 (by kernel_rfl);refine opK ?_;intro K hK;simp[cQ,execOp,bJ,e4,go_sem];exact hK _ _ ⟨rfl,(hWR.keep (by decide)),.inl rfl⟩
    .intro D V wx hD hanc hdesc hin hWR;have hA:=hWR.lo (hdesc 4 (by kernel_rfl));have e16:V 16= .slice xa xr.length xc:=(hanc 1 (by kernel_rfl)).2;refine opK ?_;intro K hK;simp[cQ,execOp,bJ,e16,go_sem];refine(MD xa xc xr _ (hxr.below (hb.trans (hA.mono hb.size))) hxl).mono ?_;rintro e w1 ⟨rfl,hc⟩;rw[hX.out];exact⟨_,rfl,hK _ _ ⟨rfl,(.mkLo (hdesc 4 (by kernel_rfl)) (by decide) (Below.then_ hA hc)),.inr (.inl hc)⟩⟩
    .intro D V wx hD hanc hdesc hin hWR;have e15:V 15= .int .i64 (2*A-S):=(hanc 0 (by kernel_rfl)).2;have e17:V 17= .int .i64 (area xr):=(hanc 2 (by kernel_rfl)).2;refine opK ?_;intro K hK;simp[cQ,execOp,bJ,e15,e17,hwrap,go_sem];exact hK _ _ ⟨rfl,(hWR.keep (by decide)),.inl rfl⟩
    .intro D V wx hD hanc hdesc hin hWR;have hA:=hWR.lo hD;have e3:=hin 3 (by kernel_rfl);have e18:V 18= .int .i64 (2*A-S-area xr):=(hanc 3 (by kernel_rfl)).2;refine opK ?_;intro K hK;have q0:=(Blk.then_ b3 hA).cell 0;have f0:=(Blk.then_ b3 hA).frozen 0;simp[cQ,execOp,bJ,e3,e18,q0,f0,go_sem];refine hK _ _ ⟨trivial,.mkHi ⟨by simpa using(Blk.then_ b3 hA).jH 0 (.int .i64 (2*A-S-area xr)),(Blk.then_ b4 hA).far (by grind) _,(hb.trans (hA.mono hb.size)).setCell (p:=⟨p3,0,none⟩) (by grind) _,(AL hA).trans (KeepsOthers.setCell _ _ _),((Below.refl w.heap.size W).trans (hA.mono hb.size)).setCell (p:=⟨p3,0,none⟩) (by grind) _⟩,.inr (.inr ?_)⟩;grind
   intro D V wx hall hf hWR;replace hWR:=hWR.hi (by grind);have f0:V 15= .int .i64 (2*A-S):=hf 0 (by decide);have f1:V 16= .slice xa xr.length xc:=hf 1 (by decide);have f2:V 17= .int .i64 (area xr):=hf 2 (by decide);have f3:V 18= .int .i64 (2*A-S-area xr):=hf 3 (by decide);simp only[iZ,zJ,List.foldl_nil,f0,f1,f2,f3];obtain⟨k1,k2,k3,k4,k5⟩:=hWR;refine⟨k4,⟨k5,Eq.trans k2 (Eq.symm b4)⟩,⟨k2,?_⟩,k3⟩;rw[HE.out,show 2*A-(S+area xr)=2*A-S-area xr by omega];exact k1
end
section
section
variable {C:bG} {w:World}
def dA.rdV(hC:∀b o v,C b o v->w.cell? ⟨b,o,none⟩=some v){r:List V}{b o:Nat}(h:dA C (fy r) b o):RdV w (some ⟨b,o,none⟩) r:=by
 intro i hi;have h1:=vw.at r i hi;have g0:(fy r)[i*2]? =some (.int .i64 r[i].x):=by have:=congrArg (λl=>l[0]?) h1;simpa[pp,wq]using this
 have g1:(fy r)[i*2+1]? =some (.int .i64 r[i].y):=by have:=congrArg (λl=>l[1]?) h1;simpa[pp,wq]using this
 obtain⟨v0,a1,_,a3⟩:=dA.get _ _ _ h _ _ g0;obtain⟨v1,b1,_,b3⟩:=dA.get _ _ _ h _ _ g1;unfold aY at a3 b3;subst a3 b3;have en:aFG r i=r[i] :=by unfold aFG;rw[eI,dw hi];rfl
 refine⟨b,o,rfl,kO w ⟨b,_,none⟩ (hC _ _ _ a1),?_,?_⟩
 .grind
 grind
def Fb(hC:∀b o v,C b o v->w.cell? ⟨b,o,none⟩=some v){r:List V}{v:Value}(h:aY C (iP r) v):∃a c,v= .slice a r.length c/\RdV w a r/\r.length<=c/\(a=none->c=0):=by
 unfold iP aY at h;obtain⟨a,c,rfl,h1,h2,h3⟩:=h;refine⟨a,c,rfl,?_,h1,λe=>(h2 e).1⟩;cases a with
 |none=>
  have:r=[] :=by have:=congrArg eQ (h2 rfl).2;rw[vw.length]at this;exact p7.1 (by grind)
  subst this;intro i hi;simp at hi
 |some ad=>
  obtain⟨b,o,sp⟩:=ad;obtain⟨h4,h5⟩:=h3 _ rfl;dsimp only at h4 h5;rcases qz r.length with hr0|hr0
  .intro i hi;omega
  .have h4:=h4 hr0;subst h4;exact h5.rdV hC
def Jq(hC:∀b o v,C b o v->w.cell? ⟨b,o,none⟩=some v):∀(l:List aD) (b o:Nat),dA C (l.map iP) b o->∃hs:List RV,hs.map RV.r=l/\(∀i,i<hs.length->b<w.heap.size/\w.cell? ⟨b,o+i,none⟩=some (RV.enc (hs.getD i default)))/\∀x∈hs,RdV w x.a x.r/\x.r.length<=x.c/\(x.a=none->x.c=0)
 |[],b,o,_=>⟨[],rfl,(λi h=>by simp at h),λx h=>by cases h⟩
 |r::l,b,o,h=>by
  rw[dX]at h;unfold dA at h;obtain⟨⟨v,h1,_,h2⟩,h3⟩:=h;obtain⟨a,c,rfl,h4,h5⟩:=Fb hC h2;obtain⟨hs,g1,g2,g3⟩:=Jq hC l b (o+1) h3;refine⟨⟨a,c,r⟩::hs,by simp[g1],?_,?_⟩
  .intro i hi;cases i with
   |zero=>exact⟨kO w ⟨b,_,none⟩ (hC _ _ _ h1),by simpa[RV.enc]using hC _ _ _ h1⟩
   |succ i=>
    grind
  grind
def Wn(hC:∀b o v,C b o v->w.cell? ⟨b,o,none⟩=some v){l:List aD}{v:Value}(h:aY C (qS l) v):
  ∃ah ch,∃hs:List RV,v= .slice ah hs.length ch/\hs.length<=ch/\hs.map RV.r=l/\RdH w.heap.size w ah hs/\∀x∈hs,RdV w x.a x.r/\x.r.length<=x.c/\(x.a=none->x.c=0):=by
 unfold qS aY at h;obtain⟨a,c,rfl,h1,h2,h3⟩:=h;cases a with
 |none=>
  have:l=[] :=by simpa using(h2 rfl).2
  subst this;exact⟨none,c,[],rfl,kK _,rfl,(λi hi=>by simp at hi),λx hx=>by cases hx⟩
 |some ad=>
  obtain⟨b,o,sp⟩:=ad;obtain⟨h4,h5⟩:=h3 _ rfl;dsimp only at h4 h5;rcases qz l.length with hl0|hl0
  .have:l=[] :=p7.1 hl0;subst this;exact⟨_,c,[],rfl,kK _,rfl,(λi hi=>by simp at hi),λx hx=>by cases hx⟩
  have h4:=h4 hl0;subst h4;obtain⟨hs,g1,g2,g3⟩:=Jq hC l b o h5;have hl:hs.length=l.length:=by rw[<-g1];simp
  exact⟨_,c,hs,by rw[hl],by omega,g1,λi hi=>⟨b,o,rfl,(g2 i hi).1,(g2 i hi).2⟩,g3⟩
def An(hC:∀b o v,C b o v->w.cell? ⟨b,o,none⟩=some v){s:Shape}{v:Value}(hf:Fit s)(h:aY C (lC s) v):
  ∃o ah ch hs,v= .agg #[RV.enc o,.slice ah hs.length ch]/\RdSh w o ah hs/\hs.length<=ch/\(∀x∈o::hs,x.r.length<=x.c)/\dy o hs=s:=by
 unfold lC aY at h;obtain⟨vs,rfl,h1,_⟩:=h;unfold bK at h1;obtain⟨v1,r1,rfl,h2,h3⟩:=h1;unfold bK at h3;obtain⟨v2,r2,rfl,h4,h5⟩:=h3;unfold bK at h5;subst h5;obtain⟨a,c,rfl,g1,g2⟩:=Fb hC h2;obtain⟨ah,ch,hs,rfl,k1,k2,k3,k4⟩:=Wn hC h4;have hl:hs.length=s.holes.length:=by rw[<-k2];simp
 refine⟨⟨a,c,s.outer⟩,ah,ch,hs,rfl,⟨k3,?_,by rw[hl];have:=hf.2.1;omega⟩,k1,?_,by unfold dy;rw[k2]⟩
 .intro x hx;rcases bI.1 hx with rfl|hx
  .exact⟨g1,hf.1,g2.1,g2.2⟩
  .exact⟨(k4 x hx).1,hf.2.2 _ (by grind),(k4 x hx).2.1,(k4 x hx).2.2⟩
 grind
def En{cs:List PV}{us:List Value}{a:Option Addr}{n c N:Nat}(hr:Rd w a us)(hf:jq N a)(hn:a=none->c=0)(hc:n<=c)(hu:us.length=cs.length)(hsp:cs=[]->∀ad,a=some ad->ad.spot=none)
  (hv:∀(i:Nat) x u,cs[i]? =some x->us[i]? =some u->u.oneCell'=true/\aY (λb o x=>N<=b/\w.cell? ⟨b,o,none⟩=some x) x u):aY (λb o x=>N<=b/\w.cell? ⟨b,o,none⟩=some x) (.sl n cs) (.slice a n c):=by
 unfold aY;refine⟨a,c,rfl,hc,λha=>⟨hn ha,?_⟩,λad ha=> ?_⟩
 .cases cs with
  |nil=>rfl
  |cons x cs=>
   cases us with
   |nil=>simp at hu
   |cons u us=>obtain⟨b,off,h1,_⟩:=hr 0 u rfl;grind
 .subst ha;cases cs with
  |nil=>
   exact⟨λ_=>hsp rfl _ rfl,by unfold dA;trivial⟩
  |cons x cs=>
   cases us with
   |nil=>simp at hu
   |cons u us=>
    obtain⟨b,off,h1,_⟩:=hr 0 u rfl;cases h1;refine⟨λ_=>rfl,dA.of _ _ _ λi y hi=> ?_⟩;have hlt:i<(u::us).length:=by rw[hu];exact(zZ.1 hi).1
    have hui:(u::us)[i]? =some (u::us)[i] :=dw hlt;obtain⟨b',off',h2,_,h3⟩:=hr i _ hui;cases h2;obtain⟨g1,g2⟩:=hv i y _ hi hui;exact⟨_,⟨hf _ rfl,h3⟩,g1,g2⟩
end
def V4{C:bG}(r:List V):(lk r).length=(fy r).length/\∀(i:Nat) x u,(fy r)[i]? =some x->(lk r)[i]? =some u->u.oneCell'=true/\aY C x u:=by
 refine⟨by rw[Jd,vw.length],?_⟩;have key:∀(l:List V) (i:Nat) x u,(l.flatMap λv=>[PV.int .i64 v.x,PV.int .i64 v.y])[i]? =some x->(l.flatMap λv=>[cg .i64 v.x,cg .i64 v.y])[i]? =some u->u.oneCell'=true/\aY C x u:=by
  intro l;induction l with
  |nil=>grind
  |cons v l ih=>
   intro i x u h1 h2;simp only[ff,kM,q7]at h1 h2;match i with
   |0=>simp at h1 h2;subst h1 h2;exact⟨rfl,by unfold aY;rfl⟩
   |1=>simp at h1 h2;subst h1 h2;exact⟨rfl,by unfold aY;rfl⟩
   |i+2=>grind
 exact key r
def V5{C:bG}(r:List S):(jE r).length=(DD r).length/\∀(i:Nat) x u,(DD r)[i]? =some x->(jE r)[i]? =some u->u.oneCell'=true/\aY C x u:=by
 refine⟨by rw[Je,aB4.length],?_⟩;have key:∀(l:List S) (i:Nat) x u,(l.flatMap λs=>[PV.int .i64 s.a.x,PV.int .i64 s.a.y,PV.int .i64 s.b.x,PV.int .i64 s.b.y])[i]? =some x->(l.flatMap λs=>[cg .i64 s.a.x,cg .i64 s.a.y,cg .i64 s.b.x,cg .i64 s.b.y])[i]? =some u->u.oneCell'=true/\aY C x u:=by
  intro l;induction l with
  |nil=>grind
  |cons v l ih=>
   intro i x u h1 h2;simp only[ff,kM,q7]at h1 h2;match i with
   |0=>simp at h1 h2;subst h1 h2;exact⟨rfl,by unfold aY;rfl⟩
   |1=>simp at h1 h2;subst h1 h2;exact⟨rfl,by unfold aY;rfl⟩
   |2=>simp at h1 h2;subst h1 h2;exact⟨rfl,by unfold aY;rfl⟩
   |3=>simp at h1 h2;subst h1 h2;exact⟨rfl,by unfold aY;rfl⟩
   |i+4=>grind
 exact key r
def Yc{w:World}{N:Nat}{v:Value}{xs:List S}(h:w.ownsRow N 46 4 v xs.length (jE xs)):aY (λb o x=>N<=b/\w.cell? ⟨b,o,none⟩=some x) (Hq xs) v:=by
 have hsp:∀a c,v= .slice a xs.length c->∀ad,a=some ad->ad.spot=none:=by
  intro a c hv ad ha;rcases h.2 with⟨h1,_⟩|⟨g,cap,cur,h1,_⟩
  .grind
  .grind
 obtain⟨a,c,rfl,h1,h2,h3,h4⟩:=Rd.Of h;obtain⟨g1,g2⟩:=V5 (C:=λb o x=>N<=b/\w.cell? ⟨b,o,none⟩=some x) xs;exact En h1 h2 h3 h4 g1 (λ_=>hsp a c rfl) g2
def Yh{w:World}{N:Nat}{a:Option Addr}{c:Nat}{xs:List V}(h:RdV w a xs)(hf:jq N a)(hc:xs.length<=c)(h0:0<xs.length):aY (λb o x=>N<=b/\w.cell? ⟨b,o,none⟩=some x) (iP xs) (.slice a xs.length c):=by
 obtain⟨b0,o0,rfl,_⟩:=h 0 h0;obtain⟨g1,g2⟩:=V4 (C:=λb o x=>N<=b/\w.cell? ⟨b,o,none⟩=some x) xs;refine En (us:=lk xs) ?_ hf (λh=>by cases h) hc g1 (λ_ ad ha=>by cases ha;rfl) g2;intro i u hi;have hlt:i<xs.length*2:=by rw[<-Jd];exact(zZ.1 hi).1
 obtain⟨k,hk⟩:∃k,i=k*2\/i=k*2+1:=⟨i/2,by omega⟩;obtain⟨b,o,he,h1,h2,h3⟩:=h k (by omega);cases he;obtain⟨f0,f1⟩:=Lu xs k (by omega);grind
section
variable {fr:Bool}
def Ti(s:Shape)(hf:Fit s):Sat bH true 56 [lC s] (.bool (bP s)):=by refine⟨by kernel_rfl,λC w vs hC h=> ?_⟩;unfold bK at h;obtain⟨v,r,rfl,h1,h2⟩:=h;unfold bK at h2;subst h2;obtain⟨o,ah,ch,hs,rfl,H,hch,_,rfl⟩:=An hC hf h1;refine(Do o ah ch hs w H hch).mono ?_;rintro e w' ⟨rfl,hb⟩;exact⟨_,rfl,by unfold aY;rfl,hb⟩
def Tk(s:Shape)(hf:Fit s):Sat bH true 131 [lC s] (Hq (ao s)):=by
 refine⟨by kernel_rfl,λC w vs hC h=> ?_⟩;unfold bK at h;obtain⟨v,r,rfl,h1,h2⟩:=h;unfold bK at h2;subst h2;obtain⟨o,ah,ch,hs,rfl,H,hch,_,rfl⟩:=An hC hf h1;have hn:hs.length<=900:=by have:=hf.2.1;simpa[dy]using this
 refine(Th o ah ch hs w H hn).mono ?_;rintro e w' ⟨v,rfl,hrow,hb⟩;exact⟨_,rfl,aY.mono (λb o x h=> .inr h) _ _ (Yc hrow),hb⟩
def Tu(s:Shape)(hf:Fit s):Sat bH true 89 [lC s] (.int .i64 (if bP s then n9 s else 0)):=by refine⟨by kernel_rfl,λC w vs hC h=> ?_⟩;unfold bK at h;obtain⟨v,r,rfl,h1,h2⟩:=h;unfold bK at h2;subst h2;obtain⟨o,ah,ch,hs,rfl,H,hch,_,rfl⟩:=An hC hf h1;refine(Tt o ah ch hs w H hch).mono ?_;rintro e w' ⟨rfl,hb⟩;exact⟨_,rfl,by unfold aY;rfl,hb⟩
def VV{w:World}{N:Nat}{v:Value}{rs:List RV}(h:w.ownsRow N 23 1 v rs.length (rs.map RV.enc))(hx:∀x∈rs,RdV w x.a x.r/\jq N x.a/\x.r.length<=x.c/\0<x.r.length):
  aY (λb o x=>N<=b/\w.cell? ⟨b,o,none⟩=some x) (qS (rs.map RV.r)) v:=by
 have hsp:∀a c,v= .slice a rs.length c->∀ad,a=some ad->ad.spot=none:=by
  intro a c hv ad ha;rcases h.2 with⟨h1,_⟩|⟨g,cap,cur,h1,_⟩
  .grind
  .grind
 obtain⟨a,c,rfl,h1,h2,h3,h4⟩:=Rd.Of h;unfold qS;rw[di];refine En h1 h2 h3 h4 (by simp) (λ_=>hsp a c rfl) ?_;intro i x u hi hu;rw[gr,gr]at hi;rw[gr]at hu;cases hr:rs[i]? with
 |none=>grind
 |some y=>
  rw[hr]at hi hu;simp only[eJ,fg]at hi hu;subst hi hu;obtain⟨k1,k2,k3,k4⟩:=hx y (TJ hr);exact⟨rfl,Yh k1 k2 k3 k4⟩
def Tj(s:Shape)(hf:Fit s)(hp:0<s.outer.length/\∀r∈s.holes,0<r.length):Sat bH true 57 [lC s] (qS (aE s)):=by
 refine⟨by kernel_rfl,λC w vs hC h=> ?_⟩;unfold bK at h;obtain⟨v,r,rfl,h1,h2⟩:=h;unfold bK at h2;subst h2;obtain⟨o,ah,ch,hs,rfl,H,hch,_,rfl⟩:=An hC hf h1;refine(Tf o ah ch hs w H λx hx=>by rcases bI.1 hx with rfl|hx;exact hp.1;exact hp.2 _ (bR.2 ⟨x,hx,rfl⟩)).mono ?_;rintro e w' ⟨v,rs,rfl,hrs,hrow,hok,hb⟩;refine⟨_,rfl,aY.mono (λb o x h=> .inr h) _ _ ?_,hb⟩;rw[<-hrs];refine VV hrow λx hx=>⟨(hok x hx).rd,(hok x hx).fresh,(hok x hx).cap,?_⟩;have hm:x.r∈aE (dy o hs):=by rw[<-hrs];exact bR.2 ⟨x,hx,rfl⟩
 unfold aE at hm;grind
end
def zD{α:Type}(fr:Bool)(A:Arl α)(pre:α->List Prop)(res:α->SV):Con:=⟨α,A.dec,pre,.val fr res⟩
def Br{f:FuncId}{fr:Bool}{α:Type}{A:Arl α}{pre:α->List Prop}{res:α->SV}(B:α->List PV)(q:α->PV)(hB:∀x,avs (A.enc x)=(B x).map .p)(hq:∀x,(res x).av= .p (q x))(h:∀x,pi (pre x)->Sat bH fr f (B x) (q x)):(zD fr A pre res).Okz f:=by intro s x hd hp;exact⟨B x,q x,(A.ok s x hd).trans (hB x),hq x,h x (jz.2 hp)⟩
def uG(l:List aD):LT.R.enc l=l.map iP:=by
 unfold LT.enc;induction l with
 |nil=>rfl
 |cons r l ih=>rw[ff,ih];rfl
def CI(s:Shape):avs ((a1 aSh).enc s)=[lC s].map .p:=by show [SV.av (.agg [.lst .V s.outer,.lst .R s.holes])] =_;show [eO [.p (.sl s.outer.length (fy s.outer)),.p (.sl s.holes.length (LT.R.enc s.holes))]] =_;rw[uG];rfl
def c55:Con:=zD true (a1 aSh) (λs=>[Fit s]) (λs=> .bool (bP s))
def k55:c55.Okz 56:=Br (λs=>[lC s]) (λs=> .bool (bP s)) CI (λ_=>rfl) λs h=>Ti s h
def aFk:Con:=zD true (a1 aSh) (λs=>[Fit s]) (λs=> .lst .S (ao s))
def aDN:aFk.Okz 131:=Br (λs=>[lC s]) (λs=>Hq (ao s)) CI (λ_=>rfl) λs h=>Tk s h
def c90:Con:=zD true (a1 aSh) (λs=>[Fit s]) (λs=> .int .i64 (if bP s=true then n9 s else 0))
def k90:c90.Okz 89:=Br (λs=>[lC s]) (λs=> .int .i64 (if bP s=true then n9 s else 0)) CI (λ_=>rfl) λs h=>Tu s h
def c56:Con:=zD true (a1 aSh) (λs=>[Fit s,0<s.outer.length,∀r∈s.holes,0<r.length]) (λs=> .lst .R (aE s))
def k56:c56.Okz 57:=Br (λs=>[lC s]) (λs=>qS (aE s)) CI (λs=>by show AV.p (.sl _ (LT.R.enc _))=_;rw[uG];rfl) λs h=>Tj s h.1 h.2
noncomputable def tS:=(((Cs.adk k56).adk k90).adk aDN).adk k55
end
def swR(a b:aD)(n:Nat):aD:=if n % 2=0 then a else b
def YG(a b:aD)(n:Nat):swR b a n=swR a b (n+1):=by unfold swR;grind
def rU(a b:aD)(i k:Nat):Bool:=(bM k).all λj=>decide (turn (aFG a i) (aFG a ((i+1) % a.length)) (aFG b j)<=0)
def OQ(a b:aD)(i k:Nat):rU a b i (k+1)=(rU a b i k&&decide (turn (aFG a i) (aFG a ((i+1) % a.length)) (aFG b k)<=0)):=by unfold rU;grind
def aBu(a b:aD)(i:Nat):rU a b i b.length=b.all λv=>decide (turn (aFG a i) (nxt a i) v<=0):=by
 unfold rU;rw[fL,bh,bh];constructor
 .intro h v hv;obtain⟨j,hj,rfl⟩:=eL.1 hv;exact h j (cD.2 hj)
 .intro h j hj;exact h _ (dO (cD.1 hj))
def KM(a b:aD):j6 a b=(bM a.length).any λi=>rU a b i b.length:=by unfold j6;congr 1;funext i;rw[aBu]
def VW{a b:aD}{i:Nat}(hi:i<a.length)(h:rU a b i b.length=true):j6 a b=true:=by rw[KM];grind
def Wt{a b:aD}(h:aK (λi=>rU a b i b.length=false) a.length):j6 a b=false:=by rw[KM];exact zn.2 λi hi=>by rw[h i (cD.1 hi)];simp
def Zj{a b:aD}{n:Nat}(h:j6 (swR a b n) (swR b a n)=true):true=j5 a b:=by unfold swR at h;unfold j5;grind
def Zk{a b:aD}(h:aK (λn=>j6 (swR a b n) (swR b a n)=false) 2):false=j5 a b:=by have h0:=h 0 (by omega);have h1:=h 1 (by omega);unfold swR at h0 h1;unfold j5;grind
noncomputable def c77:Con:=con (ac (aL .V) (ac (aL .V) (a1 (aF 77)))) (λ(a,b,_)=>[a.length<=1000000,b.length<=1000000]) (λ(a,b,_)=> .iqz (cN a b))
def k77:c77.Okz 76:=ak Cs (λ(a,b,_)=>[lp 2 13 a.length (λk=>[k<=b.length,aK (λj=>bq (aFG a j) (aFG b j)=0) k]) [] bX bX]
  ) (λ(_,_,_)=>⟨_,rfl⟩) λ(a,b,u) hp=>aZ (aA (b.length:Int) λD=>aA (a.length:Int) λE=>(0=(0:Int)/\(0:Nat)<=a.length/\(0:Nat)<=b.length/\aK (λj=>bq (aFG a j) (aFG b j)=0) 0)/\
 (∀x:Nat,aA (x:Int) λA=>aA (aFG a x) λB=>aA (aFG b x) λC=>x<=a.length/\x<=b.length/\aK (λj=>bq (aFG a j) (aFG b j)=0) x->(A<a.length->ix A a.length/\(D<=x->1=cN a b)/\
   (¬D<=x->ix A b.length/\(¬bq B C=0->bq B C=cN a b)/\
    (¬(¬bq B C=0)->aH (A+1)/\A+1=((x+1:Nat):Int)/\x+1<=a.length/\x+1<=b.length/\aK (λj=>bq (aFG a j) (aFG b j)=0) (x+1)/\a.length-(x+1)<a.length-x)))/\
  (¬A<a.length->(E<b.length-> -1=cN a b)/\
   (¬E<b.length->0=cN a b)))) (by kernel_rfl) (by
  change a.length<=1000000/\b.length<=1000000 at hp;have g1:∀x:Nat,(x:Int)<a.length->x<=b.length->aK (λj=>bq (aFG a j) (aFG b j)=0) x->(b.length:Int)<=x->1=cN a b:=λx h1 h2 h3 h4=>by rw[AO (k:=x) (by omega) h2 (.inr (by omega)) h3];unfold sgn;omega
  have g2:∀x:Nat,¬(x:Int)<a.length->x<=a.length->x<=b.length->aK (λj=>bq (aFG a j) (aFG b j)=0) x->cN a b=sgn ((a.length:Int)-b.length):=λx h1 h2 h3 h4=>AO h2 h3 (.inl (by omega)) h4;have s1:(a.length:Int)<b.length-> -1=sgn ((a.length:Int)-b.length):=λh=>by unfold sgn;omega
  have s2:(a.length:Int)=b.length->0=sgn ((a.length:Int)-b.length):=λh=>by unfold sgn;omega
  with_reducible ((repeat' first|apply br|intro);all_goals repeat cases‹_/\_›)
  all_goals first|rfl|exact(Ec ‹_› ‹_› (by omega) (by omega)).symm|exact g1 _ ‹_› ‹_› ‹_› ‹_› |(rw[g2 _ ‹_› ‹_› ‹_› ‹_›];first|exact s1 ‹_› |omega)|exact cB ‹_› (sk ‹¬¬_›)|grind)
noncomputable def t77:=Cs.adk k77
noncomputable def c26:Con:=con (ac (aL .V) (a1 (aL .V))) (λ(a,b)=>[a.length<=1000000,b.length<=1000000]) (λ(a,b)=> .iqz (cN a b))
def k26:c26.Okz 26:=ak t77 (λ(_,_)=>[]
 ) (λ(_,_)=>⟨_,rfl⟩) λ(a,b) hp=>aZ (a.length<=1000000/\b.length<=1000000/\cN a b=cN a b) (by kernel_rfl) (by
 change a.length<=1000000/\b.length<=1000000 at hp;omega)
noncomputable def t26:=t77.adk k26
noncomputable def c93:Con:=con (ac (aL .V) (a1 (aL .V))) (λ(a,b)=>[a.length<=1000,b.length<=1000,(∀v∈a,bd 1000000000 v),(∀v∈b,bd 1000000000 v)]) (λ(a,b)=> .bool (j5 a b))
def k93:c93.Okz 92:=ak t26 (λ(a,b)=>[lp 2 5 2 (λn=>[aK (λj=>j6 (swR a b j) (swR b a j)=false) n]) [] (λn=>[(0,.lst .V (swR a b n)),(1,.lst .V (swR b a n))]) bX λn=>[cnt 5 6 (swR a b n).length (aK λi=>rU (swR a b n) (swR b a n) i (swR b a n).length=false) λi=>[lp 9 8 (swR b a n).length bX [] (λk=>[(7,.bool (rU (swR a b n) (swR b a n) i k))]) bX]]]
  ) (λ(_,_)=>⟨_,rfl⟩) λ(a,b) hp=>aZ (aA (0:Int) λE=>aA (0:Nat) λF=>(0=E/\a=swR a b 0/\b=swR b a 0/\F<=2/\aK (λj=>j6 (swR a b j) (swR b a j)=false) 0)/\
 (∀x:Nat,aA (x+1) λA=>aA (x:Int) λC=>aA (swR a b x) λG=>aA (swR b a x) λH=>x<=2/\aK (λj=>j6 (swR a b j) (swR b a j)=false) x->(C<2->(0=E/\F<=G.length/\aK (λi=>rU G H i H.length=false) 0)/\
   (∀x_1:Nat,aA (x_1+1) λB=>aA (x_1:Int) λJ=>aA (aFG G x_1) λK=>aA (aFG G (B % G.length)) λN=>x_1<=G.length/\aK (λi=>rU G H i H.length=false) x_1->(J<G.length->(0=E/\true=rU G H x_1 0/\F<=H.length)/\
     (∀x_2:Nat,aA (x_2+1) λD=>aA (x_2:Int) λI=>aA (aFG H x_2) λL=>aA (x_2+1:Nat) λM=>x_2<=H.length->(I<H.length->(rU G H x_1 x_2=true->ix J G.length/\aH (J+1)/\(G.length:Int)≠0/\ix ((B % G.length:Nat):Int) G.length/\ix I H.length/\bd 1000000000 K/\bd 1000000000 N/\bd 1000000000 L/\aH (I+1)/\I+1=(M:Int)/\decide (turn K N L<=0)=rU G H x_1 D/\x_2+1<=H.length/\H.length-D<H.length-x_2)/\
       (rU G H x_1 x_2=false->aH (I+1)/\I+1=(M:Int)/\false=rU G H x_1 D/\x_2+1<=H.length/\H.length-D<H.length-x_2))/\
      (¬I<H.length->(rU G H x_1 x_2=true->true=j5 a b)/\
       (rU G H x_1 x_2=false->aH (J+1)/\J+1=((x_1+1:Nat):Int)/\x_1+1<=G.length/\aK (λi=>rU G H i H.length=false) B/\G.length-B<G.length-x_1))))/\
    (¬J<G.length->aH (C+1)/\C+1=((x+1:Nat):Int)/\swR b a x=swR a b A/\swR a b x=swR b a A/\x+1<=2/\aK (λj=>j6 (swR a b j) (swR b a j)=false) A/\2-A<2-x)))/\
  (¬C<2->false=j5 a b))) (by kernel_rfl) (by
  change a.length<=1000/\b.length<=1000/\((∀v∈a,bd 1000000000 v))/\((∀v∈b,bd 1000000000 v))at hp;obtain⟨la,lb,va,vb⟩:=hp;have l1:∀n,(swR a b n).length<=1000:=λn=>by unfold swR;grind
  have l2:∀n,(swR b a n).length<=1000:=λn=>by unfold swR;grind
  have v1:∀n i,i<(swR a b n).length->bd 1000000000 (aFG (swR a b n) i):=λn i h=>by have:=dO h;unfold swR at this|-;grind
  have v2:∀n i,i<(swR b a n).length->bd 1000000000 (aFG (swR b a n) i):=λn i h=>by have:=dO h;unfold swR at this|-;grind
  have z:∀A B:aD,∀i,true=rU A B i 0:=λA B i=>rfl;have us:∀(A B:aD) (i k:Nat),rU A B i k=true->decide (turn (aFG A i) (aFG A ((i+1) % A.length)) (aFG B k)<=0)=rU A B i (k+1):=λA B i k h=>by rw[OQ,h,jM]
  have uf:∀(A B:aD) (i k:Nat),rU A B i k=false->false=rU A B i (k+1):=λA B i k h=>by rw[OQ,h,Bool.false_and]
  have yes:∀n i k:Nat,(i:Int)<(swR a b n).length->¬(k:Int)<(swR b a n).length->k<=(swR b a n).length->rU (swR a b n) (swR b a n) i k=true->true=j5 a b:=λn i k h1 h2 h3 h4=>by
   obtain rfl:k=(swR b a n).length:=by omega
   exact Zj (n:=n) (VW (by omega) h4)
  have no:∀n i k:Nat,¬(k:Int)<(swR b a n).length->k<=(swR b a n).length->rU (swR a b n) (swR b a n) i k=false->aK (λi=>rU (swR a b n) (swR b a n) i (swR b a n).length=false) i->aK (λi=>rU (swR a b n) (swR b a n) i (swR b a n).length=false) (i+1):=λn i k h2 h3 h4 h5=>by
   obtain rfl:k=(swR b a n).length:=by omega
   exact cB h5 h4
  have nx:∀n i:Nat,¬(i:Int)<(swR a b n).length->i<=(swR a b n).length->aK (λi=>rU (swR a b n) (swR b a n) i (swR b a n).length=false) i->aK (λj=>j6 (swR a b j) (swR b a j)=false) n->aK (λj=>j6 (swR a b j) (swR b a j)=false) (n+1):=λn i h1 h2 h3 h4=>by
   obtain rfl:i=(swR a b n).length:=by omega
   exact cB h4 (Wt h3)
  have fin:∀n:Nat,¬(n:Int)<2->n<=2->aK (λj=>j6 (swR a b j) (swR b a j)=false) n->false=j5 a b:=λn h1 h2 h3=>by
   obtain rfl:n=2:=by omega
   exact Zk h3
  have e0:a=swR a b 0:=rfl;have e1:b=swR b a 0:=rfl
  repeat' first|with_reducible apply br|with_reducible intro
  all_goals repeat with_reducible cases‹_/\aK _ _›
  all_goals first|assumption|exact z _ _ _|exact us _ _ _ _ ‹_› |exact uf _ _ _ _ ‹_› |exact yes _ _ _ ‹_› ‹_› ‹_› ‹_› |exact no _ _ _ ‹_› ‹_› ‹_› ‹_› |exact nx _ _ ‹_› ‹_› ‹_› ‹_› |exact fin _ ‹_› ‹_› ‹_› |exact YG _ _ _|exact gG _|exact v1 _ _ (by omega)|exact v2 _ _ (by omega)|exact v1 _ _ (bz _ (by omega))|exact gQ (by omega)|omega|(have:=l1 ‹Nat›;unfold ix;omega)|(unfold aH;have h1:=l1;have h2:=l2;omega)|(unfold ix;omega)|(have h1:=l1;have h2:=l2;exact bV (by grind))|grind)
noncomputable def So:Con:=con (ac (aL .V) (a1 (aL .V))) (λ(a,b)=>[a.length<=1000,b.length<=1000,0<a.length,0<b.length]) (λ(a,b)=> .iqz (bq (aFG a 0) (aFG b 0)))
def aDR:So.Okz 127:=ak t26 (λ(_,_)=>[]
 ) (λ(_,_)=>⟨_,rfl⟩) λ(a,b) hp=>aZ (ix 0 a.length/\ix 0 b.length/\bq (aFG a 0) (aFG b 0)=bq (aFG a 0) (aFG b 0)) (by kernel_rfl) (by
 change a.length<=1000/\b.length<=1000/\0<a.length/\0<b.length at hp;exact⟨by unfold ix;omega,by unfold ix;omega,rfl⟩)
def FM{α:Type}:∀(a:Ask α) (w:World),w.drawn<=(w.ask a).2.drawn
 | .done a,w=>bZ _
 | .ask what range k,w=>by
   unfold World.ask;dsimp only;split
   .exact FM _ w
   .exact cL (Nat.le_succ w.drawn) (FM (k _) {w with drawn:=w.drawn+1})
def K8(w:World)(c:Sys):w.drawn<=(w.sys c).2.drawn:=by have h:=FM (Kernel.perform c w.os) w;unfold World.sys;grind
def TW{p:Program}{w w':World}{at_:Addr}{u:TypeId}{k:Addr}{v:Value}{b:Bool}{l:List Addr}(h:w.viewStore p at_ u k v b= .ok (w',l)):w'.drawn=w.drawn:=by
 unfold World.viewStore at h;simp only[bind,Except.bind,pure,Except.pure]at h
 repeat' split at h
 all_goals first|(cases h;done)|skip
 all_goals (try cases h;try rfl)
def Result.drew{α:Type}(w:World):Result α->Prop
 | .ok _ w'=>w.drawn<=w'.drawn
 | .halt _ w'=>w.drawn<=w'.drawn
def Ao{α:Type}(p:Program):∀(s:Sem α) (w:World),Result.drew w (s.run p w):=by
 intro s;induction s with
 |pure a=>intro w;exact bZ _
 |load m a k ih=>
  intro w;unfold gF;split
  .exact ih _ w
  .split
   .exact ih _ w
   .exact bZ _
 |store m a v k ih=>
  intro w;have key:∀w1:World,w1.drawn=w.drawn->Result.drew w (k.run p w1):=by intro w1 h;have:=ih w1;revert this;generalize gF p _ _=r;intro h2;cases r<;>(show w.drawn<=_;rw[<-h];exact h2)
  have h0:∀h,Result.drew (α:=α) w (.halt h w):=λ_=>bZ _;cases v<;>simp only[gF];all_goals first|exact h0 _|skip
  all_goals
   split
   .split
    .exact h0 _
    .exact key _ rfl
   .split
    .rename_i h1;refine key _ ?_;unfold World.farStore at h1;split at h1
     .split at h1
      .rename_i h2;cases h1;exact TW h2
      .cases h1
     .cases h1
    .exact h0 _
 |new o k ih=>intro w;unfold gF;exact ih _ _
 |shape r k ih=>intro w;unfold gF;exact ih _ _
 |freeze a n k ih=>
  intro w;unfold gF;have e:(w.freeze a n).drawn=w.drawn:=by unfold World.freeze;first|rfl|grind
  have:=ih (w.freeze a n);revert this;generalize gF p _ _=r;intro h2;cases r<;>(show w.drawn<=_;rw[<-e];exact h2)
 |frozen a k ih=>intro w;unfold gF;exact ih _ _
 |getObj r k ih=>
  intro w;unfold gF;split
  .exact bZ _
  .exact ih _ _
  .exact bZ _
 |setObj r o k ih=>
  intro w;unfold gF;split
  .exact bZ _
  .exact ih _
  .exact bZ _
 |choose q k ih=>
  intro w;unfold gF;split
  .exact ih _ w
  .have:=ih (q.cut (w.tape w.drawn q)) {w with drawn:=w.drawn+1};revert this;generalize gF p _ _=r;intro h;cases r<;>exact cL (Nat.le_succ _) h
 |sys c k ih=>
  intro w;unfold gF;have:=ih (w.sys c).1 (w.sys c).2;have h2:=K8 w c;revert this;generalize gF p _ _=r;intro h;cases r<;>exact cL h2 h
 |program k ih=>intro w;unfold gF;exact ih _ _
 |mark m k ih=>intro w;unfold gF;exact ih _
 |halt h=>intro w;exact bZ _
section
variable {p:Program}
def iX{α:Type}{s:Sem α}{w w':World}{a:α}(h:s.run p w= .ok a w'):w.drawn<=w'.drawn:=by have:=Ao p s w;rw[h]at this;exact this
def o5{α:Type}{s:Sem α}{w w':World}{e:Halt}(h:s.run p w= .halt e w'):w.drawn<=w'.drawn:=by have:=Ao p s w;rw[h]at this;exact this
def xx{α:Type}:∀(s:Sem α) (w:World) (es:Array Event),(s.runT p w es).1=s.run p w:=by simp_all
def Z7{α:Type}{s:Sem α}{w w':World}{a:α}{es es':Array Event}(h:s.runT p w es=(.ok a w',es')):w.drawn<=w'.drawn:=by have:=xx (p:=p) s w es;rw[h]at this;exact iX this.symm
def Em{α:Type}{s:Sem α}{w w':World}{e:Halt}{es es':Array Event}(h:s.runT p w es=(.halt e w',es')):w.drawn<=w'.drawn:=by have:=xx (p:=p) s w es;rw[h]at this;exact o5 this.symm
def qV{α:Type}{s:Sem α}{w w':World}{a:α}{es:Array Event}(h:(s.runT p w es).1= .ok a w'):w.drawn<=w'.drawn:=iX ((xx s w es).symm.trans h)
def nY{α:Type}{s:Sem α}{w w':World}{e:Halt}{es:Array Event}(h:(s.runT p w es).1= .halt e w'):w.drawn<=w'.drawn:=o5 ((xx s w es).symm.trans h)
def wd:GStep->Nat
 | .go _ w _=>w.drawn
 | .comm _ _ _ _ w _=>w.drawn
 | .spawn _ _ w _=>w.drawn
 | .count _ w _=>w.drawn
 | .timer _ _ w _=>w.drawn
 | .alone _ _ w _=>w.drawn
 | .newcoro _ _ _ w _=>w.drawn
 | .coroswitch _ _ _ w _=>w.drawn
 | .collect _ w _=>w.drawn
 | .watch _ w _=>w.drawn
 | .ended _ w _=>w.drawn
def tV(es:Array Event)(s:GStep):wd (s.after es)=wd s:=by cases s<;>rfl
def CF{c:Prop} [Decidable c]{a b:GStep}{n:Nat}(h1:n<=wd a)(h2:n<=wd b):n<=wd (if c then a else b):=by grind
def JO(fr:Frame)(v:Value)(w:World):w.drawn<=wd (endPrinting p fr v w):=by unfold endPrinting;dsimp only;split<;>exact bZ _
def J1(fr:Frame)(cs:List Frame)(d:Option Dying)(m:String)(w:World):w.drawn<=wd (endFatal p fr cs d m w):=by
 unfold endFatal;dsimp only;split
 .exact iX (by assumption)
 .exact o5 (by assumption)
 .exact o5 (by assumption)
def V3(fd:Nat)(t:ByteArray)(o:Outcome)(w:World):w.drawn<=wd (endWith w fd t o):=by
 have h:=K8 w (.write fd t);unfold endWith;dsimp only;split
 .rename_i e;rw[e]at h;split<;>exact h
 .rename_i e;rw[e]at h;exact h
 .rename_i e;rw[e]at h;exact h
def VB(fr:Frame)(d:Dying)(f:Fatal)(w:World):w.drawn<=wd (writeOn p fr d f w):=by
 unfold writeOn;dsimp only;split
 .exact bZ _
 .split
  .exact Z7 (by assumption)
  .exact Em (by assumption)
  .exact Em (by assumption)
  .exact Em (by assumption)
def aBU(fr:Frame)(d:Dying)(w:World):w.drawn<=wd (die p fr d w):=by
 unfold die;split
 .exact VB _ _ _ _
 .split
  .split
   .exact bZ _
   .exact V3 _ _ _ _
  .split
   .exact bZ _
   .split
    .exact iX (by assumption)
    .exact o5 (by assumption)
   .rw[tV];split
    .rename_i heq;exact qV heq
    .rename_i heq;exact qV heq
    .rename_i heq;exact nY heq
    .rename_i heq;exact cL (nY heq) (JO _ _ _)
    .exact bZ _
   .exact bZ _
def ZS(fr:Frame)(cs:List Frame)(d:Option Dying)(g:Nat)(w:World):w.drawn<=wd (early p fr cs d g w):=by
 unfold early;dsimp only
 repeat' split
 all_goals first|exact bZ _|(have h:=iX ‹gF p (choose (Question.early g)) w=zt _ _›;exact h)|exact o5 ‹gF p (choose (Question.early g)) w=Result.halt _ _›
def EG(main:Bool)(fr:Frame)(cs:List Frame)(d:Option Dying)(v:Value)(w:World):wd (doReturn p main fr cs d v w)=w.drawn:=by
 unfold doReturn
 repeat' split
 all_goals rfl
def Tb(fr:Frame)(cs:List Frame)(d:Option Dying)(f:Deferred)(w:World):w.drawn<=wd (callDeferred p fr cs d f w):=by
 unfold callDeferred;refine CF ?_ ?_
 .exact bZ _
 .rw[tV];split;all_goals first
   |exact qV ‹_›
   |exact nY ‹_›
   |exact cL (nY ‹(Sem.runT p (invoke f.target f.args) w #[]).1=Result.halt _ _›) (J1 _ _ _ _ _)
   |(split<;>exact qV ‹(Sem.runT p (invoke f.target f.args) w #[]).1=zt _ _›)
def WQ(main:Bool)(fr:Frame)(cs:List Frame)(d:Option Dying)(w:World):w.drawn<=wd (unwind p main fr cs d w):=by
 unfold unwind;split
 .rw[tV];split
  .exact qV ‹_›
  .exact nY ‹_›
 .exact Tb _ _ _ _ _
 .split
  .exact bZ _
  .split
   .exact bZ _
   .split
    .exact bZ _
    .split
     .split
      .exact bZ _
      .split
       .exact iX ‹_›
       .exact o5 ‹_›
       .exact o5 ‹_›
     .split
      .exact JO _ _ _
      .exact bZ _
  .split
   .exact Di (EG _ _ _ _ _ _).symm
   .rw[tV];split
    .exact cL (qV ‹_›) (Di (EG _ _ _ _ _ _).symm)
    .exact nY ‹_›
    .exact nY ‹_›
def Bb(listen:Bool)(fr:Frame)(cs:List Frame)(d:Option Dying)(s:Sem Next)(w:World):w.drawn<=wd (stepG.apply p listen fr cs d s w):=by
 unfold stepG.apply;have hr:Result.drew w (if listen=true then s.runT p w #[]else(s.run p w, #[])).1:=by
  split
  .rw[xx];exact Ao _ _ _
  .exact Ao _ _ _
 rw[tV];generalize (if listen=true then s.runT p w #[]else(s.run p w, #[])).1=r at hr|-;cases r with
 |ok a w'=>
  cases a;all_goals (try exact hr)
  all_goals (dsimp only;repeat' split)
  all_goals exact hr
 |halt e w'=>
  cases e with
  |unsupported u=>cases u<;>first|exact hr|exact cL hr (ZS _ _ _ _ _)
  |fatal m=>exact cL hr (J1 _ _ _ _ _)
  |_=>exact hr
def aAj(listen:Bool)(fr:Frame)(cs:List Frame)(d:Option Dying)(w:World):w.drawn<=wd (stepG.oper p listen fr cs d w):=by
 unfold stepG.oper;split
 .exact bZ _
 .split<;>exact Bb _ _ _ _ _ _
def aAK(main:Bool)(listen:Bool)(fr:Frame)(cs:List Frame)(d:Option Dying)(w:World):w.drawn<=wd (stepG.exec p main listen fr cs d w):=by
 have hleave:∀jump:Option Code,w.drawn<=wd (match fr.roundOf with
   |none=>if jump matches none|some .ret then GStep.go {frame:={fr with mode:= .returning},callers:=cs,status:= .running,dying:=d} w else .ended (.stuck "exit, goto: no such block or label" (fr.pos p)) w
   |some l=>GStep.after (seen p fr.fn ((Instr.endRound l jump).runT p w #[]).2)<|match((Instr.endRound l jump).runT p w #[]).1 with
    | .ok v w=>doReturn p main fr cs d v w
    | .halt _ w=> .ended (.stuck "range over a function: no such loop" (fr.pos p)) w):=by
  intro jump;split
  .refine CF ?_ ?_<;>exact bZ _
  .rw[tV];split
   .exact cL (qV ‹_›) (Di (EG _ _ _ _ _ _).symm)
   .exact nY ‹_›
 unfold stepG.exec;dsimp only;split;all_goals (try exact bZ _)
 all_goals (try exact hleave _)
 all_goals (try exact Bb _ _ _ _ _ _)
 all_goals (try exact hleave none)
 all_goals (try exact hleave (some .ret))
 .split<;>exact bZ _
 .cases exitTo _ _
  .exact hleave (some (.exit _))
  .exact bZ _
 .cases gotoIn _ _
  .exact hleave (some (.goto _))
  .exact bZ _
 .rw[tV];split
  .exact cL (qV ‹_›) (Bb _ _ _ _ _ _)
  .exact nY ‹_›
 .split
  .exact qV ‹_›
  .exact nY ‹_›
  .exact nY ‹_›
 .cases Extern.next _
  .exact bZ _
  .exact Bb _ _ _ _ _ _
 .refine CF (bZ _) ?_;split
  .exact iX ‹_›
  .exact o5 ‹_›
 .exact CF (aAj _ _ _ _ _) (bZ _)
def YJ(main:Bool)(g:Goroutine)(w:World)(listen:Bool):w.drawn<=wd (stepG p main g w listen):=by
 unfold stepG;split;split
 .exact aBU _ _ _
 .exact aAK _ _ _ _ _ _
 .exact WQ _ _ _ _ _
def sd(n:Nat):Stepped->Prop
 | .next m=>n<=m.world.drawn
 | .ended _ _=>True
def Ou(gs:Array Goroutine)(rest:Rest)(w:World):sd w.drawn (look p gs rest w):=by
 unfold look;split
 .dsimp only
  repeat' split
  all_goals first|exact trivial|skip
  all_goals (have h:=iX (p:=p) (w:=w) (by assumption);exact h)
 .exact trivial
def VC{rest:Rest}{cases:Array CommCase}{w w':World}(h:waitingAt rest cases w=some w'):w.drawn<=w'.drawn:=by unfold waitingAt at h;grind
def aAR(rest:Rest)(gs:Array Goroutine)(i:Nat)(g:Goroutine)(cases:Array CommCase)(b:Bool)(shape:CommShape)(w:World):sd w.drawn (communicate p rest gs i g cases b shape w).1:=by
 unfold communicate;dsimp only
 repeat' split
 all_goals first
  |exact trivial
  |exact bZ _
  |exact VC ‹_›
  |(have h:=iX (p:=p) (w:=w) (by assumption);first
     |exact h
     |(have h2:=o5 (p:=p) ‹gF p (runtimePanic (RuntimeError.plain "send on closed channel")) _=Result.halt _ _›;exact cL h h2)
     |(have h2:=iX (p:=p) ‹gF p (choose (Question.extern "which waiting goroutine is the partner" _)) _=zt _ _›;exact cL h h2))
def ZT(w:World)(c:Nat):(drain w c).2.drawn=w.drawn:=by unfold drain;split<;>rfl
def LM(m:Machine)(k:Nat)(t:Timer)(a b:Nat):(retime m k t a b).2.world.drawn=m.world.drawn:=by
 unfold retime;cases t.chan with
 |none=>rfl
 |some c=>exact ZT _ _
def W6{m m':Machine}{v:Addr}(h:timerOp.opened m v=some m'):m'.world.drawn=m.world.drawn:=by unfold timerOp.opened at h;grind
def M2{m m':Machine}{var:Addr}{f:Nat->Timer->Value×Machine}{v:Value}{n:Nat}(hf:∀k t,(f k t).2.world.drawn=n)(h:timerOp.named m var f= .ok (v,m')):m'.world.drawn=n:=by unfold timerOp.named at h;grind
def VK{m m':Machine}{op:TimerOp}{v:Value}(h:timerOp m op= .ok (v,m')):m'.world.drawn=m.world.drawn:=by
 unfold timerOp at h;split at h
 .split at h
  .cases h;rfl
  grind
 .exact M2 (λk t=>LM _ _ _ _ _) h
 .split at h
  .rename_i ho;exact(M2 (λk t=>LM _ _ _ _ _) h).trans (W6 ho)
  .cases h
 .cases h;rfl
def Z6(m:Machine)(i:Nat)(listen:Bool):sd m.world.drawn (runT p m i listen).1:=by
 unfold runT;generalize (m.gs.swapAt! i {(default:Goroutine)with status:= .finished})=q;obtain⟨g,gs⟩:=q;dsimp only;have hs:=YJ (p:=p) (i==0) g m.world listen;generalize stepG p (i==0) g m.world listen=s at hs|-;cases s with
 |ended o w es=>exact trivial
 |comm g cases b shape w es=>
  have:=aAR (p:=p) m.rest gs i g cases b shape w;revert this;generalize (communicate p m.rest gs i g cases b shape w).1=r;intro h;cases r with
  |next m'=>exact cL hs h
  |ended _ _=>exact trivial
 |go g w es=>exact hs
 |spawn g c w es=>exact hs
 |count g w es=>
  dsimp only;split
  .exact trivial
  .exact hs
 |alone g on w es=>exact hs
 |collect g w es=>
  have:=Ou (p:=p) (gs.setIfInBounds i g) m.rest w;dsimp only;revert this;generalize look p (gs.setIfInBounds i g) m.rest w=r;intro h;cases r with
  |next m'=>exact cL hs h
  |ended _ _=>exact trivial
 |watch g w es=>exact hs
 |newcoro g c d w es=>exact hs
 |coroswitch g c exit w es=>
  dsimp only;split
  .exact hs
  .exact hs
  .exact trivial
 |timer g op w es=>
  dsimp only;split
  .rename_i h;exact cL hs (Di (VK h).symm)
  .exact hs
  .exact trivial
  .exact trivial
def md(n:Nat):Move->Prop
 | .goroutine m _=>n<=m.world.drawn
 | .machine s _=>sd n s
def YV(m:Machine)(k:Nat):sd m.world.drawn (serve p m k):=by
 unfold serve;split
 .exact trivial
 .exact bZ _
 .dsimp only;split
  .exact trivial
  .exact bZ _
def Hx{a b:Nat}{x:Move}(h:a<=b)(hx:md b x):md a x:=by
 cases x with
 |goroutine m i=>exact cL h hx
 |machine s ops=>cases s with
  |next m=>exact cL h hx
  |ended _ _=>exact trivial
def GC(m:Machine):md m.world.drawn (askOn p m):=by
 unfold askOn;dsimp only
 repeat' split
 all_goals first
  |exact trivial
  |(have h:=iX (p:=p) (w:=m.world) (by assumption);first
     |exact h
     |exact Hx h (YV (p:=p) _ _)
     |exact cL h (iX (p:=p) (by assumption))
     |exact cL h (cL (iX (p:=p) (by assumption)) (iX (p:=p) (by assumption)))
     |exact cL h (cL (iX (p:=p) (by assumption)) (cL (iX (p:=p) (by assumption)) (iX (p:=p) (by assumption))))
     |(have h2:=iX (p:=p) ‹gF p (choose (Question.extern "clock.wait" _)) _=zt _ _›;first
        |exact cL h h2
        |(have h3:=iX (p:=p) ‹gF p (choose (Question.sched _)) _=zt _ _›;first
           |exact cL h (cL h2 h3)
           |(have h4:=iX (p:=p) ‹gF p (choose (Question.extern "sched.slice" _)) _=zt _ _›;exact cL h (cL h2 (cL h3 h4))))))
  |skip
def QB(m:Machine):md m.world.drawn (ask p m):=by
 unfold ask;split
 .split
  .exact trivial
  .rename_i w1 h1;have h2:=Ou (p:=p) m.gs m.rest w1;have h1:=iX h1;split
   .rename_i h3;rw[h3]at h2;exact Hx (cL h1 h2) (GC _)
   .cases hl:look p m.gs m.rest w1 with
    |next m'=>grind
    |ended _ _=>exact trivial
  .rename_i h1;exact Hx (iX h1) (GC _)
 .exact GC m
def aAs(m:Machine):md m.world.drawn (move p m):=by
 unfold move;split
 .split
  .exact bZ _
  .exact trivial
 .split
  .split
   .exact bZ _
   .exact QB _
  .exact QB _
def VL{m m':Machine}(h:step p m= .next m'):m.world.drawn<=m'.world.drawn:=by
 have hm:=aAs (p:=p) m;unfold step stepT at h;cases hv:move p m with
 |goroutine m1 i=>
  rw[hv]at hm h;have:=Z6 (p:=p) m1 i true;rw[h]at this;exact cL hm this
 |machine s ops=>
  rw[hv]at hm h;dsimp only at h;rw[h]at hm;exact hm
def EN:∀(n:Nat) {m m':Machine},runN p n m= .next m'->m.world.drawn<=m'.world.drawn
 |0,m,m',h=>by cases h;omega
 |n+1,m,m',h=>by
  unfold runN at h;split at h
  .rename_i m1 h1;exact cL (VL h1) (EN n h)
  grind
def J5{f:FuncId}{args:Array Value}{w:World}{R:Ending->World->Prop}(h:Calls p f args w R)(hn:∀w',¬R .outgrown w'):Calls p f args w λe w'=>R e w'/\w.drawn<=w'.drawn:=by
 intro cs;obtain⟨e,w',fr,h1,h2,h3⟩:=h cs;refine⟨e,w',fr,⟨h1,?_⟩,h2,h3⟩;cases e with
 |returned v=>obtain⟨n,hn⟩:=h2;exact EN n hn
 |panicked c=>obtain⟨n,hn⟩:=h2;exact EN n hn
 |outgrown=>grind
end
end Go.Proofs.YthbofdolalagjaaGreat
namespace Go.Proofs
open Go.Shelf
def Tryz.sort69_ren:Go.Shelf.Ren:=⟨λ|6=>69|15=>143|14=>142|28=>194|29=>195|20=>186|21=>187|22=>188|23=>189|24=>190|25=>191|26=>192|27=>193|46=>209|47=>210|48=>211|49=>212|50=>213|57=>225|n=>n,λ|22=>24|24=>23|25=>40|3=>3|39=>135|0=>0|53=>170|55=>172|4=>4|46=>163|45=>162|50=>167|5=>5|9=>9|66=>180|70=>184|76=>193|77=>59|n=>n,λ|n=>n⟩
def Tryz.sort69:Go.Proofs.SlLaysF.n6 bH Tryz.sort69_ren:={
 mixed:=by kernel_rfl
 f6:=⟨Tryz.f69.name,by decide,Tryz.func69.trans (congrArg some (by kernel_rfl))⟩
 f14:=⟨Tryz.f142.name,by decide,Tryz.func142.trans (congrArg some (by kernel_rfl))⟩
 f15:=Tryz.func143.trans (congrArg some (by kernel_rfl))
 f20:=⟨Tryz.f186.name,by decide,Tryz.func186.trans (congrArg some (by kernel_rfl))⟩
 f21:=⟨Tryz.f187.name,by decide,Tryz.func187.trans (congrArg some (by kernel_rfl))⟩
 f22:=⟨Tryz.f188.name,by decide,Tryz.func188.trans (congrArg some (by kernel_rfl))⟩
 f23:=⟨Tryz.f189.name,by decide,Tryz.func189.trans (congrArg some (by kernel_rfl))⟩
 f24:=⟨Tryz.f190.name,by decide,Tryz.func190.trans (congrArg some (by kernel_rfl))⟩
 f25:=⟨Tryz.f191.name,by decide,Tryz.func191.trans (congrArg some (by kernel_rfl))⟩
 f26:=⟨Tryz.f192.name,by decide,Tryz.func192.trans (congrArg some (by kernel_rfl))⟩
 f27:=⟨Tryz.f193.name,by decide,Tryz.func193.trans (congrArg some (by kernel_rfl))⟩
 f28:=Tryz.func194.trans (congrArg some (by kernel_rfl))
 f29:=Tryz.func195.trans (congrArg some (by kernel_rfl))
 f46:=⟨Tryz.f209.name,by decide,Tryz.func209.trans (congrArg some (by kernel_rfl))⟩
 f47:=Tryz.func210.trans (congrArg some (by kernel_rfl))
 f48:=Tryz.func211.trans (congrArg some (by kernel_rfl))
 f49:=⟨Tryz.f212.name,by decide,Tryz.func212.trans (congrArg some (by kernel_rfl))⟩
 f50:=⟨Tryz.f213.name,by decide,Tryz.func213.trans (congrArg some (by kernel_rfl))⟩
 f57:=⟨Tryz.f225.name,by decide,Tryz.func225.trans (congrArg some (by kernel_rfl))⟩
 t0:=Tryz.underlying0
 a0:=Tryz.isAgg0
 z0:=Tryz.sizeOf0
 v0:=Tryz.zeroValue0
 t3:=Tryz.underlying3
 a3:=Tryz.isAgg3
 z3:=Tryz.sizeOf3
 v3:=Tryz.zeroValue3
 t4:=Tryz.underlying4
 a4:=Tryz.isAgg4
 z4:=Tryz.sizeOf4
 v4:=Tryz.zeroValue4
 t5:=Tryz.underlying5
 a5:=Tryz.isAgg5
 z5:=Tryz.sizeOf5
 v5:=Tryz.zeroValue5
 t9:=Tryz.underlying9
 a9:=Tryz.isAgg9
 z9:=Tryz.sizeOf9
 v9:=Tryz.zeroValue9
 t22:=Dh
 a22:=Tryz.isAgg24
 z22:=Tryz.sizeOf24
 v22:=Tryz.zeroValue24
 a24:=Tryz.isAgg23
 z24:=Tryz.sizeOf23
 t25:=Tryz.underlying40
 a25:=Tryz.isAgg40
 z25:=Tryz.sizeOf40
 v25:=Tryz.zeroValue40
 t39:=Tryz.underlying135
 a39:=Tryz.isAgg135
 z39:=Tryz.sizeOf135
 v39:=Tryz.zeroValue135
 t45:=Tryz.underlying162
 a45:=Tryz.isAgg162
 z45:=Tryz.sizeOf162
 v45:=Tryz.zeroValue162
 t46:=Tryz.underlying163
 a46:=Tryz.isAgg163
 z46:=Tryz.sizeOf163
 v46:=Tryz.zeroValue163
 t50:=Tryz.underlying167
 a50:=Tryz.isAgg167
 z50:=Tryz.sizeOf167
 v50:=Tryz.zeroValue167
 t53:=Tryz.underlying170
 a53:=Tryz.isAgg170
 z53:=Tryz.sizeOf170
 v53:=Tryz.zeroValue170
 t55:=Tryz.underlying172
 a55:=Tryz.isAgg172
 z55:=Tryz.sizeOf172
 v55:=Tryz.zeroValue172
 t66:=Tryz.underlying180
 a66:=Tryz.isAgg180
 z66:=Tryz.sizeOf180
 v66:=Tryz.zeroValue180
 t70:=Tryz.underlying184
 a70:=Tryz.isAgg184
 z70:=Tryz.sizeOf184
 v70:=Tryz.zeroValue184
 t76:=Tryz.underlying193
 a76:=Tryz.isAgg193
 z76:=Tryz.sizeOf193
 v76:=Tryz.zeroValue193
 t77:=Tryz.underlying59
 a77:=Tryz.isAgg59
 z77:=Tryz.sizeOf59
 v77:=Tryz.zeroValue59}
end Go.Proofs
namespace Go.Proofs.YthbofdolalagjaaGreat
structure Lay(w w':World):Prop where
 below:Below w.heap.size w w'
 drawn:w.drawn<=w'.drawn
def Lay.grow{w w':World}(h:Lay w w'):∃q os,w'=Dj (w.drewN q) os:=by
 obtain⟨p,hp⟩:=UH h.below;refine⟨w'.drawn-w.drawn,p.os,?_⟩;have hd:=h.drawn;have hn:w'.drawn=p.n:=by rw[hp];rfl
 rw[hp];unfold grD Dj World.drewN;grind
def Ow{f:Nat}{xa ya:Option Addr}{xc yc:Nat}{xs ys:aD}{w:World}{i:Int}(hk:∃A q,avs [SV.lst .V xs,.lst .V ys] =A.map .p/\(SV.int .i64 i).av= .p q/\Sat bH false f A q)(hx:RdV w xa xs)(hy:RdV w ya ys)(lx:Len ⟨xa,xc,xs⟩)(ly:Len ⟨ya,yc,ys⟩):
  Calls bH f #[.slice xa xs.length xc,.slice ya ys.length yc] w λe w'=>e= .returned (.int .i64 i)/\Lay w w':=
 (J5 (x8 hk (B:=[.sl xs.length (fy xs),.sl ys.length (fy ys)]) rfl rfl (λC v h=>by unfold aY at h;exact h)
   ((bK.one (qG hy ly)).Ck (qG hx lx))) (by grind)).mono λe w' h=>⟨h.1.1,h.1.2,h.2⟩
def zE(x y:aD):Int:=bq (aFG x 0) (aFG y 0)
section
open Go.RowKit Go.Sort Go.Shelf Go.Lib
section
variable {α:Type} [Inhabited α]
def JK{enc:α->Value}{w:World}{g n:Nat}{d:Array α}{os:Array Obj}{cur:Array Value}{t:TypeId}(hb:w.heap[g]? =some (.cells cur t (0,0))):(sortWorld enc w g 0 n d os).heap[g]? =some (.cells (putCells enc 0 d cur) t (0,0)):=by have hlt:=(JD.1 hb).1;unfold sortWorld Dj putRow mapBlock;simp only[heap_ahead];rw[Array.getElem?_append_left (by grind),Array.getElem?_modify,if_pos rfl,hb];rfl
def Dl{enc:α->Value}{w:World}{g n:Nat}{d:Array α}{os:Array Obj}:w.grownBy (sortWorld enc w g 0 n d os) (some g):=by
 refine⟨rfl,rfl,rfl,?_,?_⟩
 .unfold sortWorld Dj putRow mapBlock;simp
 .intro k hk hne;unfold sortWorld Dj putRow mapBlock;simp only[heap_ahead];grind
def Ty{enc:α->Value}{d:Array α}{cur:Array Value}(h:d.size<=cur.size):(putCells enc 0 d cur).toList.take d.size=d.toList.map enc:=by
 apply List.ext_getElem?;intro i;rw[pp];by_cases hi:i<d.size
 .rw[if_pos hi];unfold putCells;grind
 grind
end
def JT(g:Nat)(hg:∀args w,(callFunc g args).run bH w= .ok (.enter g args) w)(cf:aD->aD->Int)(base:Nat)(v:Value)(rs:List RV)(w:World)(hl:rs.length<=1000000)
  (hrow:w.ownsRow base 23 1 v rs.length (rs.map RV.enc)) (hok:∀x∈rs,RingOk base w v x) (hO:SWO (ltOf λx y:{x:RV//x∈rs}=>cf x.1.r y.1.r))
  (hcmp:∀x∈rs,∀y∈rs,∀wx,RdV wx x.a x.r->RdV wx y.a y.r->Calls bH g #[x.enc,y.enc] wx λe w'=>e= .returned (.int .i64 (cf x.r y.r))/\Lay wx w'):
  Calls bH 69 #[v,.func (.func g) #[] #[]] w λe w'=>e= .returned (.tuple #[])/\∃rs':List RV,rs'.Perm rs/\rs'.Pairwise (λa b=>¬cf b.r a.r<0)/\w'.ownsRow base 23 1 v rs'.length (rs'.map RV.enc)/\(∀x∈rs',RingOk base w' v x)/\w.grownBy w' v.ownBlock:=by
 by_cases hr0:rs=[]
 .subst hr0;have hv:∃p cap,v= .slice p 0 cap:=by
   rcases hrow.2 with⟨h1,_⟩|⟨gb,cap,cur,h1,_⟩
   .grind
   .grind
  obtain⟨p,cap,rfl⟩:=hv;have h:=AnyF.slices_SortFunc_none (P:=bH) (ρ:=Tryz.sort69_ren) {Tryz.sort69 with} p cap (.func (.func g) #[] #[]) w;change Calls bH 69 _ _ _ at h;refine h.mono ?_;rintro e w' ⟨rfl,rfl⟩;exact⟨rfl,[],DF _,wi,hrow,hok,⟨rfl,rfl,rfl,bZ _,λ_ _ _=>rfl⟩⟩
 .obtain⟨x0,hx0⟩:=Iy _ hr0;have:Inhabited {x:RV//x∈rs}:=⟨⟨x0,hx0⟩⟩;rcases hrow.2 with⟨_,h1⟩|⟨gb,cap,cur,rfl,hbb,hh,hn,hcap,hsz,htk⟩
  .grind
  .obtain⟨d,hd⟩:∃d:Array {x:RV//x∈rs},d=rs.attach.toArray:=⟨_,rfl⟩;have hds:d.size=rs.length:=by rw[hd];simp
   have hdm:d.toList.map (·.1)=rs:=by rw[hd];simp
   have hcs:rs.length<=cur.size:=by rw[hsz];omega
   have hH:Holds (λx:{x:RV//x∈rs}=>RV.enc x.1) w gb 0 d:=by
    intro j hj;have e1:cur[j]? =some (RV.enc d[j]!.1):=by
     have e2:(cur.toList.take (rs.length*1))[j]? =(rs.map RV.enc)[j]? :=by rw[htk]
     rw[pp,if_pos (by omega)]at e2;have e3:(rs.map RV.enc)[j]? =some (RV.enc d[j]!.1):=by
      have e4:((d.toList.map (·.1)).map RV.enc)[j]? =some (RV.enc d[j]!.1):=by rw[dU,gr];simp[hj]
      rw[hdm]at e4;exact e4
     rw[e3]at e2;simpa using e2
    refine⟨?_,?_⟩
    .rw[kN];exact(cell_of_row w gb j cur 23 (0,0) hh).trans e1
    .simp[World.frozen?,hh]
   have hblk:gb<w.heap.size:=(JD.1 hh).1;have h:=Any.slices_SortFunc (P:=bH) (ρ:=Tryz.sort69_ren) Tryz.sort69 (λx:{x:RV//x∈rs}=>RV.enc x.1) (λ_=>rfl) (λx y=>cf x.1.r y.1.r) hO g #[] gb 0 cap d w hg (by intro m os dk hdk x y;have hG:=Dl (enc:=λx:{x:RV//x∈rs}=>RV.enc x.1) (w:=w) (g:=gb) (n:=m) (d:=dk) (os:=os);have h1:=hcmp x.1 x.2 y.1 y.2 _ ((hok x.1 x.2).rd.grown (hok x.1 x.2).sep hG) ((hok y.1 y.2).rd.grown (hok y.1 y.2).sep hG);rw[show(#[RV.enc x.1,RV.enc y.1] ++(#[] :Array Value))= #[RV.enc x.1,RV.enc y.1] by simp];exact h1.mono λe w' ⟨he,hL⟩=>⟨he,hL.grow⟩) hH hblk (by omega)
   change Calls bH 69 _ _ _ at h;rw[hds]at h;refine h.mono ?_;rintro e w' ⟨rfl,d',n,os,hp,hs,rfl⟩;obtain⟨p1,_,p3⟩:=hp;have hG:=Dl (enc:=λx:{x:RV//x∈rs}=>RV.enc x.1) (w:=w) (g:=gb) (n:=n) (d:=d') (os:=os);have hperm:d'.toList.Perm d.toList:=by
    have e1:(d'.extract 0 rs.length).toList=d'.toList:=by rw[<-hds,<-p1];simp
    have e2:(d.extract 0 rs.length).toList=d.toList:=by rw[<-hds];simp
    rwa[e1,e2]at p3
   have hpr:(d'.toList.map (·.1)).Perm rs:=by have:=hperm.map (·.1);rwa[hdm]at this
   have hlen:(d'.toList.map (·.1)).length=rs.length:=hpr.length_eq;refine⟨rfl,d'.toList.map (·.1),hpr,?_,?_,?_,hG⟩
   .rw[km,sW];intro i j hi hj hij;have hj':j<d'.size:=by simpa using hj
    have:=hs i j (kK _) hij (by omega);unfold ltOf at this;grind
   .refine⟨by simp,.inr ⟨gb,cap,_,by rw[hlen],hbb,JK hh,by omega,hcap,by unfold putCells;grind,?_⟩⟩;rw[hlen,Nat.mul_one,<-hds,<-p1,Ty (by omega),dU];rfl
   .intro x hx;have hx2:=hpr.mem_iff.1 hx;have ok:=hok x hx2;exact⟨ok.rd.grown ok.sep hG,ok.fresh,ok.cap,ok.len,ok.sep⟩
end
def U3{rs:List RV}:Sort.SWO (ltOf λx y:{x:RV//x∈rs}=>cN x.1.r y.1.r):=by
 have h:∀x y:{x:RV//x∈rs},ltOf (λx y:{x:RV//x∈rs}=>cN x.1.r y.1.r) x y=true↔cN x.1.r y.1.r<0:=by intro x y;unfold ltOf;rw[decide_eq_true_eq]
 refine⟨?_,?_,?_⟩
 .intro x;rw[pu,ne_eq,h];have:=UM x.1.r;omega
 .intro x y z h1 h2;rw[h]at*;exact Du _ _ _ h1 h2
 .intro x y z h1 h2;rw[pu,ne_eq,h]at*;have e1:=rF x.1.r y.1.r;have e2:=rF y.1.r z.1.r;have e3:=rF x.1.r z.1.r;have:= @Jb z.1.r y.1.r x.1.r;unfold jm at this;omega
def WB{a b:aD}(h:¬cN b a<0):jm a b:=by have:=rF a b;unfold jm;omega
def Wq{C:bG}{w:World}{b:Nat}(hC:∀b' o v,C b' o v->w.cell? ⟨b',o,none⟩=some v/\b'≠b){r:List V}{v:Value}(h:aY C (iP r) v):
  ∃a c,v= .slice a r.length c/\RdV w a r/\r.length<=c/\(0<r.length->∀ad,a=some ad->ad.block≠b)/\(a=none->c=0):=by
 obtain⟨a,c,hv,h1,h2,h0n⟩:=Fb (λb' o v h=>(hC b' o v h).1) h;refine⟨a,c,hv,h1,h2,λh0 ad ha=> ?_,h0n⟩;unfold iP aY at h;obtain⟨a',c',hv',_,_,h3⟩:=h;rw[hv]at hv';simp only[Value.slice.injEq,true_and]at hv';obtain⟨rfl,rfl⟩:=hv';obtain⟨_,h5⟩:=h3 _ ha;have hl:0<(fy r).length:=by rw[vw.length];omega
 obtain⟨u,h6,_⟩:=h5.get _ _ _ 0 _ (dw hl);grind
structure RingIn(C:bG)(w:World)(b:Nat)(x:RV):Prop where
 rep:aY C (iP x.r) x.enc
 rd:RdV w x.a x.r
 cap:x.r.length<=x.c
 sep:0<x.r.length->∀ad,x.a=some ad->ad.block≠b
 nn:x.a=none->x.c=0
def LH{C:bG}{w:World}{b:Nat}(hC:∀b' o v,C b' o v->w.cell? ⟨b',o,none⟩=some v/\b'≠b):∀(l:List aD) (us:List Value),
  (∀(i:Nat) x,(l.map iP)[i]? =some x->∃v,us[i]? =some v/\aY C x v)->∃rs:List RV,rs.map RV.r=l/\rs.map RV.enc=us.take l.length/\∀x∈rs,RingIn C w b x
 |[],us,_=>⟨[],rfl,by simp,by simp⟩
 |r::l,us,h=>by
  obtain⟨v,h1,h2⟩:=h 0 (iP r) rfl;cases us with
  |nil=>simp at h1
  |cons u us=>
   simp at h1;subst h1;obtain⟨rs,h3,h4,h5⟩:=LH hC l us λi x hi=>by simpa using h (i+1) x (by grind)
   obtain⟨a,c,rfl,g1,g2,g3,g4⟩:=Wq hC h2;refine⟨⟨a,c,r⟩::rs,by simp[h3],by simp[h4,RV.enc],?_⟩;intro x hx;rcases bI.1 hx with rfl|hx
   .exact⟨h2,g1,g2,g3,g4⟩
   grind
def Vv{w w':World}(h:w.grownBy w' none):Below w.heap.size w w':=⟨h.os,h.tape,h.output,h.size,λk hk=>h.block k hk (by simp)⟩
def aB9(args:Array Value)(w:World):(callFunc 26 args).run bH w= .ok (.enter 26 args) w:=l5 (by kernel_rfl) args w
def aBG{rs:List RV}(h:∀x∈rs,Len x):∀x∈rs,∀y∈rs,∀wx,RdV wx x.a x.r->RdV wx y.a y.r->Calls bH 26 #[x.enc,y.enc] wx λe w'=>e= .returned (.int .i64 (cN x.r y.r))/\Lay wx w':=
 λx hx y hy wx h1 h2=>Ow (k26 [.lst .V x.r,.lst .V y.r] (x.r,y.r) rfl ((jz (l:=c26.pre (x.r,y.r))).1 ⟨cL (h x hx).1 (by decide),cL (h y hy).1 (by decide)⟩)) h1 h2 (h x hx) (h y hy)
def LG(g:Nat)(hg:∀args w,(callFunc g args).run bH w= .ok (.enter g args) w)(cf:aD->aD->Int)(l m:List aD)(hn:l.length<=1000000)(hl:∀r∈l,r.length<=1000)(hlen:m.length=l.length)
  (hO:∀rs:List RV,rs.map RV.r=l->Sort.SWO (ltOf λx y:{x:RV//x∈rs}=>cf x.1.r y.1.r))
  (hc:∀rs:List RV,rs.map RV.r=l->(∀x∈rs,Len x)->∀x∈rs,∀y∈rs,∀wx,RdV wx x.a x.r->RdV wx y.a y.r->Calls bH g #[x.enc,y.enc] wx λe w'=>e= .returned (.int .i64 (cf x.r y.r))/\Lay wx w')
  (hu:∀k:List aD,k.Perm l->k.Pairwise (λa b=>¬cf b a<0)->k=m):nI bH 69 (some l.length) [.fn (.func g) [] []] 23 1 (l.map iP) (m.map iP):=by
 have hfn:∀(C:bG) (vs:List Value),bK C [.fn (.func g) [] []] vs->vs=[.func (.func g) #[] #[]] :=by intro C vs h;unfold bK at h;obtain⟨v,r,rfl,h1,h2⟩:=h;unfold bK at h2;subst h2;unfold aY at h1;obtain⟨a,b,rfl,h3,h4⟩:=h1;unfold bK at h3 h4;subst h3;subst h4;rfl
 refine⟨by kernel_rfl,by simp[hlen],?_,?_⟩
 .intro C w b c arr vs hC hL hnc hA;rw[hfn C vs hA];have hnc:=hnc _ rfl;obtain⟨h1,h2,h3⟩:=hL.row (by decide);obtain⟨rs,g1,g2,g3⟩:=LH hC l arr.toList λi x hi=>by obtain⟨v,k1,_,k2⟩:=hL.cells i x hi;grind
  have hrl:rs.length=l.length:=by rw[<-g1,di]
  have hr1:∀x∈rs,x.r.length<=1000:=λx hx=>hl _ (by grind);have hrow:w.ownsRow 0 23 1 (.slice (some ⟨b,0,none⟩) l.length c) rs.length (rs.map RV.enc):=
   ⟨by simp,.inr ⟨b,c,arr,by rw[hrl],kK _,hL.blk,by omega,h3,h1,by grind⟩⟩
  refine(JT g hg cf 0 _ rs w (by omega) hrow ?_ (hO rs g1) (hc rs g1 λx hx=>⟨hr1 x hx,(g3 x hx).cap,(g3 x hx).nn⟩)).mono ?_
  .intro x hx;refine⟨(g3 x hx).rd,λad _=>kK _,(g3 x hx).cap,hr1 x hx,λh0 ad ha e=>(g3 x hx).sep h0 ad ha ?_⟩;simp only[DV,fg]at e;exact e.symm
  .rintro e w' ⟨rfl,rs',hp,hs,hrow',hok',hg⟩;have hso:rs'.map RV.r=m:=by refine hu _ (by grind) ?_;rw[km];exact hs
   obtain⟨hz,hcase⟩:=hrow';rcases hcase with⟨e,_⟩|⟨gb,cap,cur,e,_,hblk,hnc',hcm,hsz,htk⟩
   .cases e
   .simp only[Value.slice.injEq,fg,Addr.mk.injEq,and_true]at e;obtain⟨rfl,e2,rfl⟩:=e;refine⟨cur,rfl,⟨hblk,λh=>absurd h (by decide),λ_=>⟨hsz,by grind,hcm⟩,?_⟩,hg⟩;intro i x hi;rw[<-hso,dU]at hi;rw[gr]at hi;cases hx:rs'[i]? with
    |none=>grind
    |some y=>
     rw[hx]at hi;simp only[eJ,fg,DH]at hi;subst hi;have hi':i<rs'.length:=(zZ.1 hx).1;have hy:y∈rs:=hp.mem_iff.1 (TJ hx);have h7:(rs'.map RV.enc)[i]? =some y.enc:=by rw[gr,hx];rfl
     rw[<-htk,List.getElem?_take_of_lt (by omega)]at h7;exact⟨y.enc,by grind,rfl,(g3 y hy).rep⟩
 .intro h0 C w vs hC hA;rw[hfn C vs hA];have hl0:l=[] :=p7.1 (by grind);subst hl0;refine(JT g hg cf 0 (.slice none 0 0) [] w (by simp) ⟨by simp,.inl ⟨rfl,rfl⟩⟩ (by simp) (hO [] rfl) (hc [] rfl (by simp))).mono ?_;rintro e w' ⟨rfl,rs',_,_,_,_,hg⟩;exact⟨rfl,Vv hg⟩
def PM(a b:aD):zE a b<0↔bf (aFG a 0) (aFG b 0)=true:=by unfold zE;exact yO _ _
def aBr(args:Array Value)(w:World):(callFunc 127 args).run bH w= .ok (.enter 127 args) w:=l5 (by kernel_rfl) args w
def ZX{rs:List RV}:Sort.SWO (ltOf λx y:{x:RV//x∈rs}=>zE x.1.r y.1.r):=by
 have h:∀x y:{x:RV//x∈rs},ltOf (λx y:{x:RV//x∈rs}=>zE x.1.r y.1.r) x y=true↔bf (aFG x.1.r 0) (aFG y.1.r 0)=true:=by intro x y;unfold ltOf;rw[decide_eq_true_eq,PM]
 refine⟨?_,?_,?_⟩
 .intro x;rw[pu,ne_eq,h,E1];simp
 .intro x y z h1 h2;rw[h]at*;revert h1 h2;unfold bf;grind
 .intro x y z h1 h2;rw[pu,ne_eq,h]at*;revert h1 h2;unfold bf;grind
def VT(l:List aD)(hn:l.length<=1000000)(hl:∀r∈l,r.length<=1000):nI bH 69 (some l.length) [.fn (.func 26) [] []] 23 1 (l.map iP) ((cV l).map iP):=
 LG 26 aB9 cN l _ hn hl (rH l).length_eq (λ_ _=>U3) (λ_ _ hL=>aBG hL)
  λk hp hs=>UA hp (hs.imp λh=>WB h)
def Uc(l:List aD)(hn:l.length<=1000000)(hl:∀r∈l,0<r.length/\r.length<=1000)(ha:∀a∈l,∀b∈l,leH a b->leH b a->a=b):nI bH 69 (some l.length) [.fn (.func 127) [] []] 23 1 (l.map iP) ((qg l).map iP):=by
 have hm:∀rs:List RV,rs.map RV.r=l->∀x∈rs,x.r∈l:=λrs hr x hx=>by grind
 refine LG 127 aBr zE l _ hn (λr hr=>(hl r hr).2) (l6 l).length_eq (λ_ _=>ZX) (λrs hr hL x hx y hy wx h1 h2=> ?_) λk hp hs=> ?_
 .have g1:=hl _ (hm rs hr x hx);have g2:=hl _ (hm rs hr y hy);exact Ow (aDR [.lst .V x.r,.lst .V y.r] (x.r,y.r) rfl ((jz (l:=So.pre (x.r,y.r))).1 ⟨g1.2,g2.2,g1.1,g2.1⟩)) h1 h2 (hL x hx) (hL y hy)
 .have hs:k.Pairwise leH:=hs.imp λ{a b} h=>by rw[PM]at h;exact(rG _ _).1 (by simpa using h)
  exact S4 (λa b h1 h2 h3 h4=>ha a (hp.mem_iff.1 h1) b ((l6 l).mem_iff.1 h2) h3 h4) hs (UC l) (hp.trans (l6 l).symm)
def d68:List SV->Option (List aD×Bool)
 |[.lst .R l,.fnp 26 [] []] =>some (l,true)
 |[.lst .R l,.fnp 127 [] []] =>some (l,false)
 |_=>none
def r68:List aD×Bool->List aD
 |(l,true)=>cV l
 |(l,false)=>qg l
def p68:List aD×Bool->List Prop
 |(l,true)=>[l.length<=1000000,∀r∈l,r.length<=1000]
 |(l,false)=>[l.length<=1000000,∀r∈l,0<r.length/\r.length<=1000,∀a∈l,∀b∈l,leH a b->leH b a->a=b]
def ZV{l:List aD}{rest:List SV}{x:List aD×Bool}(h:d68 (.lst .R l::rest)=some x):(rest=[.fnp 26 [] []]/\x=(l,true))\/(rest=[.fnp 127 [] []]/\x=(l,false)):=by unfold d68 at h;grind
def c68:Con:=⟨List aD×Bool,d68,p68,.mutR .R 23 r68⟩
def k68:c68.Okz 69:=by
 intro l rest x hd hp;rcases ZV hd with⟨rfl,rfl⟩|⟨rfl,rfl⟩
 .refine⟨[.fn (.func 26) [] []],rfl,?_⟩;rw[uG];show nI _ _ _ _ _ _ _ (LT.R.enc (cV l));rw[uG];exact VT l (hp _ cI) (hp _ (cG _ cI))
 .refine⟨[.fn (.func 127) [] []],rfl,?_⟩;rw[uG];show nI _ _ _ _ _ _ _ (LT.R.enc (qg l));rw[uG];exact Uc l (hp _ cI) (hp _ (cG _ cI)) (hp _ (cG _ (cG _ cI)))
noncomputable def t68:=tS.adk k68
section
def E5{p:Pt}{w:Int}:∀{l:List aD} {k:Nat},k<l.length->(∀j,j<k->¬bg (aC l j) p=2/\¬bg (aC l j) p=1)->(bg (aC l k) p=2->0=j8 p l w)/\(¬bg (aC l k) p=2->bg (aC l k) p=1->1=j8 p l w)
 |[],k,h,_=>by simp at h
 |r::l,0,h,_=>by
  unfold j8;refine⟨λe=> ?_,λe1 e2=> ?_⟩
  .rw[if_pos (show bg r p=2 from e)]
  .rw[if_neg (show¬bg r p=2 from e1),if_pos (show bg r p=1 from e2)]
 |r::l,k+1,h,h1=>by
  unfold j8;obtain⟨e1,e2⟩:=h1 0 (by omega);rw[if_neg (show¬bg r p=2 from e1),if_neg (show¬bg r p=1 from e2)];exact E5 (l:=l) (k:=k) (by simpa using h) λj hj=>h1 (j+1) (by omega)
def Km{p:Pt}{w:Int}:∀{l:List aD},(∀j,j<l.length->¬bg (aC l j) p=2/\¬bg (aC l j) p=1)->w=j8 p l w
 |[],_=>rfl
 |r::l,h1=>by
  unfold j8;obtain⟨e1,e2⟩:=h1 0 (by simp);rw[if_neg (show¬bg r p=2 from e1),if_neg (show¬bg r p=1 from e2)];exact Km (l:=l) λj hj=>h1 (j+1) (by grind)
noncomputable def c66:Con:=con (ac aSh (a1 aT)) (λ(s,_)=>[Fit s]) (λ(s,p)=> .iqz (eR s p))
def k66:c66.Okz 67:=ak t68 (λ(s,p)=>[cnt 7 21 s.holes.length (aK λj=>¬bg (aC s.holes j) p=2/\¬bg (aC s.holes j) p=1)]
  ) (λ(_,_)=>⟨_,rfl⟩) λ(s,p) hp=>aZ (aA (!bP s) λB=>Fit s/\(B=true->0=eR s p)/\
 (B=false->s.outer.length<=1000/\(¬bg s.outer p=2->bg s.outer p=eR s p)/\
  (¬(¬bg s.outer p=2)->(0=(0:Int)/\(0:Nat)<=s.holes.length/\aK (λj=>¬bg (aC s.holes j) p=2/\¬bg (aC s.holes j) p=1) 0)/\
   (∀x:Nat,aA (x:Int) λA=>aA (aC s.holes x) λC=>x<=s.holes.length/\aK (λj=>¬bg (aC s.holes j) p=2/\¬bg (aC s.holes j) p=1) x->(A<s.holes.length->ix A s.holes.length/\C.length<=1000/\(bg C p=2->0=eR s p)/\
     (¬bg C p=2->(bg C p=1->1=eR s p)/\
      (¬bg C p=1->aH (A+1)/\A+1=((x+1:Nat):Int)/\x+1<=s.holes.length/\aK (λj=>¬bg (aC s.holes j) p=2/\¬bg (aC s.holes j) p=1) (x+1)/\s.holes.length-(x+1)<s.holes.length-x)))/\
    (¬A<s.holes.length->bg s.outer p=eR s p))))) (by kernel_rfl) (by
  change Fit s at hp;have w0:(!bP s)=true->0=eR s p:=λh=>by unfold eR;rw[if_pos h]
  have w1:(!bP s)=false->¬bg s.outer p=2->bg s.outer p=eR s p:=λh h2=>by unfold eR;grind
  have w2:(!bP s)=false->¬¬bg s.outer p=2->eR s p=j8 p s.holes 2:=λh h2=>by unfold eR;grind
  have hl:∀x:Nat,(x:Int)<s.holes.length->(aC s.holes x).length<=1000:=λx h=>hp.2.2 _ (gH (by omega));have hn:=hp.2.1;have ho:=hp.1;have a2:∀x:Nat,(x:Int)<s.holes.length->aK (λj=>¬bg (aC s.holes j) p=2/\¬bg (aC s.holes j) p=1) x->bg (aC s.holes x) p=2->0=j8 p s.holes 2:=λx h1 h2 h3=>(E5 (by omega) h2).1 h3;have a1:∀x:Nat,(x:Int)<s.holes.length->aK (λj=>¬bg (aC s.holes j) p=2/\¬bg (aC s.holes j) p=1) x->¬bg (aC s.holes x) p=2->bg (aC s.holes x) p=1->1=j8 p s.holes 2:=λx h1 h2 h3 h4=>(E5 (by omega) h2).2 h3 h4;have a0:∀x:Nat,¬(x:Int)<s.holes.length->x<=s.holes.length->aK (λj=>¬bg (aC s.holes j) p=2/\¬bg (aC s.holes j) p=1) x->2=j8 p s.holes 2:=λx h1 h2 h3=>by
   obtain rfl:x=s.holes.length:=by omega
   exact Km h3
  have hf:=hp;clear hp
  repeat' first|with_reducible apply br|with_reducible intro
  all_goals repeat with_reducible cases‹_/\aK _ _›
  all_goals first|assumption|rfl|omega|(unfold ix;omega)|(unfold aH;omega)|exact gG _|exact w0 ‹_› |exact w1 ‹_› ‹_› |exact hl _ ‹_› |(rw[w2 ‹_› ‹_›];exact a2 _ ‹_› ‹_› ‹_›)|(rw[w2 ‹_› ‹_›];exact a1 _ ‹_› ‹_› ‹_› ‹_›)|(rw[w2 ‹_› ‹_›,sk ‹¬¬bg s.outer p=2›];exact a0 _ ‹_› ‹_› ‹_›)|exact cB ‹_› ⟨‹_›,‹_›⟩)
noncomputable def t66:=t68.adk k66
def aM(s:Shape):Shape:=if bP s=true then cO s else⟨[],[]⟩
def Vn{s:Shape}(h:VS s):∀a∈s.holes.map bw,∀b∈s.holes.map bw,leH a b->leH b a->a=b:=by
 have hn:=h.nodup;unfold bk aE at hn;rw[List.flatten_cons,lv]at hn;have hn2:((s.holes.map bw).flatten).Nodup:=(JI s.holes).nodup_iff.2 hn.2.1;have hne:∀r∈s.holes.map bw,aFG r 0∈r:=by intro r hr;obtain⟨q,hq,rfl⟩:=bR.1 hr;have h3:=(h.ring (show q∈aE s by simp[aE,hq])).three;exact eL.2 ⟨0,by rw[jg];omega,rfl⟩
 intro a ha b hb h1 h2;have e:aFG a 0=aFG b 0:=xz h1 h2;exact zy _ hn2 a ha b hb (aFG a 0) (hne a ha) (by grind)
def EK{s:Shape}(h:VS s):s.holes.map dD=s.holes.map bw:=List.map_congr_left λr hr=>by unfold dD;rw[(iF r).2 (h.ring (by simp[aE,hr]))];rfl
noncomputable def c57:Con:=con (a1 aSh) (λs=>[Fit s]) (λs=>aSh.enc (aM s))
def k57:c57.Okz 58:=ak t66 (λs=>[(5,.mk Nat (λF _=>lh F 17) [15] (λk=>[k<=s.holes.length]) (λk=>[(17,.iqz (k:Int))]) (λk=>[(9,.box 26 [.lst .V (dD s.outer),.own 15 .R k]),(15,.row 23 .R ((s.holes.take k).map dD))]) (λk=>s.holes.length-k) bX)]
  ) (λ_=>⟨_,rfl⟩) λs hp=>aZ (aA (aM s) λA=>aA (0:Nat) λC=>aA (!bP s) λD=>aA ([] :List (List aFH)) λH=>Fit s/\(D=true->A.outer=([] :List aFH)/\A.holes=H)/\
 (D=false->s.outer.length<=1000/\(0=(0:Int)/\dD s.outer=dD s.outer/\C=0/\dZ dD (aU 0 s.holes)=H/\C<=s.holes.length)/\
  (∀x:Nat,aA (x:Int) λB=>aA (aC s.holes x) λE=>aA (aU x s.holes) λF=>aA (dZ dD F) λG=>aA (dZ dD F,false) λI=>x<=s.holes.length->(B<s.holes.length->ix B s.holes.length/\E.length<=1000/\x=G.length/\G.length+[dD E].length<=1000000/\aH (B+1)/\B+1=((x+1:Nat):Int)/\dD s.outer=dD s.outer/\(dZ dD F++[dD E]).length=x+1/\dZ dD F++[dD E] =dZ dD (aU (x+1) s.holes)/\x+1<=s.holes.length/\s.holes.length-(x+1)<s.holes.length-x)/\
   (¬B<s.holes.length->x=G.length/\G.length<=1000000/\(∀r:aD,r∈dZ dD F->C<r.length/\r.length<=1000)/\(∀a:aD,a∈dZ dD F->(∀b:aD,b∈dZ dD F->leH a b->leH b a->a=b))/\x=(r68 I).length/\dD s.outer=A.outer/\r68 I=A.holes)))) (by kernel_rfl) (by
  change Fit s at hp;have c0:(!bP s)=true->aM s=⟨[],[]⟩:=λh=>by unfold aM;grind
  have c1:(!bP s)=false->aM s=cO s:=λh=>by unfold aM;grind
  have V:(!bP s)=false->VS s:=λh=>(qC s).1 (nb h);have hl:∀x:Nat,(x:Int)<s.holes.length->(aC s.holes x).length<=1000:=λx h=>hp.2.2 _ (gH (by omega));have hn:=hp.2.1;have ho:=hp.1;have e1:∀x:Nat,x<=s.holes.length->(dZ dD (aU x s.holes)).length=x:=λx h=>by grind
  have e2:∀x:Nat,(x:Int)<s.holes.length->dZ dD (aU x s.holes)++[dD (aC s.holes x)] =dZ dD (aU (x+1) s.holes):=λx h=>by rw[mc (by omega),dM,kz (by omega)];rfl
  have e3:∀x:Nat,¬(x:Int)<s.holes.length->aU x s.holes=s.holes:=λx h=>iV (by omega);have g1:(!bP s)=false->∀x:Nat,¬(x:Int)<s.holes.length->∀r∈dZ dD (aU x s.holes),0<r.length/\r.length<=1000:=λh x hx r hr=>by rw[e3 x hx,EK (V h)]at hr;obtain⟨q,hq,rfl⟩:=bR.1 hr;rw[jg];have h3:=((V h).ring (show q∈aE s by simp[aE,hq])).three;have:=hp.2.2 q hq;omega
  have g2:(!bP s)=false->∀x:Nat,¬(x:Int)<s.holes.length->∀a∈dZ dD (aU x s.holes),∀b∈dZ dD (aU x s.holes),leH a b->leH b a->a=b:=λh x hx=>by rw[e3 x hx,EK (V h)];exact Vn (V h)
  have g3:∀l,(r68 (l,false)).length=l.length:=λl=>(l6 l).length_eq;have g4:(!bP s)=false->dD s.outer=(aM s).outer:=λh=>by rw[c1 h];unfold dD;rw[(iF _).2 ((V h).ring (by simp[aE]))];rfl
  have g5:(!bP s)=false->∀x:Nat,¬(x:Int)<s.holes.length->r68 (dZ dD (aU x s.holes),false)=(aM s).holes:=λh x hx=>by rw[e3 x hx,EK (V h),c1 h];rfl
  have hf:=hp;clear hp
  repeat' first|with_reducible apply br|with_reducible intro
  all_goals grind)
noncomputable def t57:=t66.adk k57
noncomputable def aEE:Con:=con (a1 aS) (λs=>[bd 1000000000 s.a,bd 1000000000 s.b]) (λs=>aT.enc (gP s))
def aC9:aEE.Okz 182:=ak t57 (λs=>[jb 3 26 (decide ((s.a.x+s.b.x).tmod 2=0)&&decide ((s.a.y+s.b.y).tmod 2=0))]
  ) (λ_=>⟨_,rfl⟩) λs hp=>aZ (aA (2:Int) λA=>aA (s.a.x+s.b.x) λB=>aA (s.a.y+s.b.y) λC=>aA (gP s) λD=>aA (decide (cZ B 2=0)&&decide (cZ C 2=0)) λE=>aH B/\aH C/\(A≠0/\(cZ B 2=0->A≠0/\decide (cZ C 2=0)=E)/\
  (¬cZ B 2=0->false=E))/\
 (∀y:Unit,(E=true->A≠0/\aH (eK B 2)/\A≠0/\aH (eK C 2)/\eK B 2=D.x/\eK C 2=D.y/\1=D.den)/\
  (E=false->s.a.x+s.b.x=D.x/\s.a.y+s.b.y=D.y/\2=D.den))) (by kernel_rfl) (by
  change bd 1000000000 s.a/\bd 1000000000 s.b at hp;unfold bd at hp;have k1:aH (s.a.x+s.b.x):=bV (by omega);have k2:aH (s.a.y+s.b.y):=bV (by omega);have q1:=qF (x:=s.a.x+s.b.x) (g:=2) (B:=4000000000) (by omega);have q2:=qF (x:=s.a.y+s.b.y) (g:=2) (B:=4000000000) (by omega);have k3:aH (eK (s.a.x+s.b.x) 2):=bV (by omega);have k4:aH (eK (s.a.y+s.b.y) 2):=bV (by omega);have m1:(decide (cZ (s.a.x+s.b.x) 2=0)&&decide (cZ (s.a.y+s.b.y) 2=0))=true->gP s=⟨(s.a.x+s.b.x).tdiv 2,(s.a.y+s.b.y).tdiv 2,1⟩:=λh=>by simp only[bj,decide_eq_true_eq]at h;exact if_pos h
  have m2:(decide (cZ (s.a.x+s.b.x) 2=0)&&decide (cZ (s.a.y+s.b.y) 2=0))=false->gP s=⟨s.a.x+s.b.x,s.a.y+s.b.y,2⟩:=λh=>if_neg λh2=>by grind
  grind)
noncomputable def RI:=t57.adk aC9
noncomputable def aFh:Con:=con (ac aS (a1 aS)) (λ(_,_)=>[]) (λ(s,t)=> .bool (cU s t)
 )
def aDK:aFh.Okz 134:=ak RI (λ(_,_)=>[]) (λ(_,_)=>⟨_,rfl⟩) λ(s,t) _=>aZ ((cF s t=0->true=cU s t)/\
 (¬cF s t=0->(cF s t=1->(s.a=t.a->true=cU s t)/\
   (¬s.a=t.a->(s.a=t.b->true=cU s t)/\
    (¬s.a=t.b->(s.b=t.a->true=cU s t)/\
     (¬s.b=t.a->decide (s.b=t.b)=cU s t))))/\
  (¬cF s t=1->false=cU s t))) (by kernel_rfl) (by
  have hd:∀a b:aFH,(a==b)=decide (a=b):=λa b=>by grind
  unfold cU vh;grind)
noncomputable def R7:=RI.adk aDK
def aPS:Ar S where
 enc s:= .pro [.int .i64 s.a.x,.int .i64 s.a.y,.int .i64 s.b.x,.int .i64 s.b.y] 0
 dec s:=match s with
  | .pro [.int .i64 x,.int .i64 y,.int .i64 z,.int .i64 w] 0=>some ⟨⟨x,y⟩,⟨z,w⟩⟩
  |_=>none
 ok s a h:=by grind
 pl _:=⟨_,rfl⟩
def Qp:Ar (S×Unit):=aCl 133 (ac aPS a0)
noncomputable def aFi:Con:=con (ac aS (a1 aPS)) (λ(_,_)=>[]) (λ(d,c)=> .bool (!cU c d)
 )
def aDL:aFi.Okz 133:=ak R7 (λ(_,_)=>[]) (λ(_,_)=>⟨_,rfl⟩) λ(d,c) _=>aZ (aA (!cU c d) λA=>A=A) (by kernel_rfl) (by rfl)
noncomputable def R8:=R7.adk aDL
noncomputable def aEF:Con:=con (ac (aL .S) (a1 Qp)) (λ(l,_)=>[l.length<=1000000]) (λ(l,c)=> .iqz (fI (λd=> !cU c.1 d) l))
def aDa:aEF.Okz 181:=ak R8 (λ(l,c)=>[cnt 2 8 l.length (aK λj=>(!cU c.1 (aW l j))=false)]
  ) (λ(_,_)=>⟨_,rfl⟩) λ(l,c) hp=>aZ ((0=(0:Int)/\(0:Nat)<=l.length/\aK (λj=>(!cU c.1 (aW l j))=false) 0)/\
 (∀x:Nat,aA (x:Int) λA=>aA (!cU c.1 (aW l x)) λB=>x<=l.length/\aK (λj=>(!cU c.1 (aW l j))=false) x->(A<l.length->ix A l.length/\(B=true->A=fI (λd=>(!cU c.1 d)) l)/\
   (B=false->aH (A+1)/\A+1=((x+1:Nat):Int)/\x+1<=l.length/\aK (λj=>(!cU c.1 (aW l j))=false) (x+1)/\l.length-(x+1)<l.length-x))/\
  (¬A<l.length-> -1=fI (λd=>(!cU c.1 d)) l))) (by kernel_rfl) (by
  change l.length<=1000000 at hp
  with_reducible ((repeat' first|apply br|intro);all_goals repeat cases‹_/\_›)
  all_goals first|rfl|exact qm (t:= .S) (by omega) ‹_› ‹_› |(obtain rfl:_=l.length:=ui ‹_› (by omega);exact tn (t:= .S) ‹_›)|grind)
noncomputable def RJ:=R8.adk aDa
noncomputable def aFj:Con:=con (ac (aL .S) (a1 Qp)) (λ(l,_)=>[l.length<=1000000]) (λ(l,c)=> .bool (l.any λd=> !cU c.1 d)
 )
def aDM:aFj.Okz 132:=ak RJ (λ(_,_)=>[]) (λ(_,_)=>⟨_,rfl⟩) λ(l,c) hp=>aZ (l.length<=1000000/\decide (0<=fI (λd=>(!cU c.1 d)) l)=fh l (λd=>(!cU c.1 d))) (by kernel_rfl) (by change l.length<=1000000 at hp;exact⟨hp,vn _ _⟩)
noncomputable def R9:=RJ.adk aDM
noncomputable def aFg:Con:=con (ac aSh (ac (aL .S) (a1 aS))) (λ(s,l,c)=>[Fit s,l.length<=1000000,bd 1000000000 c.a,bd 1000000000 c.b]) (λ(s,l,c)=> .bool ((l.all λe=>cU e c)&&eR s (gP c)==2))
def aDJ:aFg.Okz 135:=ak R9 (λ(_,l,c)=>[cnt 2 11 l.length (aK λj=>cU (aW l j) c=true)]
  ) (λ(_,_,_)=>⟨_,rfl⟩) λ(s,l,c) hp=>aZ (aA (gP c) λB=>(0=(0:Int)/\(0:Nat)<=l.length/\aK (λj=>cU (aW l j) c=true) 0)/\
 (∀x:Nat,aA (x:Int) λA=>aA (!cU (aW l x) c) λC=>x<=l.length/\aK (λj=>cU (aW l j) c=true) x->(A<l.length->ix A l.length/\(C=true->false=(mf l (λe=>cU e c)&&eR s B==2))/\
   (C=false->aH (A+1)/\A+1=((x+1:Nat):Int)/\x+1<=l.length/\aK (λj=>cU (aW l j) c=true) (x+1)/\l.length-(x+1)<l.length-x))/\
  (¬A<l.length->bd 1000000000 c.a/\bd 1000000000 c.b/\Fit s/\decide (eR s B=2)=(mf l (λe=>cU e c)&&eR s B==2)))) (by kernel_rfl) (by
  change Fit s/\l.length<=1000000/\bd 1000000000 c.a/\bd 1000000000 c.b at hp;have n1:∀x:Nat,(x:Int)<l.length->(!cU (aW l x) c)=true->false=(mf l (λe=>cU e c)&&eR s (gP c)==2):=λx h1 h2=>by rw[CL (t:= .S) (l:=l) (q:=λe=>cU e c) (j:=x) (by omega) (nb' h2)];rfl
  have n2:∀x:Nat,¬(x:Int)<l.length->x<=l.length->aK (λj=>cU (aW l j) c=true) x->decide (eR s (gP c)=2)=(mf l (λe=>cU e c)&&eR s (gP c)==2):=λx h1 h2 h3=>by
   obtain rfl:x=l.length:=by omega
   rw[Bv (t:= .S) (l:=l) (q:=λe=>cU e c) h3,jM,fL];simp
  obtain⟨hf,hll,hb1,hb2⟩:=hp
  repeat' first|with_reducible apply br|with_reducible intro
  all_goals repeat with_reducible cases‹_/\aK _ _›
  all_goals first|rfl|with_reducible solve_by_elim|exact cB ‹_› (nb ‹_›)|grind)
noncomputable def R6:=R9.adk aDJ
def pK(s:Shape)(v:List aFH)(i k:Nat):List (Nat×Nat):=aFO s v (eW s v i) i (k-(i+1))
def tkB(s:Shape)(v:List aFH)(i k:Nat):Bool:= !((pK s v i k).any λd=> !(cU ⟨aFG v i,aFG v k⟩ (c7 v d)))&&ia s ⟨aFG v i,aFG v k⟩
section
variable {s:Shape} {v:List aFH} {i k:Nat}
def aAi:pK s v i (i+1)=eW s v i:=by unfold pK;rw[Nat.sub_self];rfl
def OY(h:i<k):pK s v i (k+1)=if tkB s v i k=true then pK s v i k++[(i,k)]else pK s v i k:=by unfold tkB pK;rw[show k+1-(i+1)=(k-(i+1))+1 by omega];show qe s v _ i (i+1+(k-(i+1)))=_;rw[show i+1+(k-(i+1))=k by omega];rfl
def aBy(h:¬(k:Int)<v.length)(h2:k<=v.length):pK s v i k=eW s v (i+1):=by
 obtain rfl:k=v.length:=by omega
 rfl
def FZ(acc:List (Nat×Nat)):∀m,(aFO s v acc i m).length<=acc.length+m
 |0=>bZ _
 |m+1=>by
  have:=FZ acc m;unfold aFO qe;grind
def AI:∀i,(eW s v i).length<=i*v.length
 |0=>by simp[eW]
 |i+1=>by
  have h1:=AI i;have h2:=FZ (s:=s) (v:=v) (i:=i) (eW s v i) (v.length-(i+1));unfold eW;grind
def aBx(hv:v.length<=900)(hi:i<=v.length)(hk:k<=v.length):(pK s v i k).length<=820000:=by have h1:=AI (s:=s) (v:=v) i;have h2:=FZ (s:=s) (v:=v) (i:=i) (eW s v i) (k-(i+1));have h3:i*v.length<=900*900:=nP (by omega) hv;unfold pK;omega
end
noncomputable def c60:Con:=con (ac aSh (a1 (aL .V))) (λ(s,v)=>[Fit s,v.length<=900,(∀x∈v,bd 1000000000 x),(ao s).length<=1000000]) (λ(s,v)=> .lst .P (dK s v))
def k60:c60.Okz 61:=ak R6 (λ(s,v)=>[(5,.mk Nat (λF _=>lh F 16) [10,11] (λi=>[i<=v.length]) (λi=>[(16,.iqz (i:Int)),(6,.own 10 .P (eW s v i).length),(7,.own 11 .S (eW s v i).length)]) (λi=>[(10,.row 69 .P (eW s v i)),(11,.row 46 .S ((eW s v i).map (c7 v)))]) (λi=>v.length-i) λi=>
  [(8,.mk Nat (λF _=>lh F 9) [10,11] (λk=>[i<k,k<=v.length]) (λk=>[(9,.iqz (k:Int)),(6,.own 10 .P (pK s v i k).length),(7,.own 11 .S (pK s v i k).length)]) (λk=>[(10,.row 69 .P (pK s v i k)),(11,.row 46 .S ((pK s v i k).map (c7 v)))]) (λk=>v.length-k) λk=>[jb 13 46 (tkB s v i k)])])]
  ) (λ(_,_)=>⟨_,rfl⟩) λ(s,v) hp=>aZ (aA (c7 v) λF=>aA (eW s v 0) λP=>Fit s/\(0=(0:Int)/\P.length=0/\P.length=0/\eW s v 0=([] :List (Prod Nat Nat))/\dZ F P=([] :List S)/\(0:Nat)<=v.length)/\
 (∀x:Nat,aA (x+1) λA=>aA (x:Int) λD=>aA (pK s v x A) λH=>aA (eW s v x) λO=>aA (eW s v A) λQ=>aA ((x+1:Nat):Int) λR=>x<=v.length->(D<v.length->aH (D+1)/\(D+1=R/\O.length=H.length/\O.length=H.length/\eW s v x=pK s v x A/\dZ F O=dZ F H/\x<x+1/\x+1<=v.length)/\
   (∀x_1:Nat,aA (x,x_1) λB=>aA (x_1+1) λC=>aA (x_1:Int) λE=>aA (pK s v x C) λG=>aA (pK s v x x_1) λJ=>aA (dZ F J) λK=>aA (x_1+1:Nat) λM=>aA (⟨(aFG v x),(aFG v x_1)⟩:S) λN=>x<x_1/\x_1<=v.length->(E<v.length->ix D v.length/\ix E v.length/\J.length=K.length/\K.length<=1000000/\(((!fh K (λd=>(!cU N d)))=true->Fit s/\(ao s).length<=1000000/\bd 1000000000 N.a/\bd 1000000000 N.b/\(mf (ao s) (λe=>cU e N)&&eR s (gP N)==2)=tkB s v x x_1)/\
      ((!fh K (λd=>(!cU N d)))=false->false=tkB s v x x_1))/\
     (∀y:Unit,(tkB s v x x_1=true->J.length=K.length/\K.length+[N].length<=1000000/\J.length=J.length/\J.length+[B].length<=1000000/\aH (E+1)/\E+1=(M:Int)/\(pK s v x x_1++[B]).length=G.length/\(dZ F J++[N]).length=G.length/\pK s v x x_1++[B] =pK s v x C/\dZ F J++[N] =dZ F G/\x<x_1+1/\x_1+1<=v.length/\v.length-C<v.length-x_1)/\
      (tkB s v x x_1=false->aH (E+1)/\E+1=(M:Int)/\J.length=G.length/\J.length=G.length/\pK s v x x_1=pK s v x C/\dZ F J=dZ F G/\x<x_1+1/\x_1+1<=v.length/\v.length-C<v.length-x_1)))/\
    (¬E<v.length->aH (D+1)/\D+1=R/\J.length=Q.length/\J.length=Q.length/\pK s v x x_1=eW s v A/\dZ F J=dZ F Q/\x+1<=v.length/\v.length-A<v.length-x)))/\
  (¬D<v.length->O.length=O.length/\eW s v x=dK s v))) (by kernel_rfl) (by
  change Fit s/\v.length<=900/\((∀x∈v,bd 1000000000 x))/\(ao s).length<=1000000 at hp;obtain⟨hf,hv,hb,he⟩:=hp;have hb:∀x:Nat,(x:Int)<v.length->bd 1000000000 (aFG v x):=λx h=>hb _ (dO (by omega));have hL:∀i k:Nat,(i:Int)<v.length->k<=v.length->(pK s v i k).length<=820000:=λi k h1 h2=>aBx hv (by omega) h2;have z:=λi=> @aAi s v i;have sY:∀i k:Nat,i<k->tkB s v i k=true->pK s v i k++[(i,k)] =pK s v i (k+1):=λi k h h2=>by rw[OY h,if_pos h2]
  have sN:∀i k:Nat,i<k->tkB s v i k=false->pK s v i k=pK s v i (k+1):=λi k h h2=>by rw[OY h,if_neg (by rw[h2];simp)]
  have sM:∀i k:Nat,i<k->tkB s v i k=true->(pK s v i k).map (c7 v)++[⟨aFG v i,aFG v k⟩] =(pK s v i (k+1)).map (c7 v):=λi k h h2=>by rw[<-sY i k h h2,dM];rfl
  have pE:=λ(i k:Nat) (h:¬(k:Int)<v.length) (h2:k<=v.length)=> @aBy s v i k h h2;have uE:∀i:Nat,¬(i:Int)<v.length->i<=v.length->eW s v i=dK s v:=λi h1 h2=>by rw[show i=v.length by omega];rfl
  have tA:∀i k:Nat,(dZ (c7 v) (pK s v i k)).any (λd=> !cU ⟨aFG v i,aFG v k⟩ d)=(pK s v i k).any (λd=> !cU ⟨aFG v i,aFG v k⟩ (c7 v d)):=λi k=>by rw[List.any_map];rfl
  have tY:∀i k:Nat,(!(dZ (c7 v) (pK s v i k)).any (λd=> !cU ⟨aFG v i,aFG v k⟩ d))=true->((ao s).all (λe=>cU e ⟨aFG v i,aFG v k⟩)&&eR s (gP ⟨aFG v i,aFG v k⟩)==2)=tkB s v i k:=λi k h=>by unfold tkB;rw[<-tA,h];rfl
  have tN:∀i k:Nat,(!(dZ (c7 v) (pK s v i k)).any (λd=> !cU ⟨aFG v i,aFG v k⟩ d))=false->false=tkB s v i k:=λi k h=>by unfold tkB;grind
  repeat' first|with_reducible apply br|with_reducible intro
  all_goals repeat with_reducible cases‹_<_/\_›
  all_goals first|rfl|with_reducible solve_by_elim|(rw[z];done)|(rw[di];done)|(rw[di];exact cL (hL _ _ ‹_› ‹_›) (by decide))|(rw[di];exact cL (Nat.add_le_add_right (hL _ _ ‹_› ‹_›) 1) (by decide))|exact cL (Nat.add_le_add_right (hL _ _ ‹_› ‹_›) 1) (by decide)|exact congrArg eQ (sN _ _ ‹_› ‹_›)|exact congrArg (dZ (c7 v)) (sN _ _ ‹_› ‹_›)|exact congrArg eQ (sY _ _ ‹_› ‹_›)|(rw[sM _ _ ‹_› ‹_›,di];done)|exact congrArg eQ (pE _ _ ‹_› ‹_›)|exact congrArg (dZ (c7 v)) (pE _ _ ‹_› ‹_›)|grind)
noncomputable def t60:=R6.adk k60
end
def FY{s:Shape}{v:List aFH}{acc:List (Nat×Nat)}{i:Nat}:∀{m:Nat} {p:Nat×Nat},p∈aFO s v acc i m->p∈acc\/(p.1=i/\i<p.2/\p.2<i+1+m)
 |0,p,h=> .inl h
 |m+1,p,h=>by
  unfold aFO qe at h;split at h
  .rcases bl.1 h with h|h
   .rcases FY h with h|⟨h1,h2,h3⟩
    .exact .inl h
    omega
   grind
  .rcases FY h with h|⟨h1,h2,h3⟩
   .exact .inl h
   omega
def Jr{s:Shape}{v:List aFH}:∀{i:Nat} {p:Nat×Nat},i<=v.length->p∈eW s v i->p.1<p.2/\p.2<v.length
 |0,p,_,h=>by simp[eW]at h
 |i+1,p,hi,h=>by
  unfold eW at h;rcases FY h with h|⟨h1,h2,h3⟩
  .exact Jr (by omega) h
  .omega
def KR{s:Shape}{v:List aFH}{p:Nat×Nat}(h:p∈dK s v):p.1<p.2/\p.2<v.length:=Jr (bZ _) h
def U0(r:aD):(aJ r).length<=r.length:=by unfold aJ;grind
def JJ:∀l:List aD,(l.flatMap aJ).length<=(l.map eQ).sum
 |[] =>by simp
 |r::l=>by
  have:=JJ l;have:=U0 r;grind
def Jk{s:Shape}(h:VS s):(ao s).length<=80:=by have h1:=JJ (aE s);have h2:=h.corners;unfold jA at h2;unfold ao;omega
def WC{s:Shape}(h:VS s){r:aD}(hr:r∈(cO s).holes):3<=r.length/\r.length<=40:=by unfold cO at hr;have hr:=(l6 _).subset hr;obtain⟨q,hq,rfl⟩:=bR.1 hr;have hv:=h.ring (r:=q) (by unfold aE;grind);rw[jg];exact⟨hv.three,hv.most⟩
def BF{s:Shape}(V:VS s):0<(cO s).outer.length/\∀r∈(cO s).holes,0<r.length:=
 ⟨by have h:=V.outer.three;show 0<(bw s.outer).length;rw[jg];omega,λr hr=>by have:=WC V hr;omega⟩
noncomputable def c17:Con:=con (a1 aSh) (λs=>[Fit s]) (λs=> .tup [.lst .V (vOf s),.iqz (eOf s)])
def k17:c17.Okz 17:=ak t60 (λs=>[(5,.mk Nat (λF _=>lh F 14) [12] (λk=>[k<=(aE (aM s)).length]) (λk=>[(14,.iqz (k:Int)),(4,.own 12 .V ((aE (aM s)).take k).flatten.length)]) (λk=>[(12,.row 44 .V ((aE (aM s)).take k).flatten)]) (λk=>(aE (aM s)).length-k) bX)]
  ) (λ_=>⟨_,rfl⟩) λs hp=>aZ (Fit s/\((!bP s)=true->vOf s=([] :List aFH)/\11=eOf s)/\
 ((!bP s)=false->Fit s/\Fit (aM s)/\(0:Nat)<(aM s).outer.length/\(∀r:aD,r∈(aM s).holes->(0:Nat)<r.length)/\(0=(0:Int)/\(fk (aU 0 (aE (aM s)))).length=0/\fk (aU 0 (aE (aM s)))=([] :List aFH)/\(0:Nat)<=(aE (aM s)).length)/\
  (∀x:Nat,x<=(aE (aM s)).length->((x:Int)<(aE (aM s)).length->ix (x:Int) (aE (aM s)).length/\(fk (aU x (aE (aM s)))).length=(fk (aU x (aE (aM s)))).length/\(fk (aU x (aE (aM s)))).length+(aC (aE (aM s)) x).length<=1000000/\aH ((x:Int)+1)/\(x:Int)+1=((x+1:Nat):Int)/\(fk (aU x (aE (aM s)))++aC (aE (aM s)) x).length=(fk (aU (x+1) (aE (aM s)))).length/\fk (aU x (aE (aM s)))++aC (aE (aM s)) x=fk (aU (x+1) (aE (aM s)))/\x+1<=(aE (aM s)).length/\(aE (aM s)).length-(x+1)<(aE (aM s)).length-x)/\
   (¬(x:Int)<(aE (aM s)).length->(fk (aU x (aE (aM s)))).length=(fk (aU x (aE (aM s)))).length/\fk (aU x (aE (aM s)))=vOf s/\0=eOf s)))) (by kernel_rfl) (by
  change Fit s at hp;have hq:=ku s;have v0:(!bP s)=true->vOf s=[] :=λh=>by unfold vOf;grind
  have v1:(!bP s)=true->11=eOf s:=λh=>by unfold eOf;grind
  have v2:(!bP s)=false->0=eOf s:=λh=>by unfold eOf;grind
  have c1:(!bP s)=false->aM s=cO s:=λh=>by unfold aM;grind
  have V:(!bP s)=false->VS s:=λh=>(qC s).1 (nb h);have f1:(!bP s)=false->Fit (aM s):=λh=>by rw[c1 h];exact FD hp
  have f2:(!bP s)=false->0<(aM s).outer.length:=λh=>by rw[c1 h];exact(BF (V h)).1
  have f3:(!bP s)=false->∀r∈(aM s).holes,0<r.length:=λh=>by rw[c1 h];exact(BF (V h)).2
  have f4:(!bP s)=false->(aE (aM s)).flatten.length<=80:=λh=>by rw[c1 h];exact FQ (V h)
  have f5:(!bP s)=false->(aE (aM s)).flatten=vOf s:=λh=>by rw[c1 h];unfold vOf;rw[<-hq,nb h];rfl
  have f6:(!bP s)=false->(aE (aM s)).length<=1000:=λh=>by have:=(f1 h).2.1;unfold aE;grind
  generalize aE (aM s)=L at f4 f5 f6|-;have e1:∀x:Nat,(x:Int)<L.length->(L.take x).flatten++aC L x=(L.take (x+1)).flatten:=λx h=>by rw[mc (by omega),uh,TO,kz (by omega)]
  have e2:∀x:Nat,(L.take x).flatten.length<=L.flatten.length:=λx=>by
   conv=>rhs;rw[<-uX x L,uh,fM]
   omega
  have e4:(!bP s)=false->∀x:Nat,(x:Int)<L.length->(L.take x).flatten.length+(aC L x).length<=1000000:=λh x hx=>by grind
  have e5:(!bP s)=false->∀x:Nat,¬(x:Int)<L.length->(L.take x).flatten=vOf s:=λh x hx=>by rw[iV (by omega),f5 h]
  have e6:(!bP s)=false->∀x:Nat,x<=L.length->aH ((x:Int)+1):=λh x hx=>bV (by grind);clear e2 c1 V
  repeat' first|with_reducible apply br|with_reducible intro
  all_goals grind)
noncomputable def t17:=t60.adk k17
noncomputable def c19:Con:=con (a1 aSh) (λs=>[Fit s]) (λs=> .tup [.lst .S (dOf s),.iqz (eOf s)])
def k19:c19.Okz 19:=ak t17 (λs=>[(6,.mk Nat (λF _=>lh F 21) [16] (λk=>[k<=(dK s (vOf s)).length]) (λk=>[(21,.iqz (k:Int)),(6,.own 16 .S k)]) (λk=>[(16,.row 46 .S (((dK s (vOf s)).map (c7 (vOf s))).take k))]) (λk=>(dK s (vOf s)).length-k) bX)]
  ) (λ_=>⟨_,rfl⟩) λs hp=>aZ (Fit s/\(¬eOf s=0->dOf s=([] :List S)/\eOf s=eOf s)/\
 (¬(¬eOf s=0)->Fit s/\(vOf s).length<=900/\(∀x:aFH,x∈vOf s->bd 1000000000 x)/\(ao s).length<=1000000/\(0=(0:Int)/\(0:Nat)=0/\aU 0 (dZ (c7 (vOf s)) (dK s (vOf s)))=([] :List S)/\(0:Nat)<=(dK s (vOf s)).length)/\
  (∀x:Nat,x<=(dK s (vOf s)).length->((x:Int)<(dK s (vOf s)).length->ix (x:Int) (dK s (vOf s)).length/\ix 0 2/\ix ((aa (dK s (vOf s)) x).1:Int) (vOf s).length/\ix 1 2/\ix ((aa (dK s (vOf s)) x).2:Int) (vOf s).length/\x=(aU x (dZ (c7 (vOf s)) (dK s (vOf s)))).length/\(aU x (dZ (c7 (vOf s)) (dK s (vOf s)))).length+[(⟨(aFG (vOf s) (aa (dK s (vOf s)) x).1),(aFG (vOf s) (aa (dK s (vOf s)) x).2)⟩:S)].length<=1000000/\aH ((x:Int)+1)/\(x:Int)+1=((x+1:Nat):Int)/\(aU x (dZ (c7 (vOf s)) (dK s (vOf s)))++[(⟨(aFG (vOf s) (aa (dK s (vOf s)) x).1),(aFG (vOf s) (aa (dK s (vOf s)) x).2)⟩:S)]).length=x+1/\aU x (dZ (c7 (vOf s)) (dK s (vOf s)))++[(⟨(aFG (vOf s) (aa (dK s (vOf s)) x).1),(aFG (vOf s) (aa (dK s (vOf s)) x).2)⟩:S)] =aU (x+1) (dZ (c7 (vOf s)) (dK s (vOf s)))/\x+1<=(dK s (vOf s)).length/\(dK s (vOf s)).length-(x+1)<(dK s (vOf s)).length-x)/\
   (¬(x:Int)<(dK s (vOf s)).length->x=(aU x (dZ (c7 (vOf s)) (dK s (vOf s)))).length/\aU x (dZ (c7 (vOf s)) (dK s (vOf s)))=dOf s/\0=eOf s)))) (by kernel_rfl) (by
  change Fit s at hp;have hq:=ku s;have d0:¬eOf s=0->dOf s=[] :=λh=>(Py h).1;have R:¬¬eOf s=0->ai s=true:=λh=>te h;have V:¬¬eOf s=0->VS s:=λh=>vsR (R h);have hvl:=mw s;have hvb:∀x∈vOf s,bd 1000000000 x:=λx hx=>by obtain⟨i,hi,rfl⟩:=eL.1 hx;exact pF hi (by decide)
  have he:¬¬eOf s=0->(ao s).length<=1000000:=λh=>by have:=Jk (V h);omega
  have dE:¬¬eOf s=0->(dK s (vOf s)).map (c7 (vOf s))=dOf s:=λh=>by rw[Bp (R h)];rw[qL (R h)];exact(Bo (V h) (λx hx=>(oi s).subset hx) ((oi s).nodup_iff.2 (V h).nodup)).1
  have pL:(dK s (vOf s)).length<=6400:=by have:=AI (s:=s) (v:=vOf s) (vOf s).length;have h2:(vOf s).length*(vOf s).length<=80*80:=nP hvl hvl;unfold dK;omega
  have pM:∀p∈dK s (vOf s),p.1<p.2/\p.2<(vOf s).length:=λp hp=>KR hp;generalize dK s (vOf s)=P at dE pL pM|-;have pA:∀x:Nat,(x:Int)<P.length->(aa P x).1<(vOf s).length/\(aa P x).2<(vOf s).length:=λx h=>by
   have h2:aa P x∈P:=by rw[o8 (by omega)];exact nR _
   grind
  have p1:∀x:Nat,(x:Int)<P.length->ix ((aa P x).1:Int) (vOf s).length:=λx h=>fC (pA x h).1;have p2:∀x:Nat,(x:Int)<P.length->ix ((aa P x).2:Int) (vOf s).length:=λx h=>fC (pA x h).2;have e1:∀x:Nat,x<=P.length->(aU x (P.map (c7 (vOf s)))).length=x:=λx h=>by grind
  have e2:∀x:Nat,(x:Int)<P.length->aU x (P.map (c7 (vOf s)))++[⟨aFG (vOf s) (aa P x).1,aFG (vOf s) (aa P x).2⟩] =aU (x+1) (P.map (c7 (vOf s))):=λx h=>by rw[mc (by grind),kJ,o8 (by omega)];rfl
  have e3:¬¬eOf s=0->∀x:Nat,¬(x:Int)<P.length->aU x (P.map (c7 (vOf s)))=dOf s:=λh x hx=>by rw[iV (by grind),dE h]
  clear pM dE pA hq
  repeat' first|with_reducible apply br|with_reducible intro
  all_goals grind)
noncomputable def t19:=t17.adk k19
def eB(v:List aFH)(i j k n:Nat):Bool:=n !=i&&n !=j&&n !=k&&cT (c5 (aFG v i) (aFG v j) (aFG v k)) (aFG v n) !=0
noncomputable def aE4:Con:=con (ac (aL .V) (a1 aV)) (λ(l,_)=>[l.length<=1000000]) (λ(l,v)=> .iqz (fI (λu=>decide (v=u)) l))
def Sh:aE4.Okz 149:=ak t19 (λ(l,v)=>[cnt 2 8 l.length (aK λj=>decide (v=aFG l j)=false)]
  ) (λ(_,_)=>⟨_,rfl⟩) λ(l,v) hp=>aZ ((0=(0:Int)/\(0:Nat)<=l.length/\aK (λj=>decide (v=aFG l j)=false) 0)/\
 (∀x:Nat,aA (x:Int) λA=>x<=l.length/\aK (λj=>decide (v=aFG l j)=false) x->(A<l.length->ix A l.length/\(v=(aFG l x)->A=fI (λu=>decide (v=u)) l)/\
   (¬v=(aFG l x)->aH (A+1)/\A+1=((x+1:Nat):Int)/\x+1<=l.length/\aK (λj=>decide (v=aFG l j)=false) (x+1)/\l.length-(x+1)<l.length-x))/\
  (¬A<l.length-> -1=fI (λu=>decide (v=u)) l))) (by kernel_rfl) (by
  change l.length<=1000000 at hp
  with_reducible ((repeat' first|apply br|intro);all_goals repeat cases‹_/\_›)
  all_goals first|rfl|exact qm (t:= .V) (by omega) (decide_eq_true ‹_›) ‹_› |(obtain rfl:_=l.length:=ui ‹_› (by omega);exact tn (t:= .V) ‹_›)|grind)
noncomputable def Rp:=t19.adk Sh
def ib(v:V):Int:=if 0<v.y\/(v.y=0/\0<v.x)then 0 else 1
def aG:Ar (List V) where
 enc v:= .pro [.pro [.lst .V v,.junk,.junk] 0] 0
 dec s:=match s with
  | .pro [.pro [r,.junk,.junk] 0] 0=>pZ .V r
  |_=>none
 ok s a h:=by
  split at h
  .have e1:=rZ h;simp only[SV.av,avs,e1]
  .cases h
 pl _:=⟨_,rfl⟩
def aQ:Ar Nat where
 enc n:= .pro [.int .i64 (n:Int)] 0
 dec s:=match s with
  | .pro [.int .i64 (.ofNat n)] 0=>some n
  |_=>none
 ok s a h:=by split at h<;>cases h;rfl
 pl _:=⟨_,rfl⟩
def mQ(v:List V)(p x y:Nat):Int:=
 let a:=aFJ (aFG v x) (aFG v p)
 let b:=aFJ (aFG v y) (aFG v p)
 if ib a-ib b=0 then-turn ⟨0,0⟩ a b else ib a-ib b
noncomputable def aEj:Con:=con (a1 aV) (λ_=>[]) (λv=> .iqz (ib v)
 )
def aCP:aEj.Okz 222:=ak Rp bX (λ_=>⟨_,rfl⟩) λv _=>aZ ((0<v.y->0=ib v)/\
 (¬0<v.y->(v.y=0->(0<v.x->0=ib v)/\
   (¬0<v.x->1=ib v))/\
  (¬v.y=0->1=ib v))) (by kernel_rfl) (by
  refine⟨λh=>(if_pos (.inl h)).symm,λh=>⟨λh2=>⟨λh3=>(if_pos (.inr ⟨h2,h3⟩)).symm,λh3=>(if_neg ?_).symm⟩,λh2=>(if_neg ?_).symm⟩⟩<;>omega)
noncomputable def Qz:=Rp.adk aCP
def NK(v:V):0<=ib v/\ib v<=1:=by unfold ib;omega
def Zo(a b c:V): -1<=turn a b c/\turn a b c<=1:=by unfold turn sgn;omega
noncomputable def aEk:Con:=con (ac aN (ac aN (ac aG (a1 aQ)))) (λ(x,y,v,p)=>[x<v.length,y<v.length,p<v.length,v.length<=1000000,(∀u∈v,bd 500000000 u)]) (λ(x,y,v,p)=> .iqz (mQ v p x y)
 )
def Sd:aEk.Okz 221:=ak Qz (λ(_,_,_,_)=>[]) (λ(_,_,_,_)=>⟨_,rfl⟩) λ(x,y,v,p) hp=>aZ (aA (aFG v p) λA=>aA (aFG v x) λB=>aA (aFG v y) λC=>aA (aFJ B A) λD=>aA (aFJ C A) λE=>aA (⟨0,0⟩:V) λF=>ix (x:Int) v.length/\ix (p:Int) v.length/\bd 1000000000 B/\bd 1000000000 A/\ix (y:Int) v.length/\ix (p:Int) v.length/\bd 1000000000 C/\bd 1000000000 A/\aH (ib D-ib E)/\(¬ib D-ib E=0->ib D-ib E=mQ v p x y)/\
 (¬(¬ib D-ib E=0)->bd 1000000000 F/\bd 1000000000 D/\bd 1000000000 E/\aH (0-turn F D E)/\0-turn F D E=mQ v p x y)) (by kernel_rfl) (by
  change x<v.length/\y<v.length/\p<v.length/\v.length<=1000000/\((∀u∈v,bd 500000000 u))at hp;obtain⟨hx,hy,hq,hl,hb⟩:=hp;have hb:∀i:Nat,i<v.length->bd 500000000 (aFG v i):=λi h=>hb _ (dO h);have bx:=hb x hx;have by_:=hb y hy;have bp:=hb p hq;have e1:=NK (aFJ (aFG v x) (aFG v p));have e2:=NK (aFJ (aFG v y) (aFG v p));have e3:=Zo ⟨0,0⟩ (aFJ (aFG v x) (aFG v p)) (aFJ (aFG v y) (aFG v p));have sb:∀a b:V,bd 500000000 a->bd 500000000 b->bd 1000000000 (aFJ a b):=λa b h1 h2=>by unfold bd aFJ at*;grind
  refine⟨fC hx,fC hq,bx.mono,bp.mono,fC hy,fC hq,by_.mono,bp.mono,bV (by omega),λh=>(if_neg h).symm,λh=>⟨by unfold bd;grind,sb _ _ bx bp,sb _ _ by_ bp,bV (by omega),?_⟩⟩;rw[show mQ v p x y=_ from if_pos (sk h)];omega)
noncomputable def aCE:=Qz.adk Sd
section
open Go.RowKit Go.Sort Go.Shelf Go.Lib
def wT(lt:Int->Int->Bool)(x:Int):List Int->List Int
 |[] =>[x]
 |y::r=>if lt y x=true then y::wT lt x r else x::y::r
def oH(lt:Int->Int->Bool):List Int->List Int
 |[] =>[]
 |x::l=>wT lt x (oH lt l)
def E3(lt:Int->Int->Bool)(x:Int):∀l:List Int,(wT lt x l).Perm (x::l)
 |[] =>DF _
 |y::r=>by
  unfold wT;split
  .exact((E3 lt x r).cons y).trans (by grind)
  grind
def uq(lt:Int->Int->Bool):∀l:List Int,(oH lt l).Perm l
 |[] =>DF _
 |x::l=>(E3 lt x _).trans ((uq lt l).cons x)
structure OrdOn(lt:Int->Int->Bool)(l:List Int):Prop where
 trans:∀x∈l,∀y∈l,∀z∈l,lt x y=true->lt y z=true->lt x z=true
 asym:∀x∈l,∀y∈l,lt x y=true->lt y x=false
 tot:∀x∈l,∀y∈l,lt x y=false->lt y x=false->x=y
def OrdOn.neg{lt:Int->Int->Bool}{l:List Int}(h:OrdOn lt l){x y z:Int}(hx:x∈l)(hy:y∈l)(hz:z∈l)(h1:lt x y=false)(h2:lt y z=false):lt x z=false:=by
 cases h3:lt x z with
 |false=>rfl
 |true=>
  cases h4:lt y x with
  |false=>have:=h.tot x hx y hy h1 h4;grind
  |true=>rw[h.trans y hy x hx z hz h4 h3]at h2;cases h2
def Jz{lt:Int->Int->Bool}{S:List Int}(h:OrdOn lt S){x:Int}(hx:x∈S):∀l:List Int,(∀y∈l,y∈S)->l.Pairwise (λa b=>lt b a=false)->(wT lt x l).Pairwise λa b=>lt b a=false
 |[],_,_=>List.pairwise_singleton _ _
 |y::r,hl,hs=>by
  have hy:=hl y cI;obtain⟨h1,h2⟩:=iS.1 hs;unfold wT;split
  .rename_i hlt;refine iS.2 ⟨λb hb=> ?_,Jz h hx r (by grind) h2⟩;rcases bI.1 ((E3 lt x r).mem_iff.1 hb)with rfl|hb
   .exact h.asym _ hy _ hx hlt
   grind
  .rename_i hlt;have hlt:lt y x=false:=by simpa using hlt
   refine iS.2 ⟨λb hb=> ?_,hs⟩;rcases bI.1 hb with rfl|hb
   .exact hlt
   .exact h.neg (by grind) hy hx (h1 b hb) hlt
def Dv{lt:Int->Int->Bool}{S:List Int}(h:OrdOn lt S):∀l:List Int,(∀y∈l,y∈S)->(oH lt l).Pairwise λa b=>lt b a=false
 |[],_=>wi
 |x::l,hl=>Jz h (by grind) _ (λy hy=>hl y (cG _ ((uq lt l).mem_iff.1 hy))) (Dv h l (by grind))
def UB{lt:Int->Int->Bool}{l k:List Int}(h:OrdOn lt l)(hp:k.Perm l)(hs:k.Pairwise λa b=>lt b a=false):k=oH lt l:=
 S4 (λa b h1 h2 h3 h4=>h.tot a (hp.mem_iff.1 h1) b ((uq lt l).mem_iff.1 h2) h4 h3) hs (Dv h l λ_ h=>h) (hp.trans (uq lt l).symm)
def ltA(v:List V)(p:Nat)(x y:Int):Bool:=decide (mQ v p x.toNat y.toNat<0)
def Nh{C:bG}{w:World}{p:Nat}{v:List V}{vs:List Value}(h:bK C [.fn (.func 221) [] [.pro [.pro [.sl v.length (LT.V.enc v),.junk,.junk] 0] 0,.pro [.int .i64 (p:Int)] 0]] vs):
  ∃cb:List Value,vs=[.func (.func 221) #[] cb.toArray]/\bK C [.pro [.pro [.sl v.length (LT.V.enc v),.junk,.junk] 0] 0,.pro [.int .i64 (p:Int)] 0] cb:=by
 obtain⟨u,r,rfl,h1,h2⟩:=h;subst h2;obtain⟨a,b,rfl,h3,h4⟩:=h1;unfold bK at h3;grind
def Wj(l:List Int)(v:List V)(p:Nat)(hn:l.length<=1000000)(hl:∀x∈l,0<=x/\x.toNat<v.length)(hp:p<v.length)(hv:v.length<=1000000)(hb:∀u∈v,bd 500000000 u)(hO:OrdOn (ltA v p) l):
  nI bH 220 (some l.length) [.fn (.func 221) [] [.pro [.pro [.sl v.length (LT.V.enc v),.junk,.junk] 0] 0,.pro [.int .i64 (p:Int)] 0]] 3 1 (LT.I.enc l) (LT.I.enc (oH (ltA v p) l)):=by
 have hlen:=(uq (ltA v p) l).length_eq;refine⟨by kernel_rfl,by rw[pU,pU,di,di,hlen],?_,?_⟩
 .intro C w b c arr vs hC hL hnc hA;obtain⟨cb,rfl,hcb⟩:=Nh (w:=w) hA;obtain⟨hH,hsz⟩:=Lk hL;by_cases hl0:l=[]
  .subst hl0;have h:=AnyF.slices_SortFunc_none (P:=bH) (ρ:=Tryz.sort220_ren) {Tryz.sort220 with} (some ⟨b,0,none⟩) c (.func (.func 221) #[] cb.toArray) w;refine h.mono ?_;rintro e w' ⟨rfl,rfl⟩;exact⟨arr,rfl,hL,⟨rfl,rfl,rfl,bZ _,λ_ _ _=>rfl⟩⟩
  obtain⟨x0,hx0⟩:=Iy _ hl0;have:Inhabited {x:Int//x∈l}:=⟨⟨x0,hx0⟩⟩;obtain⟨d,hd⟩:∃d:Array {x:Int//x∈l},d=l.attach.toArray:=⟨_,rfl⟩;have hds:d.size=l.length:=by rw[hd];simp
  have hdm:d.toList.map (·.1)=l:=by rw[hd];simp
  have hblk:b<w.heap.size:=(JD.1 hL.blk).1;have hswo:SWO (ltOf λx y:{x:Int//x∈l}=>mQ v p x.1.toNat y.1.toNat):=by
   have e:∀x y:{x:Int//x∈l},ltOf (λx y:{x:Int//x∈l}=>mQ v p x.1.toNat y.1.toNat) x y=ltA v p x.1 y.1:=λx y=>rfl;refine⟨λx=> ?_,λx y z h1 h2=> ?_,λx y z h1 h2=> ?_⟩
   .rw[e];cases h:ltA v p x.1 x.1 with
    |false=>rfl
    |true=>have:=hO.asym _ x.2 _ x.2 h;grind
   .exact hO.trans _ x.2 _ y.2 _ z.2 h1 h2
   .exact hO.neg x.2 y.2 z.2 h1 h2
  have hHd:Holds (λx:{x:Int//x∈l}=>cg .i64 x.1) w b 0 d:=by
   intro j hj;have hj':j<l.length:=by omega
   have:=hH j (by omega);have e:(l.toArray)[j]! =d[j]!.1:=by rw[getElem!_pos _ j (by omega),getElem!_pos d j hj];subst hd;simp
   rw[e]at this;exact this
  have h:=Any.slices_SortFunc (P:=bH) (ρ:=Tryz.sort220_ren) Tryz.sort220 (λx:{x:Int//x∈l}=>cg .i64 x.1) (λ_=>rfl) (λx y=>mQ v p x.1.toNat y.1.toNat) hswo 221 cb.toArray b 0 c d w (λargs w=>l5 (by kernel_rfl) args w) (by
   intro m os dk hdk x y;have hx:=hl x.1 x.2;have hy:=hl y.1 y.2;obtain⟨A,r,hA2,hr,hS⟩:=Sd [.int .i64 (x.1.toNat:Int),.int .i64 (y.1.toNat:Int),aG.enc v,aQ.enc p] (x.1.toNat,y.1.toNat,v,p) rfl (jz.1 ⟨hx.2,hy.2,hp,hv,hb⟩);have hA3:A=[.int .i64 (x.1.toNat:Int),.int .i64 (y.1.toNat:Int),.pro [.pro [.sl v.length (LT.V.enc v),.junk,.junk] 0] 0,.pro [.int .i64 (p:Int)] 0] :=by have h5:avs [SV.int .i64 (x.1.toNat:Int),.int .i64 (y.1.toNat:Int),aG.enc v,aQ.enc p] =([.int .i64 (x.1.toNat:Int),.int .i64 (y.1.toNat:Int),.pro [.pro [.sl v.length (LT.V.enc v),.junk,.junk] 0] 0,.pro [.int .i64 (p:Int)] 0] :List PV).map .p:=rfl;rw[h5]at hA2;have:=congrArg bT hA2;rw[dV,dV]at this;cases this;rfl
   have hr2:r= .int .i64 (mQ v p x.1.toNat y.1.toNat):=by have h6:(SV.int .i64 (mQ v p x.1.toNat y.1.toNat)).av= .p r:=hr;cases h6;rfl
   subst hA3;subst hr2;have ex:((x.1.toNat:Nat):Int)=x.1:=by grind
   have ey:((y.1.toNat:Nat):Int)=y.1:=by grind
   rw[ex,ey]at hS;have h1:=hS.2 C (sortWorld (λx:{x:Int//x∈l}=>cg .i64 x.1) w b 0 m dk os) (.int .i64 x.1:: .int .i64 y.1::cb) (λb' o u h=> ?_) ?_
   .have h2:=J5 h1 (by grind);rw[show(#[cg .i64 x.1,cg .i64 y.1] ++cb.toArray)=(cg .i64 x.1:: .int .i64 y.1::cb).toArray by simp];refine h2.mono ?_;rintro e w' ⟨⟨u,rfl,hu,hbel⟩,hdr⟩;subst hu;exact⟨rfl,(Lay.mk hbel hdr).grow⟩
   .obtain⟨h2,h3⟩:=hC _ _ _ h;unfold sortWorld;rw[cell?_grow _ _ _ (by rw[size_putRow];exact kO w ⟨b',o,none⟩ h2),cell?_putRow_other _ _ b 0 _ _ (Or.inl h3)];exact h2
   .refine⟨_,_,rfl,by rfl,?_⟩;exact⟨_,_,rfl,by rfl,hcb⟩) hHd hblk (by omega)
  rw[hds]at h;refine h.mono ?_;rintro e w' ⟨rfl,d',n,os,hp,hs,rfl⟩;obtain⟨p1,_,p3⟩:=hp;have hG:=Dl (enc:=λx:{x:Int//x∈l}=>cg .i64 x.1) (w:=w) (g:=b) (n:=n) (d:=d') (os:=os);have hperm:d'.toList.Perm d.toList:=by
   have e1:(d'.extract 0 l.length).toList=d'.toList:=by rw[<-hds,<-p1];simp
   have e2:(d.extract 0 l.length).toList=d.toList:=by rw[<-hds];simp
   rwa[e1,e2]at p3
  have hpr:(d'.toList.map (·.1)).Perm l:=by have:=hperm.map (·.1);rwa[hdm]at this
  have hso:d'.toList.map (·.1)=oH (ltA v p) l:=by
   refine UB hO hpr ?_;rw[km,sW];intro i j hi hj hij;have hj':j<d'.size:=by simpa using hj
   have:=hs i j (kK _) hij (by omega);rw[getElem!_pos d' i (by omega),getElem!_pos d' j hj']at this;show ltOf (λx y:{x:Int//x∈l}=>mQ v p x.1.toNat y.1.toNat) (d'.toList[j]) (d'.toList[i])=false;simpa using this
  refine⟨_,rfl,⟨JK hL.blk,by grind,λ_=> ?_,?_⟩,hG⟩
  .obtain⟨h1,h2,h3⟩:=hL.row (by decide);rw[pU,di,hlen];unfold putCells;grind
  .intro i x hi;rw[<-hso,pU,dU,gr]at hi;cases hx:d'.toList[i]? with
   |none=>grind
   |some y=>
    rw[hx]at hi;cases hi;refine⟨.int .i64 y.1,?_,rfl,by rfl⟩;unfold putCells;grind
 .intro h0 C w vs hC hA;obtain⟨cb,rfl,_⟩:=Nh (w:=w) hA;have hl0:l=[] :=by grind
  have h:=AnyF.slices_SortFunc_none (P:=bH) (ρ:=Tryz.sort220_ren) {Tryz.sort220 with} none 0 (.func (.func 221) #[] cb.toArray) w;refine h.mono ?_;rintro e w' ⟨rfl,rfl⟩;exact⟨rfl,Below.refl _ _⟩
def IZ:List SV->Option (List Int×List V×Nat)
 |[.lst .I l,.fnp 221 [] [.pro [.pro [.lst .V v,.junk,.junk] 0] 0,.pro [.int .i64 (.ofNat p)] 0]] =>some (l,v,p)
 |_=>none
def XW{l:List Int}{rest:List SV}{x:List Int×List V×Nat}(h:IZ (.lst .I l::rest)=some x):∃v p,rest=[.fnp 221 [] [.pro [.pro [.lst .V v,.junk,.junk] 0] 0,.pro [.int .i64 (p:Nat)] 0]]/\x=(l,v,p):=by
 unfold IZ at h;split at h
 .grind
 .cases h
noncomputable def aEl:Con:=⟨List Int×List V×Nat,IZ,λ(l,v,p)=>[l.length<=1000000,(∀x∈l,0<=x/\x.toNat<v.length),p<v.length,v.length<=1000000,(∀u∈v,bd 500000000 u),OrdOn (ltA v p) l],.mutR .I 3 λ(l,v,p)=>oH (ltA v p) l⟩
def aCQ:aEl.Okz 220:=by intro l rest x hd hp;obtain⟨v,p,rfl,rfl⟩:=XW hd;obtain⟨h1,h2,h3,h4,h5,h6⟩:=jz.2 hp;exact⟨[.fn (.func 221) [] [.pro [.pro [.sl v.length (LT.V.enc v),.junk,.junk] 0] 0,.pro [.int .i64 (p:Int)] 0]],rfl,Wj l v p h1 h2 h3 h4 h5 h6⟩
noncomputable def tD:=(aCE.adk aCQ).adk aC0
end
def c6(l:List V)(v:V):Nat:=l.findIdx λu=>decide (v=u)
def fR(l:List Int)(q:Int):Nat:=l.findIdx λu=>decide (q=u)
def fIx{t:LT}{l:List t.ty}{q:t.ty->Bool}{k:Nat}(hk:k<l.length)(h:q (t.nth l k)=true)(hu:aK (λj=>q (t.nth l j)=false) k):l.findIdx q=k:=by refine(List.findIdx_eq hk).2 ⟨by rw[<-LT.nth_eq t l hk];exact h,λj hj=> ?_⟩;have this:q (t.nth l j)=false:=hu j hj;rw[LT.nth_eq t l (by omega)]at this;exact this
def Pw{t:LT}{l:List t.ty}{q:t.ty->Bool}{v:t.ty}(hv:v∈l)(h:q v=true)(hu:aK (λj=>q (t.nth l j)=false) l.length):False:=by obtain⟨j,hj,rfl⟩:=List.mem_iff_getElem.1 hv;have this:q (t.nth l j)=false:=hu j hj;rw[LT.nth_eq t l hj,h]at this;cases this
def O4{l:List Int}{q:Int}(h:q∈l):fR l q<l.length:=List.findIdx_lt_length_of_exists ⟨q,h,decide_eq_true rfl⟩
def mr{l:List V}{q:V}(h:q∈l):c6 l q<l.length:=List.findIdx_lt_length_of_exists ⟨q,h,decide_eq_true rfl⟩
def aGr:Ar (List V×List (List Int)×List Int) where
 enc g:= .pro [.lst .V g.1,.lst .Q g.2.1,.lst .I g.2.2] 0
 dec s:=match s with
  | .pro [a,b,c] 0=>(match pZ .V a,pZ .Q b,pZ .I c with|some x,some y,some z=>some (x,y,z)|_,_,_=>none)
  |_=>none
 ok s a h:=by
  split at h
  .split at h<;>cases h;rename_i h1 h2 h3;have e1:=rZ h1;have e2:=rZ h2;have e3:=rZ h3;simp only[SV.av,avs,e1,e2,e3]
  .cases h
 pl _:=⟨_,rfl⟩
def io(L:List (List Int))(i j:Nat)(st:Int):Nat:=
 let l:=aj L i
 (cu l (((fR l j:Int)+st+l.length).toNat % l.length)).toNat
noncomputable def aCt:Con:=con (ac (aL .V) (a1 aV)) (λ(l,v)=>[l.length<=1000000,v∈l]) (λ(l,v)=> .iqz (c6 l v:Nat))
def aCg:aCt.Okz 149:=ak tD (λ(l,v)=>[cnt 2 8 l.length (aK λj=>decide (v=aFG l j)=false)]
  ) (λ(_,_)=>⟨_,rfl⟩) λ(l,v) hp=>aZ ((0=(0:Int)/\(0:Nat)<=l.length/\aK (λj=>decide (v=aFG l j)=false) 0)/\
 (∀x:Nat,aA (x:Int) λA=>x<=l.length/\aK (λj=>decide (v=aFG l j)=false) x->(A<l.length->ix A l.length/\(v=(aFG l x)->A=c6 l v)/\
   (¬v=(aFG l x)->aH (A+1)/\A+1=((x+1:Nat):Int)/\x+1<=l.length/\aK (λj=>decide (v=aFG l j)=false) (x+1)/\l.length-(x+1)<l.length-x))/\
  (¬A<l.length-> -1=(c6 l v:Int)))) (by kernel_rfl) (by
  change l.length<=1000000/\v∈l at hp;obtain⟨hl,hv⟩:=hp;have e1:∀x:Nat,(x:Int)<l.length->v=aFG l x->aK (λj=>decide (v=aFG l j)=false) x->(x:Int)=c6 l v:=λx h1 h2 h3=>by rw[show c6 l v=x from fIx (t:= .V) (by omega) (decide_eq_true h2) h3]
  have e2:∀x:Nat,¬(x:Int)<l.length->x<=l.length->aK (λj=>decide (v=aFG l j)=false) x-> -1=(c6 l v:Int):=λx h1 h2 h3=>by
   obtain rfl:x=l.length:=by omega
   exact(Pw (t:= .V) (q:=λu=>decide (v=u)) hv (decide_eq_true rfl) h3).elim
  with_reducible ((repeat' first|apply br|intro);all_goals repeat cases‹_/\_›)
  all_goals grind)
noncomputable def QN:=tD.adk aCg
noncomputable def aEI:Con:=con (ac (aL .I) (a1 aI)) (λ(l,q)=>[l.length<=1000000,q∈l]) (λ(l,q)=> .iqz (fR l q:Nat))
def aDd:aEI.Okz 171:=ak QN (λ(l,q)=>[cnt 2 8 l.length (aK λj=>decide (q=cu l j)=false)]
  ) (λ(_,_)=>⟨_,rfl⟩) λ(l,q) hp=>aZ ((0=(0:Int)/\(0:Nat)<=l.length/\aK (λj=>decide (q=cu l j)=false) 0)/\
 (∀x:Nat,aA (x:Int) λA=>x<=l.length/\aK (λj=>decide (q=cu l j)=false) x->(A<l.length->ix A l.length/\(q=cu l x->A=fR l q)/\
   (¬q=cu l x->aH (A+1)/\A+1=((x+1:Nat):Int)/\x+1<=l.length/\aK (λj=>decide (q=cu l j)=false) (x+1)/\l.length-(x+1)<l.length-x))/\
  (¬A<l.length-> -1=(fR l q:Int)))) (by kernel_rfl) (by
  change l.length<=1000000/\q∈l at hp;obtain⟨hl,hv⟩:=hp;have e1:∀x:Nat,(x:Int)<l.length->q=cu l x->aK (λj=>decide (q=cu l j)=false) x->(x:Int)=fR l q:=λx h1 h2 h3=>by rw[show fR l q=x from fIx (t:= .I) (by omega) (decide_eq_true h2) h3]
  have e2:∀x:Nat,¬(x:Int)<l.length->x<=l.length->aK (λj=>decide (q=cu l j)=false) x-> -1=(fR l q:Int):=λx h1 h2 h3=>by
   obtain rfl:x=l.length:=by omega
   exact(Pw (t:= .I) (q:=λu=>decide (q=u)) hv (decide_eq_true rfl) h3).elim
  with_reducible ((repeat' first|apply br|intro);all_goals repeat cases‹_/\_›)
  all_goals grind)
noncomputable def RN:=QN.adk aDd
noncomputable def aFp:Con:=con (ac aGr (ac aN (ac aN (a1 aI)))) (λ(g,i,j,st)=>[g.1.length<=1000000,g.2.1.length<=1000000,i<g.2.1.length,(j:Int)∈aj g.2.1 i,(aj g.2.1 i).length<=1000000,(∀x∈aj g.2.1 i,0<=x),st=1\/st= -1]) (λ(g,i,j,st)=> .iqz (io g.2.1 i j st:Nat)
 )
def aDT:aFp.Okz 107:=ak RN (λ(_,_,_,_)=>[]) (λ(_,_,_,_)=>⟨_,rfl⟩) λ(g,i,j,st) hp=>aZ (aA (aj g.2.1 i) λB=>aA (fR B (j:Int):Int) λC=>aA (B.length:Int) λD=>aA (C+st+B.length) λE=>ix (i:Int) g.2.1.length/\B.length<=1000000/\(j:Int)∈aj g.2.1 i/\aH (C+st)/\aH E/\D≠0/\ix (cZ E D) B.length/\cu B (cZ E D).toNat=io g.2.1 i j st) (by kernel_rfl) (by
 change g.1.length<=1000000/\g.2.1.length<=1000000/\i<g.2.1.length/\(j:Int)∈aj g.2.1 i/\(aj g.2.1 i).length<=1000000/\((∀x∈aj g.2.1 i,0<=x))/\(st=1\/st= -1)at hp;obtain⟨h1,h2,h3,h4,h5,h6,h7⟩:=hp;unfold io;generalize aj g.2.1 i=l at*;have h8:=O4 h4;have e0:0<=(fR l (j:Int):Int)+st+l.length:=by omega
 have e1:cZ ((fR l (j:Int):Int)+st+l.length) (l.length:Int)=(((((fR l (j:Int):Int)+st+l.length).toNat % l.length:Nat)):Int):=by rw[Int.tmod_eq_emod_of_nonneg e0,<-Int.toNat_of_nonneg e0];rfl
 have e2:((fR l (j:Int):Int)+st+l.length).toNat % l.length<l.length:=bz _ (by omega);refine⟨fC h3,h5,h4,bV (by omega),bV (by omega),by omega,by rw[e1];exact fC e2,?_⟩;rw[e1];have h9:=h6 _ (show cu l (((fR l (j:Int):Int)+st+l.length).toNat % l.length)∈l by rw[show cu l _=_ from pC e2];grind);grind)
noncomputable def SH:=RN.adk aDT
def iu(L:List (List Int))(a b:Nat):List (List Int):=L.set a (aj L a++[(b:Int)])
def both(L:List (List Int))(a b:Nat):List (List Int):=iu (iu L a b) b a
def rgO(base m:Nat):Nat->List (List Int)->List (List Int)
 |0,L=>L
 |i+1,L=>both (rgO base m i L) (base+i) (base+(i+1) % m)
def rgN(n base m:Nat):Nat->List Int->List Int
 |0,N=>N
 |i+1,N=>if n=0 then(rgN n base m i N).set (base+i) ((base+(i+1) % m:Nat):Int)else(rgN n base m i N).set (base+(i+1) % m) ((base+i:Nat):Int)
def bs(R:List aD)(k:Nat):Nat:=(R.take k).flatten.length
def rsO(R:List aD):Nat->List (List Int)->List (List Int)
 |0,L=>L
 |k+1,L=>rgO (bs R k) (aC R k).length (aC R k).length (rsO R k L)
def rsN(R:List aD):Nat->List Int->List Int
 |0,N=>N
 |k+1,N=>rgN k (bs R k) (aC R k).length (aC R k).length (rsN R k N)
def dgO(v:List aFH)(D:List Geo.S):Nat->List (List Int)->List (List Int)
 |0,L=>L
 |k+1,L=>both (dgO v D k L) (c6 v (aW D k).a) (c6 v (aW D k).b)
def dgP(v:List aFH)(D:List Geo.S):List (Nat×Nat):=D.map λd=>(c6 v d.a,c6 v d.b)
def stO(v:List aFH):Nat->List (List Int)->List (List Int)
 |0,L=>L
 |k+1,L=>(stO v k L).set k (oH (ltA v k) (aj (stO v k L) k))
def oX(s:Shape)(k:Nat):List (List Int):=rsO (aE (aM s)) k (cl (vOf s).length [])
def nX(s:Shape)(k:Nat):List Int:=rsN (aE (aM s)) k (cl (vOf s).length 0)
def oB(s:Shape):List (List Int):=rsO (aE (aM s)) (aE (aM s)).length (cl (vOf s).length [])
def oD(s:Shape):List (List Int):=dgO (vOf s) (dOf s) (dOf s).length (oB s)
def oG(s:Shape):List (List Int):=stO (vOf s) (vOf s).length (oD s)
def nG(s:Shape):List Int:=rsN (aE (aM s)) (aE (aM s)).length (cl (vOf s).length 0)
def pG(s:Shape):List (Nat×Nat):=dgP (vOf s) (dOf s)
def vK(L:List (List Int))(a c:Nat)(x:List Int):aj (L.set a x) c=if c=a/\a<L.length then x else aj L c:=by unfold aj;grind
def yC(L:List (List Int))(a b:Nat):(iu L a b).length=L.length:=zf ..
def BY(L:List (List Int))(a b:Nat):(both L a b).length=L.length:=by unfold both;rw[yC,yC]
def GR(base m:Nat)(L:List (List Int)):∀i,(rgO base m i L).length=L.length
 |0=>rfl
 |i+1=>(BY _ _ _).trans (GR base m L i)
def yI(n base m:Nat)(N:List Int):∀i,(rgN n base m i N).length=N.length
 |0=>rfl
 |i+1=>by unfold rgN;split<;>rw[zf,yI n base m N i]
def OI(R:List aD)(L:List (List Int)):∀k,(rsO R k L).length=L.length
 |0=>rfl
 |k+1=>(GR _ _ _ _).trans (OI R L k)
def GQ(R:List aD)(N:List Int):∀k,(rsN R k N).length=N.length
 |0=>rfl
 |k+1=>(yI _ _ _ _ _).trans (GQ R N k)
def Gp(v:List aFH)(D:List Geo.S)(L:List (List Int)):∀k,(dgO v D k L).length=L.length
 |0=>rfl
 |k+1=>(BY _ _ _).trans (Gp v D L k)
def Bf(v:List aFH)(L:List (List Int)):∀k,(stO v k L).length=L.length
 |0=>rfl
 |k+1=>(zf ..).trans (Bf v L k)
def Pi(s:Shape)(k:Nat):(oX s k).length=(vOf s).length:=(OI _ _ k).trans ze
def HI(s:Shape)(k:Nat):(nX s k).length=(vOf s).length:=(GQ _ _ k).trans ze
def Pj(s:Shape):(oB s).length=(vOf s).length:=Pi s _
def yX(s:Shape):(oD s).length=(vOf s).length:=(Gp _ _ _ _).trans (Pj s)
def aBB(s:Shape):(oG s).length=(vOf s).length:=(Bf _ _ _).trans (yX s)
def CM{L:List (List Int)}{t:Nat}(h:∀c,(aj L c).length<=t)(a b c:Nat):(aj (iu L a b) c).length<=t+1:=by unfold iu;rw[vK];grind
def P7{L:List (List Int)}{t:Nat}(h:∀c,(aj L c).length<=t)(a b c:Nat):(aj (both L a b) c).length<=t+2:=CM (CM h a b) b a c
def Hu{L:List (List Int)}{t:Nat}(h:∀c,(aj L c).length<=t)(base m:Nat):∀i c,(aj (rgO base m i L) c).length<=t+2*i
 |0,c=>h c
 |i+1,c=>P7 (Hu h base m i) _ _ c
def re{R:List aD}{k:Nat}(h:k<R.length):bs R k+(aC R k).length=bs R (k+1):=by unfold bs;rw[mc h,uh,TO,fM,kz h]
def wL(R:List aD)(k:Nat):bs R k<=R.flatten.length:=by
 unfold bs
 conv=>rhs;rw[<-uX k R,uh,fM]
 omega
def QT{L:List (List Int)}{t:Nat}(h:∀c,(aj L c).length<=t)(R:List aD):∀k,k<=R.length->∀c,(aj (rsO R k L) c).length<=t+2*bs R k
 |0,_,c=>h c
 |k+1,hk,c=>by
  have:=Hu (QT h R k (by omega)) (bs R k) (aC R k).length (aC R k).length c;have e:=re (R:=R) (k:=k) (by omega);show(aj (rgO _ _ _ _) c).length<=_;omega
def Sc(s:Shape)(k:Nat)(hk:k<=(aE (aM s)).length)(c:Nat):(aj (oX s k) c).length<=2*bs (aE (aM s)) k:=by
 have:=QT (L:=cl (vOf s).length []) (t:=0) (λc=>by unfold aj;grind) (aE (aM s)) k hk c
 rw[kN]at this;exact this
def Qi{L:List (List Int)}{t:Nat}(h:∀c,(aj L c).length<=t)(v:List aFH)(D:List Geo.S):∀i c,(aj (dgO v D i L) c).length<=t+2*i
 |0,c=>h c
 |i+1,c=>P7 (Qi h v D i) _ _ c
def yS(v:List aFH)(L:List (List Int)):∀k c,c<L.length->aj (stO v k L) c=if c<k then oH (ltA v c) (aj L c)else aj L c
 |0,c,_=>(if_neg (Nat.not_lt_zero c)).symm
 |k+1,c,hc=>by
  show aj ((stO v k L).set k (oH (ltA v k) (aj (stO v k L) k))) c=_;rw[vK,Bf];by_cases h:c=k
  .subst h;rw[if_pos ⟨rfl,hc⟩,if_pos (by omega),yS v L c c hc,if_neg (Nat.lt_irrefl c)]
  .rw[if_neg λh2=>h h2.1,yS v L k c hc];grind
def vo{s:Shape}(hv:bP s=true):(dOf s).length<=6400/\∀d∈dOf s,d.a∈vOf s/\d.b∈vOf s:=by
 have V:VS s:=(qC s).1 hv;have R:ai s=true:=by rw[<-ku];exact hv
 have dE:(dK s (vOf s)).map (c7 (vOf s))=dOf s:=by rw[Bp R,qL R];exact(Bo V (λx hx=>(oi s).subset hx) ((oi s).nodup_iff.2 V.nodup)).1
 have hvl:=mw s;have pL:(dK s (vOf s)).length<=6400:=by have:=AI (s:=s) (v:=vOf s) (vOf s).length;have h2:(vOf s).length*(vOf s).length<=80*80:=nP hvl hvl;unfold dK;omega
 refine⟨by grind,λd hd=> ?_⟩;rw[<-dE]at hd;obtain⟨p,hp,rfl⟩:=bR.1 hd;have:=KR hp;exact⟨dO (by omega),dO (by omega)⟩
def GOk(s:Shape):Prop:=∀k,k<(vOf s).length->0<(aj (oD s) k).length/\(∀x∈aj (oD s) k,0<=x/\x.toNat<(vOf s).length)/\OrdOn (ltA (vOf s) k) (aj (oD s) k)
noncomputable def jF(key:Nat)(x:Nat)(L:List (List Int)):Nat×Ann:=(key+10000,.mk Unit (λ_ _=>some ()) [] (λ_=>[]) (λ_=>[]) (λ_=>[(x,.fam 111 3 .I L [])]) (λ_=>0) (λ_=>[]))
noncomputable def aEM:Con:=Ie (a1 aSh) (λs=>[Fit s,bP s=true,GOk s]) (λs=> .tup [.ptr 19 0,.own 40 .P (pG s).length]) (λs=>[(19,some (.box 113 [.lst .V (vOf s),.owF 14 (vOf s).length,.own 17 .I (vOf s).length])),(14,some (.fam 111 3 .I (oG s) [])),(17,some (.row 3 .I (nG s))),(40,some (.row 69 .P (pG s)))])
def aDh:aEM.Okz 166:=PL (oO SH.o) (st:=true) (raw:=uB) (λs=>[lp 5 39 (aE (aM s)).length bX [] (λk=>[(7,.iqz (bs (aE (aM s)) k:Nat))]) (λk=>[(14,.fam 111 3 .I (oX s k) []),(17,.row 3 .I (nX s k))]) λk=>
  [lp 8 46 (aC (aE (aM s)) k).length bX [] bX (λi=>[(14,.fam 111 3 .I (rgO (bs (aE (aM s)) k) (aC (aE (aM s)) k).length i (oX s k)) []),(17,.row 3 .I (rgN k (bs (aE (aM s)) k) (aC (aE (aM s)) k).length i (nX s k)))]) λi=>
  [jU 11 [(11,.iqz (bs (aE (aM s)) k+i:Nat)),(12,.iqz (bs (aE (aM s)) k+(i+1) % (aC (aE (aM s)) k).length:Nat))],
  jF 12 14 (iu (rgO (bs (aE (aM s)) k) (aC (aE (aM s)) k).length i (oX s k)) (bs (aE (aM s)) k+i) (bs (aE (aM s)) k+(i+1) % (aC (aE (aM s)) k).length))]],
  lp 22 120 (dOf s).length bX [40] (λk=>[(13,.own 40 .P k)]) (λk=>[(14,.fam 111 3 .I (dgO (vOf s) (dOf s) k (oB s)) []),(40,.row 69 .P ((pG s).take k))]) λk=>
  [jF 26 14 (iu (dgO (vOf s) (dOf s) k (oB s)) (c6 (vOf s) (aW (dOf s) k).a) (c6 (vOf s) (aW (dOf s) k).b))],
  lp 30 173 (vOf s).length bX [] bX (λk=>[(14,.fam 111 3 .I (stO (vOf s) k (oD s)) []),(0,.box 0 [.undef])])]) λs hp=>aZ (aA (oB s) λA=>aA (oD s) λB=>aA (pG s) λC=>aA (vOf s) λD=>aA (dOf s) λE=>aA (aM s) λG=>aA (0:Nat) λK=>aA (0:Int) λM=>aA (aE G) λV=>aA ([] :List Int) λa=>aA (D.length:Int) λe=>Fit s/\0<=e/\e=D.length/\e<=1000000/\D.length*24<=1000000000/\0<=e/\e=D.length/\e<=1000000/\D.length*8<=1000000000/\Fit s/\Fit G/\K<G.outer.length/\(∀r:aD,r∈G.holes->K<r.length)/\(0=M/\0=(bs V 0:Int)/\cl D.length a=oX s 0/\cl D.length 0=nX s 0/\K<=V.length)/\
 (∀x:Nat,aA (x+1) λF=>aA (oX s x) λH=>aA (nX s x) λI=>aA (x:Int) λL=>aA (bs V x) λW=>aA (aC V x) λX=>aA (bs V x:Int) λZ=>x<=V.length->(L<V.length->ix L V.length/\(0=M/\oX s x=rgO W X.length 0 H/\nX s x=rgN x W X.length 0 I/\K<=X.length)/\
   (∀x_1:Nat,aA (x_1+1) λJ=>aA (x_1:Int) λO=>aA (bs V x+x_1) λY=>aA (x_1+1:Nat) λd=>aA ((bs V x+x_1:Nat):Int) λm=>aA (J % X.length:Nat) λn=>aA (rgO W X.length x_1 H) λo=>aA (kP o Y a) λp=>aA (bs V x+J % X.length) λq=>aA (iu o Y q) λt=>aA (kP t q a) λv=>aA (kP t q a++[m]) λw=>aA (rgN x W X.length x_1 I) λz=>aA ((bs V x+J % X.length:Nat):Int) λA4=>aA (kP o Y a++[A4]) λA5=>x_1<=X.length->(O<X.length->(aH (Z+x_1)/\aH (O+1)/\(X.length:Int)≠0/\aH (Z+(n:Int))/\Z+x_1=m/\Z+(n:Int)=A4)/\
     (∀y:Unit,(ix m D.length/\bs V x+x_1<o.length/\bs V x+x_1<o.length/\p.length=p.length/\p.length+[A4].length<=1000000/\ix m D.length/\bs V x+x_1=bs V x+x_1/\bs V x+x_1<o.length/\bs V x+x_1<o.length/\A5.length=A5.length/\nU o Y A5=iu o Y q)/\
      (∀y_1:Unit,ix A4 D.length/\bs V x+J % X.length<t.length/\bs V x+J % X.length<t.length/\v.length=v.length/\v.length+[m].length<=1000000/\ix A4 D.length/\bs V x+J % X.length=bs V x+J % X.length/\bs V x+J % X.length<t.length/\(L=0->ix m D.length/\bs V x+x_1<z.length/\aH (O+1)/\bs V x+J % X.length<t.length/\w.length=w.length/\O+1=(d:Int)/\nU t q w=rgO W X.length J H/\nU z Y A4=rgN x W X.length J I/\x_1+1<=X.length/\X.length-J<X.length-x_1)/\
       (¬L=0->ix A4 D.length/\bs V x+J % X.length<z.length/\aH (O+1)/\bs V x+J % X.length<t.length/\w.length=w.length/\O+1=(d:Int)/\nU t q w=rgO W X.length J H/\nU z q m=rgN x W X.length J I/\x_1+1<=X.length/\X.length-J<X.length-x_1))))/\
    (¬O<X.length->aH (Z+X.length)/\aH (L+1)/\L+1=((x+1:Nat):Int)/\Z+X.length=bs V F/\rgO W X.length x_1 H=oX s F/\rgN x W X.length x_1 I=nX s F/\x+1<=V.length/\V.length-F<V.length-x)))/\
  (¬L<V.length->Fit s/\(0=M/\K=0/\oX s x=dgO D E 0 A/\aU 0 C=([] :List (Prod Nat Nat))/\K<=E.length)/\
   (∀x_1:Nat,aA (x_1+1) λN=>aA (x_1:Int) λP=>aA (aW E x_1) λR=>aA (c6 D R.a) λS=>aA (c6 D R.b) λT=>aA (dgO D E x_1 A) λb=>aA (iu b S T) λc=>aA (kP b S a) λf=>aA (kP c T a) λg=>aA (aU x_1 C) λh=>aA (c6 D R.a:Int) λi=>aA (c6 D R.b:Int) λj=>aA (kP b S a++[j]) λA0=>aA (c6 D R.a,c6 D R.b) λA1=>aA (kP c T a++[i]) λA2=>x_1<=E.length->(P<E.length->ix P E.length/\D.length<=1000000/\R.a∈vOf s/\D.length<=1000000/\R.b∈vOf s/\(ix i D.length/\c6 D R.a<b.length/\c6 D R.a<b.length/\f.length=f.length/\f.length+[j].length<=1000000/\ix i D.length/\c6 D R.a=c6 D R.a/\c6 D R.a<b.length/\c6 D R.a<b.length/\A0.length=A0.length/\nU b S A0=iu b S T)/\
     (∀y:Unit,ix j D.length/\c6 D R.b<c.length/\c6 D R.b<c.length/\g.length=g.length/\g.length+[i].length<=1000000/\ix j D.length/\c6 D R.b=c6 D R.b/\c6 D R.b<c.length/\x_1=h.length/\h.length+[A1].length<=1000000/\aH (P+1)/\c6 D R.b<c.length/\A2.length=A2.length/\P+1=((x_1+1:Nat):Int)/\(aU x_1 C++[A1]).length=x_1+1/\nU c T A2=dgO D E N A/\aU x_1 C++[A1] =aU N C/\x_1+1<=E.length/\E.length-N<E.length-x_1))/\
    (¬P<E.length->(0=M/\dgO D E x_1 A=stO D 0 B/\K<=D.length)/\
     (∀x_2:Nat,aA (x_2:Int) λQ=>aA (stO D x_2 B) λU=>aA (kP U x_2 a) λk=>x_2<=D.length->(Q<D.length->ix Q D.length/\x_2<U.length/\x_2<U.length/\k.length=k.length/\K<k.length/\k.length<=1000000/\(∀x:Int,x∈kP U x_2 a->0<=x/\x.toNat<D.length)/\x_2<D.length/\D.length<=1000000/\(∀u:aFH,u∈vOf s->bd 500000000 u)/\OrdOn (ltA D x_2) k/\aH (Q+1)/\Q+1=((x_2+1:Nat):Int)/\nU U x_2 (oH (ltA D x_2) k)=stO D (x_2+1) B/\x_2+1<=D.length/\D.length-(x_2+1)<D.length-x_2)/\
      (¬Q<D.length->x_1=C.length/\vOf s=vOf s/\D.length=D.length/\D.length=D.length/\stO D x_2 B=oG s/\nX s x=nG s/\aU x_1 C=pG s))))))) (by kernel_rfl) (by
  change Fit s/\bP s=true/\GOk s at hp;obtain⟨hf,hv,hg⟩:=hp;have V:VS s:=(qC s).1 hv;have hR:ai s=true:=by rw[<-ku];exact hv
  have c1:aM s=cO s:=if_pos hv;have f1:Fit (aM s):=by rw[c1];exact FD hf
  have f2:0<(aM s).outer.length:=by rw[c1];exact(BF V).1
  have f3:∀r∈(aM s).holes,0<r.length:=by rw[c1];exact(BF V).2
  have fl:(aE (aM s)).flatten=vOf s:=by rw[c1,qL hR];rfl
  have n80:(vOf s).length<=80:=mw s;have rl:(aE (aM s)).length<=1000:=by have:=f1.2.1;unfold aE;rw[iE];omega
  obtain⟨dl,dm⟩:=vo hv;have vb:∀u∈vOf s,bd 500000000 u:=λu hu=>by obtain⟨i,hi,rfl⟩:=eL.1 hu;exact pF hi (by decide)
  have hB:∀x:Nat,(x:Int)<(aE (aM s)).length->bs (aE (aM s)) x+(aC (aE (aM s)) x).length<=(vOf s).length:=λx h=>by rw[re (by omega),<-fl];exact wL _ _
  have oXB:∀x:Nat,(x:Int)<(aE (aM s)).length->∀c,(aj (oX s x) c).length<=200:=λx h c=>by have h1:=Sc s x (by omega) c;grind
  have oBB:∀c,(aj (oB s) c).length<=200:=λc=>by have h1:=Sc s _ (bZ _) c;have h2:=wL (aE (aM s)) (aE (aM s)).length;rw[fl]at h2;have h3:(aj (oB s) c).length<=2*bs (aE (aM s)) (aE (aM s)).length:=h1;omega
  have dOB:∀k,k<=(dOf s).length->∀c,(aj (dgO (vOf s) (dOf s) k (oB s)) c).length<=13000:=λk hk c=>by have:=Qi oBB (vOf s) (dOf s) k c;omega
  have rOB:∀x i:Nat,(x:Int)<(aE (aM s)).length->(i:Int)<(aC (aE (aM s)) x).length->∀c,(aj (rgO (bs (aE (aM s)) x) (aC (aE (aM s)) x).length i (oX s x)) c).length<=400:=λx i h h2 c=>by have:=Hu (oXB x h) (bs (aE (aM s)) x) (aC (aE (aM s)) x).length i c;grind
  have r1:∀x i:Nat,(x:Int)<(aE (aM s)).length->(i:Int)<(aC (aE (aM s)) x).length->bs (aE (aM s)) x+i<(vOf s).length:=λx i h h2=>by grind
  have r2:∀x i:Nat,(x:Int)<(aE (aM s)).length->(i:Int)<(aC (aE (aM s)) x).length->bs (aE (aM s)) x+(i+1) % (aC (aE (aM s)) x).length<(vOf s).length:=λx i h h2=>by have:=hB x h;have:=bz (i+1) (show 0<(aC (aE (aM s)) x).length by omega);omega
  have t1:∀x i:Nat,(x:Int)<(aE (aM s)).length->(i:Int)<(aC (aE (aM s)) x).length->aH ((bs (aE (aM s)) x:Int)+i):=λx i h h2=>bV (by grind);have t2:∀x i:Nat,(x:Int)<(aE (aM s)).length->(i:Int)<(aC (aE (aM s)) x).length->aH ((i:Int)+1):=λx i h h2=>bV (by have:=r1 x i h h2;omega);have t3:∀x i:Nat,(x:Int)<(aE (aM s)).length->(i:Int)<(aC (aE (aM s)) x).length->aH ((bs (aE (aM s)) x:Int)+(((i+1) % (aC (aE (aM s)) x).length:Nat):Int)):=λx i h h2=>bV (by grind);have t4:∀x i:Nat,(x:Int)<(aE (aM s)).length->(i:Int)<(aC (aE (aM s)) x).length->ix ((bs (aE (aM s)) x+i:Nat):Int) (vOf s).length:=λx i h h2=>fC (r1 x i h h2);have t5:∀x i:Nat,(x:Int)<(aE (aM s)).length->(i:Int)<(aC (aE (aM s)) x).length->ix ((bs (aE (aM s)) x+(i+1) % (aC (aE (aM s)) x).length:Nat):Int) (vOf s).length:=λx i h h2=>fC (r2 x i h h2);have rl2:∀x i:Nat,(rgO (bs (aE (aM s)) x) ((aC (aE (aM s)) x).length) i (oX s x)).length=(vOf s).length:=λx i=>(GR _ _ _ i).trans (Pi s x);have nl2:∀x i:Nat,(rgN x (bs (aE (aM s)) x) (aC (aE (aM s)) x).length i (nX s x)).length=(vOf s).length:=λx i=>(yI _ _ _ _ i).trans (HI s x);have t6:∀x i:Nat,(x:Int)<(aE (aM s)).length->(i:Int)<(aC (aE (aM s)) x).length->bs (aE (aM s)) x+i<(rgO (bs (aE (aM s)) x) ((aC (aE (aM s)) x).length) i (oX s x)).length:=λx i h h2=>by grind
  have t7:∀x i a b:Nat,(x:Int)<(aE (aM s)).length->(i:Int)<(aC (aE (aM s)) x).length->bs (aE (aM s)) x+(i+1) % (aC (aE (aM s)) x).length<(iu (rgO (bs (aE (aM s)) x) ((aC (aE (aM s)) x).length) i (oX s x)) a b).length:=λx i a b h h2=>by rw[yC,rl2];grind
  have t8:∀x i c:Nat,∀z:Int,(x:Int)<(aE (aM s)).length->(i:Int)<(aC (aE (aM s)) x).length->((rgO (bs (aE (aM s)) x) ((aC (aE (aM s)) x).length) i (oX s x)).getD c []).length+[z].length<=1000000:=λx i c z h h2=>by have:((rgO (bs (aE (aM s)) x) ((aC (aE (aM s)) x).length) i (oX s x)).getD c []).length<=400:=rOB x i h h2 c;grind
  have t9:∀x i a b c:Nat,∀z:Int,(x:Int)<(aE (aM s)).length->(i:Int)<(aC (aE (aM s)) x).length->((iu (rgO (bs (aE (aM s)) x) ((aC (aE (aM s)) x).length) i (oX s x)) a b).getD c []).length+[z].length<=1000000:=λx i a b c z h h2=>by have:((iu (rgO (bs (aE (aM s)) x) ((aC (aE (aM s)) x).length) i (oX s x)) a b).getD c []).length<=401:=CM (rOB x i h h2) a b c;grind
  have t10:∀x i:Nat,(x:Int)<(aE (aM s)).length->(i:Int)<(aC (aE (aM s)) x).length->bs (aE (aM s)) x+i<(rgN x (bs (aE (aM s)) x) (aC (aE (aM s)) x).length i (nX s x)).length:=λx i h h2=>by grind
  have t11:∀x i:Nat,(x:Int)<(aE (aM s)).length->(i:Int)<(aC (aE (aM s)) x).length->bs (aE (aM s)) x+(i+1) % (aC (aE (aM s)) x).length<(rgN x (bs (aE (aM s)) x) (aC (aE (aM s)) x).length i (nX s x)).length:=λx i h h2=>by grind
  have t12:∀x i:Nat,(x:Int)=0->(rgN x (bs (aE (aM s)) x) (aC (aE (aM s)) x).length i (nX s x)).set (bs (aE (aM s)) x+i) ((bs (aE (aM s)) x+(i+1) % (aC (aE (aM s)) x).length:Nat):Int)=rgN x (bs (aE (aM s)) x) ((aC (aE (aM s)) x).length) (i+1) (nX s x):=λx i h=>(if_pos (show x=0 by omega)).symm;have t13:∀x i:Nat,¬(x:Int)=0->(rgN x (bs (aE (aM s)) x) (aC (aE (aM s)) x).length i (nX s x)).set (bs (aE (aM s)) x+(i+1) % (aC (aE (aM s)) x).length) ((bs (aE (aM s)) x+i:Nat):Int)=rgN x (bs (aE (aM s)) x) ((aC (aE (aM s)) x).length) (i+1) (nX s x):=λx i h=>(if_neg (show¬x=0 by omega)).symm;have t14:∀x:Nat,(x:Int)<(aE (aM s)).length->aH ((bs (aE (aM s)) x:Int)+(aC (aE (aM s)) x).length):=λx h=>bV (by grind);have t15:∀x:Nat,(x:Int)<(aE (aM s)).length->(bs (aE (aM s)) x:Int)+(aC (aE (aM s)) x).length=(bs (aE (aM s)) (x+1):Int):=λx h=>by rw[<-re (show x<(aE (aM s)).length by omega)];omega
  have t16:∀x i:Nat,¬(i:Int)<(aC (aE (aM s)) x).length->i<=(aC (aE (aM s)) x).length->rgO (bs (aE (aM s)) x) ((aC (aE (aM s)) x).length) i (oX s x)=oX s (x+1):=λx i h h2=>by rw[show i=(aC (aE (aM s)) x).length by omega];rfl
  have t17:∀x i:Nat,¬(i:Int)<(aC (aE (aM s)) x).length->i<=(aC (aE (aM s)) x).length->rgN x (bs (aE (aM s)) x) (aC (aE (aM s)) x).length i (nX s x)=nX s (x+1):=λx i h h2=>by rw[show i=(aC (aE (aM s)) x).length by omega];rfl
  have t18:∀x:Nat,¬(x:Int)<(aE (aM s)).length->x<=(aE (aM s)).length->oX s x=oB s:=λx h h2=>by rw[show x=(aE (aM s)).length by omega];rfl
  have t19:∀x:Nat,¬(x:Int)<(aE (aM s)).length->x<=(aE (aM s)).length->nX s x=nG s:=λx h h2=>by rw[show x=(aE (aM s)).length by omega];rfl
  have d0:∀x:Nat,(x:Int)<(dOf s).length->aW (dOf s) x∈dOf s:=λx h=>by rw[jB (show x<(dOf s).length by omega)];grind
  have d1:∀x:Nat,(x:Int)<(dOf s).length->(aW (dOf s) x).a∈vOf s:=λx h=>(dm _ (d0 x h)).1;have d2:∀x:Nat,(x:Int)<(dOf s).length->(aW (dOf s) x).b∈vOf s:=λx h=>(dm _ (d0 x h)).2;have d3:∀x:Nat,(x:Int)<(dOf s).length->ix (c6 (vOf s) (aW (dOf s) x).a:Int) (vOf s).length:=λx h=>fC (mr (d1 x h));have d4:∀x:Nat,(x:Int)<(dOf s).length->ix (c6 (vOf s) (aW (dOf s) x).b:Int) (vOf s).length:=λx h=>fC (mr (d2 x h));have dl2:∀x:Nat,(dgO (vOf s) (dOf s) x (oB s)).length=(vOf s).length:=λx=>(Gp _ _ _ x).trans (Pj s);have d5:∀x:Nat,(x:Int)<(dOf s).length->c6 (vOf s) (aW (dOf s) x).a<(dgO (vOf s) (dOf s) x (oB s)).length:=λx h=>by rw[dl2];exact mr (d1 x h)
  have d6:∀x a b:Nat,(x:Int)<(dOf s).length->c6 (vOf s) (aW (dOf s) x).b<(iu (dgO (vOf s) (dOf s) x (oB s)) a b).length:=λx a b h=>by rw[yC,dl2];exact mr (d2 x h)
  have d7:∀x c:Nat,∀z:Int,(x:Int)<(dOf s).length->((dgO (vOf s) (dOf s) x (oB s)).getD c []).length+[z].length<=1000000:=λx c z h=>by have:((dgO (vOf s) (dOf s) x (oB s)).getD c []).length<=13000:=dOB x (by omega) c;simp only[uP];omega
  have d8:∀x a b c:Nat,∀z:Int,(x:Int)<(dOf s).length->((iu (dgO (vOf s) (dOf s) x (oB s)) a b).getD c []).length+[z].length<=1000000:=λx a b c z h=>by have:((iu (dgO (vOf s) (dOf s) x (oB s)) a b).getD c []).length<=13001:=CM (dOB x (by omega)) a b c;simp only[uP];omega
  have pl:(pG s).length=(dOf s).length:=di ..;have d9:∀x:Nat,x<=(dOf s).length->(aU x (pG s)).length=x:=λx h=>by rw[mX];omega
  have d10:∀x:Nat,(x:Int)<(dOf s).length->aU x (pG s)++[(c6 (vOf s) (aW (dOf s) x).a,c6 (vOf s) (aW (dOf s) x).b)] =aU (x+1) (pG s):=λx h=>by rw[mc (show x<(pG s).length by omega)];unfold pG dgP;rw[kJ,jB (show x<(dOf s).length by omega)]
  have d11:∀x:Nat,¬(x:Int)<(dOf s).length->x<=(dOf s).length->dgO (vOf s) (dOf s) x (oB s)=oD s:=λx h h2=>by rw[show x=(dOf s).length by omega];rfl
  have d12:∀x:Nat,¬(x:Int)<(dOf s).length->x<=(dOf s).length->x=(pG s).length:=λx h h2=>by omega
  have d13:∀x:Nat,¬(x:Int)<(dOf s).length->aU x (pG s)=pG s:=λx h=>iV (by omega);have s0:∀x:Nat,(x:Int)<(vOf s).length->(stO (vOf s) x (oD s)).getD x [] =aj (oD s) x:=λx h=>by have:=yS (vOf s) (oD s) x x (by rw[yX];omega);rw[if_neg (Nat.lt_irrefl x)]at this;exact this
  have s1:∀x:Nat,(x:Int)<(vOf s).length->x<(stO (vOf s) x (oD s)).length:=λx h=>by rw[Bf,yX];omega
  have s2:∀x:Nat,(x:Int)<(vOf s).length->0<((stO (vOf s) x (oD s)).getD x []).length:=λx h=>by rw[s0 x h];exact(hg x (by omega)).1
  have s3:∀x:Nat,(x:Int)<(vOf s).length->((stO (vOf s) x (oD s)).getD x []).length<=1000000:=λx h=>by rw[s0 x h];have:=dOB _ (bZ _) x;grind
  have s4:∀x:Nat,(x:Int)<(vOf s).length->∀y∈(stO (vOf s) x (oD s)).getD x [],0<=y/\y.toNat<(vOf s).length:=λx h=>by rw[s0 x h];exact(hg x (by omega)).2.1
  have s5:∀x:Nat,(x:Int)<(vOf s).length->OrdOn (ltA (vOf s) x) ((stO (vOf s) x (oD s)).getD x []):=λx h=>by rw[s0 x h];exact(hg x (by omega)).2.2
  have s6:∀x:Nat,¬(x:Int)<(vOf s).length->x<=(vOf s).length->stO (vOf s) x (oD s)=oG s:=λx h h2=>by rw[show x=(vOf s).length by omega];rfl
  have w1:∀x:Nat,x<=(vOf s).length->aH ((x:Int)+1):=λx h=>bV (by omega);clear hB oXB oBB dOB rOB fl c1 V hR hg
  repeat' first|with_reducible apply br|with_reducible intro
  all_goals repeat with_reducible cases‹_/\_›
  all_goals first|assumption|rfl|omega|(unfold ix;omega)|(unfold aH;omega)|exact f3 _ ‹_› |exact t1 _ _ ‹_› ‹_› |exact t2 _ _ ‹_› ‹_› |exact t3 _ _ ‹_› ‹_› |exact t4 _ _ ‹_› ‹_› |exact t5 _ _ ‹_› ‹_› |exact t6 _ _ ‹_› ‹_› |exact t7 _ _ _ _ ‹_› ‹_› |exact t8 _ _ _ _ ‹_› ‹_› |exact t9 _ _ _ _ _ _ ‹_› ‹_› |exact t10 _ _ ‹_› ‹_› |exact t11 _ _ ‹_› ‹_› |exact t12 _ _ ‹_› |exact t13 _ _ ‹_› |exact t14 _ ‹_› |exact t15 _ ‹_› |exact t16 _ _ ‹_› ‹_› |exact t17 _ _ ‹_› ‹_› |exact t18 _ ‹_› ‹_› |exact t19 _ ‹_› ‹_› |exact d1 _ ‹_› |exact d2 _ ‹_› |exact d3 _ ‹_› |exact d4 _ ‹_› |exact d5 _ ‹_› |exact d6 _ _ _ ‹_› |exact d7 _ _ _ ‹_› |exact d8 _ _ _ _ _ ‹_› |exact(d9 _ ‹_›).symm|(rw[d9 _ ‹_›];simp;omega)|(rw[fM,d9 _ ‹_›];rfl)|exact d10 _ ‹_› |exact d11 _ ‹_› ‹_› |exact d12 _ ‹_› ‹_› |exact d13 _ ‹_› |exact s1 _ ‹_› |exact s2 _ ‹_› |exact s3 _ ‹_› |exact(s4 _ ‹_› _ ‹_›).1|exact(s4 _ ‹_› _ ‹_›).2|exact vb _ ‹_› |exact s5 _ ‹_› |grind)
noncomputable def RR:=SH.adk aDh
def iQ(v:List V)(L:List (List Int))(i j:Nat):Bool:=decide (0<=turn (aFG v i) (aFG v (io L i j (-1))) (aFG v (io L i j 1)))
structure ArOk(v:List V)(L:List (List Int))(i j:Nat):Prop where
 iL:i<L.length
 mem:(j:Int)∈aj L i
 rng:∀x∈aj L i,0<=x/\x.toNat<v.length
 len:(aj L i).length<=1000000
def ArOk.around{v:List V}{L:List (List Int)}{i j:Nat}(h:ArOk v L i j)(st:Int):((io L i j st:Nat):Int)∈aj L i/\io L i j st<v.length:=by
 unfold io;dsimp only;have h0:0<(aj L i).length:=JF h.mem;generalize ((fR (aj L i) (j:Int):Int)+st+(aj L i).length).toNat=k;have hm:cu (aj L i) (k % (aj L i).length)∈aj L i:=by rw[show cu (aj L i) (k % (aj L i).length)=_ from pC (bz _ h0)];exact nR _
 obtain⟨h1,h2⟩:=h.rng _ hm;grind
noncomputable def aEL:Con:=con (ac aGr (ac aN (a1 aN))) (λ(g,i,j)=>[g.1.length<=1000000,g.2.1.length<=g.1.length,(∀u∈g.1,bd 1000000000 u),ArOk g.1 g.2.1 i j]) (λ(g,i,j)=> .bool (iQ g.1 g.2.1 i j)
 )
def aDg:aEL.Okz 167:=ak RR (λ(_,_,_)=>[]) (λ(_,_,_)=>⟨_,rfl⟩) λ(g,i,j) hp=>aZ (aA (aFG g.1 i) λA=>aA (aj g.2.fst i) λB=>aA (aFG g.1 (io g.2.fst i j 1)) λD=>aA (aFG g.1 (io g.2.fst i j (-1))) λF=>g.fst.length<=1000000/\g.2.fst.length<=1000000/\i<g.2.fst.length/\(j:Int)∈aj g.2.fst i/\B.length<=1000000/\(∀x:Int,x∈aj g.2.fst i->0<=x)/\((-1:Int)=1\/(-1:Int)= -1)/\g.fst.length<=1000000/\g.2.fst.length<=1000000/\i<g.2.fst.length/\(j:Int)∈aj g.2.fst i/\B.length<=1000000/\(∀x:Int,x∈aj g.2.fst i->0<=x)/\((1:Int)=1\/(1:Int)= -1)/\ix (i:Int) g.1.length/\ix (io g.2.fst i j (-1):Int) g.1.length/\ix (io g.2.fst i j 1:Int) g.1.length/\bd 1000000000 A/\bd 1000000000 F/\bd 1000000000 D/\decide (0<=turn A F D)=iQ g.1 g.2.1 i j) (by kernel_rfl) (by
 change g.1.length<=1000000/\g.2.1.length<=g.1.length/\((∀u∈g.1,bd 1000000000 u))/\ArOk g.1 g.2.1 i j at hp;obtain⟨h1,h2,h3,h4⟩:=hp;have a1:=(h4.around (-1)).2;have a2:=(h4.around 1).2;have bN:∀i:Nat,i<g.1.length->bd 1000000000 (aFG g.1 i):=λi h=>h3 _ (dO h);have r:∀x∈aj g.2.1 i,0<=x:=λx hx=>(h4.rng x hx).1;have iL:=h4.iL;have iv:i<g.1.length:=by omega
 have l2:g.2.1.length<=1000000:=by omega
 exact⟨h1,l2,iL,h4.mem,h4.len,r,.inr rfl,h1,l2,iL,h4.mem,h4.len,r,.inl rfl,fC iv,fC a1,fC a2,bN _ iv,bN _ a1,bN _ a2,rfl⟩)
noncomputable def RQ:=RR.adk aDg
def vQ(l:List Int)(q:Int):List Int:=l.filter λy=> !(y==q)
def Ch(L:List (List Int))(i j:Nat):List (List Int):=(L.set j (vQ (aj L j) i)).set i (vQ (aj L i) j)
def stS(v:List V)(P:List (Nat×Nat)):Nat->List (List Int)->List (List Int)×List (Nat×Nat)
 |0,L=>(L,[])
 |k+1,L=>
  let r:=stS v P k L
  let p:=aa P k
  if iQ v r.1 p.1 p.2=true/\iQ v r.1 p.2 p.1=true then(Ch r.1 p.1 p.2,r.2)else(r.1,r.2++[p])
def sG(s:Shape)(k:Nat):List (List Int)×List (Nat×Nat):=stS (vOf s) (pG s) k (oG s)
def soG(s:Shape):List (List Int):=(sG s (pG s).length).1
def spG(s:Shape):List (Nat×Nat):=(sG s (pG s).length).2
def OB(v:List V)(P:List (Nat×Nat))(L:List (List Int)):∀k,(stS v P k L).1.length=L.length
 |0=>rfl
 |k+1=>by
  have:=OB v P L k;unfold stS;dsimp only;split
  .unfold Ch;grind
  .exact this
def yU(s:Shape)(k:Nat):(sG s k).1.length=(vOf s).length:=(OB _ _ _ k).trans (aBB s)
def Bx(v:List V)(P:List (Nat×Nat))(L:List (List Int)):∀k,(stS v P k L).2.length<=k
 |0=>bZ _
 |k+1=>by
  have:=Bx v P L k;unfold stS;grind
def OA(v:List V)(P:List (Nat×Nat))(L:List (List Int)):∀k,k<=P.length->∀p∈(stS v P k L).2,p∈P
 |0,_,p,hp=>(cq hp).elim
 |k+1,hk,p,hp=>by
  have ih:=OA v P L k (by omega);unfold stS at hp;dsimp only at hp;split at hp
  .exact ih p hp
  .rcases bl.1 hp with hp|hp
   .exact ih p hp
   .rw[bn.1 hp,o8 (by omega)];grind
def HB{s:Shape}{k:Nat}(h1:iQ (vOf s) (sG s k).1 (aa (pG s) k).1 (aa (pG s) k).2=true)(h2:iQ (vOf s) (sG s k).1 (aa (pG s) k).2 (aa (pG s) k).1=true):
 sG s (k+1)=(Ch (sG s k).1 (aa (pG s) k).1 (aa (pG s) k).2,(sG s k).2):=if_pos ⟨h1,h2⟩
def yp{s:Shape}{k:Nat}(h:iQ (vOf s) (sG s k).1 (aa (pG s) k).1 (aa (pG s) k).2=false\/iQ (vOf s) (sG s k).1 (aa (pG s) k).2 (aa (pG s) k).1=false):
  sG s (k+1)=((sG s k).1,(sG s k).2++[((aa (pG s) k).1,(aa (pG s) k).2)]):=if_neg λh2=>by
 rcases h with h|h
 .exact absurd (h.symm.trans h2.1) (by decide)
 .exact absurd (h.symm.trans h2.2) (by decide)
def Hv{s:Shape}(hv:bP s=true){p:Nat×Nat}(h:p∈pG s):p.1<(vOf s).length/\p.2<(vOf s).length:=by obtain⟨d,hd,rfl⟩:=bR.1 h;obtain⟨h1,h2⟩:=(vo hv).2 d hd;exact⟨mr h1,mr h2⟩
def rj(s:Shape):(pG s).length=(dOf s).length:=di ..
def SOk(s:Shape):Prop:=∀k,k<(pG s).length->ArOk (vOf s) (sG s k).1 (aa (pG s) k).1 (aa (pG s) k).2/\ArOk (vOf s) (sG s k).1 (aa (pG s) k).2 (aa (pG s) k).1/\(aa (pG s) k).2≠(aa (pG s) k).1
noncomputable def aFr:Con:=Ie (a1 aSh) (λs=>[Fit s,bP s=true,GOk s,SOk s]) (λs=> .tup [.ptr 60 0,.own 20000005 .P (spG s).length]) (λs=>[(60,some (.box 113 [.lst .V (vOf s),.owF 15000005 (vOf s).length,.own 18000005 .I (vOf s).length])),(15000005,some (.fam 111 3 .I (soG s) [])),(18000005,some (.row 3 .I (nG s))),(20000005,some (.row 69 .P (spG s)))])
def aDV:aFr.Okz 105:=PL (oO RQ.o) (st:=true) (raw:=uB) (λs=>[(10003,.mk Unit (λ_ _=>some ()) [60,20000005] bX (λ_=>[(4,.ptr 60 0),(6,.own 20000005 .P 0)]) (λ_=>[(60,.box 113 [.lst .V (vOf s),.owF 15000005 (vOf s).length,.own 18000005 .I (vOf s).length]),(20000005,.row 69 .P [])]) (λ_=>0) bX),
  lp 4 16 (pG s).length bX [20000005] (λk=>[(6,.own 20000005 .P (sG s k).2.length)]) (λk=>[(15000005,.fam 111 3 .I (sG s k).1 []),(20000005,.row 69 .P (sG s k).2),(0,.box 0 [.undef])])]
  ) λs hp=>aZ (aA (pG s) λA=>aA (vOf s) λB=>aA (0:Nat) λG=>aA ([] :List (Prod Nat Nat)) λO=>aA ([] :List Int) λP=>Fit s/\bP s=true/\GOk s/\(G=0/\vOf s=vOf s/\B.length=B.length/\B.length=B.length/\O=O)/\
 (∀y:Unit,(0=(0:Int)/\G=O.length/\oG s=oG s/\O=O/\G<=A.length)/\
  (∀x:Nat,aA (x+1) λC=>aA (sG s x) λD=>aA (sG s C) λE=>aA (x:Int) λF=>aA (aa A x) λH=>aA (H.1,H.2) λI=>aA (H.1:Int) λJ=>aA (H.2:Int) λK=>aA ((x+1:Nat):Int) λM=>aA (D.2++[I]).length λQ=>aA (kP D.1 H.1 P) λR=>aA (kP D.1 H.2 P) λS=>aA (H.1,SV.ownf 15000005 LT.I H.1 R.length) λT=>x<=A.length->(F<A.length->ix F A.length/\x<A.length/\ix 0 2/\ix 1 2/\B.length=D.1.length/\B.length=(nG s).length/\B.length<=1000000/\D.fst.length<=B.length/\(∀u:V,u∈vOf s->bd 1000000000 u)/\ArOk B D.fst H.1 H.2/\(iQ B D.fst H.1 H.2=true->ix 1 2/\ix 0 2/\B.length=D.1.length/\B.length=(nG s).length/\B.length<=1000000/\D.fst.length<=B.length/\(∀u:V,u∈vOf s->bd 1000000000 u)/\ArOk B D.fst H.2 H.1/\(iQ B D.fst H.2 H.1=true->ix 0 2/\ix 1 2/\ix J B.length/\H.1<D.1.length/\H.1<D.1.length/\R.length=R.length/\G<R.length/\R.length<=1000000/\ix J B.length/\H.1=H.1/\H.1<D.1.length/\ix K B.length/\H.2<D.1.length/\H.2≠T.fst/\H.2<D.1.length/\S.length=S.length/\G<S.length/\H.2≠T.fst/\S.length<=1000000/\ix K B.length/\H.2=H.2/\H.2<D.1.length/\aH (F+1)/\H.2<D.1.length/\(sm (λy=>(!y==J)) S).length=(sm (λy=>(!y==J)) S).length/\H.2≠T.fst/\H.1<(nU D.1 H.2 (sm (λy=>(!y==J)) S)).length/\(sm (λy=>(!y==K)) R).length=(sm (λy=>(!y==K)) R).length/\F+1=M/\D.2.length=E.2.length/\nU (nU D.1 H.2 (sm (λy=>(!y==J)) S)) H.1 (sm (λy=>(!y==K)) R)=E.1/\D.2=E.2/\x+1<=A.length/\A.length-C<A.length-x)/\
     (iQ B D.fst H.2 H.1=false->D.2.length=D.2.length/\D.2.length+[I].length<=1000000/\aH (F+1)/\F+1=M/\Q=E.2.length/\D.1=E.1/\D.2++[I] =E.2/\x+1<=A.length/\A.length-C<A.length-x))/\
    (iQ B D.fst H.1 H.2=false->D.2.length=D.2.length/\D.2.length+[I].length<=1000000/\aH (F+1)/\F+1=M/\Q=E.2.length/\D.1=E.1/\D.2++[I] =E.2/\x+1<=A.length/\A.length-C<A.length-x))/\
   (¬F<A.length->D.2.length=(spG s).length/\vOf s=vOf s/\B.length=B.length/\B.length=B.length/\D.1=soG s/\nG s=nG s/\D.2=spG s)))) (by kernel_rfl) (by
  change Fit s/\bP s=true/\GOk s/\SOk s at hp;obtain⟨hf,hv,hg,hs⟩:=hp;have n80:(vOf s).length<=80:=mw s;have pl:(pG s).length<=6400:=by rw[rj];exact(vo hv).1
  have vb:∀u∈vOf s,bd 1000000000 u:=λu hu=>by obtain⟨i,hi,rfl⟩:=eL.1 hu;exact pF hi (by decide)
  have nl:(nG s).length=(vOf s).length:=HI s _;have gl:=yU s;have p1:∀x:Nat,(x:Int)<(pG s).length->(aa (pG s) x).1<(vOf s).length/\(aa (pG s) x).2<(vOf s).length:=λx h=>Hv hv (by rw[o8 (by omega)];grind);have hS:∀x:Nat,(x:Int)<(pG s).length->_:=λx h=>hs x (by omega);have q1:∀x:Nat,(x:Int)<(pG s).length->0<(kP (sG s x).1 (aa (pG s) x).1 ([] :List Int)).length:=λx h=>JF (hS x h).1.mem;have q2:∀x:Nat,(x:Int)<(pG s).length->0<(kP (sG s x).1 (aa (pG s) x).2 ([] :List Int)).length:=λx h=>JF (hS x h).2.1.mem;have q3:∀x:Nat,(x:Int)<(pG s).length->(kP (sG s x).1 (aa (pG s) x).1 ([] :List Int)).length<=1000000:=λx h=>(hS x h).1.len;have q4:∀x:Nat,(x:Int)<(pG s).length->(kP (sG s x).1 (aa (pG s) x).2 ([] :List Int)).length<=1000000:=λx h=>(hS x h).2.1.len;have q5:∀x:Nat,x<=(pG s).length->(sG s x).2.length<=6400:=λx h=>by have:(sG s x).2.length<=x:=Bx _ _ _ x;omega
  have a1:∀x:Nat,(vOf s).length=(sG s x).1.length:=λx=>(gl x).symm;have a2:∀x:Nat,(sG s x).1.length<=(vOf s).length:=λx=>Di (gl x);have a3:∀x:Nat,(x:Int)<(pG s).length->ArOk (vOf s) (sG s x).1 (aa (pG s) x).1 (aa (pG s) x).2:=λx h=>(hS x h).1;have a4:∀x:Nat,(x:Int)<(pG s).length->ArOk (vOf s) (sG s x).1 (aa (pG s) x).2 (aa (pG s) x).1:=λx h=>(hS x h).2.1;have a5:∀x:Nat,(x:Int)<(pG s).length->ix ((aa (pG s) x).1:Int) (vOf s).length:=λx h=>fC (p1 x h).1;have a6:∀x:Nat,(x:Int)<(pG s).length->ix ((aa (pG s) x).2:Int) (vOf s).length:=λx h=>fC (p1 x h).2;have a7:∀x:Nat,(x:Int)<(pG s).length->(aa (pG s) x).1<(sG s x).1.length:=λx h=>by grind
  have a8:∀x:Nat,(x:Int)<(pG s).length->(aa (pG s) x).2<(sG s x).1.length:=λx h=>by grind
  have a9:∀x:Nat,(x:Int)<(pG s).length->(aa (pG s) x).2≠(aa (pG s) x).1:=λx h=>(hS x h).2.2;have b1:∀x j:Nat,∀l:List Int,(x:Int)<(pG s).length->(aa (pG s) x).1<((sG s x).1.set j l).length:=λx j l h=>by grind
  have b2:∀x:Nat,iQ (vOf s) (sG s x).1 (aa (pG s) x).1 (aa (pG s) x).2=true->iQ (vOf s) (sG s x).1 (aa (pG s) x).2 (aa (pG s) x).1=true->nU (nU (sG s x).1 (aa (pG s) x).2 (sm (λy=>(!y==((aa (pG s) x).1:Int))) (kP (sG s x).1 (aa (pG s) x).2 ([] :List Int)))) (aa (pG s) x).1 (sm (λy=>(!y==((aa (pG s) x).2:Int))) (kP (sG s x).1 (aa (pG s) x).1 ([] :List Int)))=(sG s (x+1)).1:=λx h h2=>by rw[HB h h2];rfl
  have b3:∀x:Nat,iQ (vOf s) (sG s x).1 (aa (pG s) x).1 (aa (pG s) x).2=true->iQ (vOf s) (sG s x).1 (aa (pG s) x).2 (aa (pG s) x).1=true->(sG s x).2=(sG s (x+1)).2:=λx h h2=>by rw[HB h h2]
  have b4:∀x:Nat,iQ (vOf s) (sG s x).1 (aa (pG s) x).1 (aa (pG s) x).2=false->(sG s x).1=(sG s (x+1)).1:=λx h=>by rw[yp (.inl h)]
  have b5:∀x:Nat,iQ (vOf s) (sG s x).1 (aa (pG s) x).2 (aa (pG s) x).1=false->(sG s x).1=(sG s (x+1)).1:=λx h=>by rw[yp (.inr h)]
  have b6:∀x:Nat,iQ (vOf s) (sG s x).1 (aa (pG s) x).1 (aa (pG s) x).2=false->(sG s x).2++[((aa (pG s) x).1,(aa (pG s) x).2)] =(sG s (x+1)).2:=λx h=>by rw[yp (.inl h)]
  have b7:∀x:Nat,iQ (vOf s) (sG s x).1 (aa (pG s) x).2 (aa (pG s) x).1=false->(sG s x).2++[((aa (pG s) x).1,(aa (pG s) x).2)] =(sG s (x+1)).2:=λx h=>by rw[yp (.inr h)]
  have b8:∀x:Nat,∀z:Nat×Nat,x<=(pG s).length->(sG s x).2.length+[z].length<=1000000:=λx z h=>by grind
  have b9:∀x:Nat,¬(x:Int)<(pG s).length->x<=(pG s).length->sG s x=sG s (pG s).length:=λx h h2=>by grind
  have c9:∀x:Nat,x<=(pG s).length->aH ((x:Int)+1):=λx h=>bV (by omega);clear hS hs gl
  with_reducible ((repeat' first|apply br|intro);all_goals repeat cases‹_/\_›)
  all_goals first|(with_reducible first|assumption|rfl|exact a1 _|exact a2 _|exact vb _ ‹_› |exact a3 _ ‹_› |exact a4 _ ‹_› |exact a5 _ ‹_› |exact a6 _ ‹_› |exact a7 _ ‹_› |exact a8 _ ‹_› |exact a9 _ ‹_› |exact q1 _ ‹_› |exact q2 _ ‹_› |exact q3 _ ‹_› |exact q4 _ ‹_› |exact b1 _ _ _ ‹_› |exact b2 _ ‹_› ‹_› |exact b3 _ ‹_› ‹_› |exact congrArg eQ (b3 _ ‹_› ‹_›)|exact b4 _ ‹_› |exact b5 _ ‹_› |exact b6 _ ‹_› |exact b7 _ ‹_› |exact congrArg eQ (b6 _ ‹_›)|exact congrArg eQ (b7 _ ‹_›)|exact b8 _ _ ‹_›)|omega|(unfold ix;omega)|(unfold aH;omega)|exact rfl|exact congrArg Prod.fst (b9 _ ‹_› ‹_›)|exact congrArg DP (b9 _ ‹_› ‹_›)|exact congrArg (λy=>y.2.length) (b9 _ ‹_› ‹_›))
noncomputable def aCF:=RQ.adk aDV
def eV(s:Shape):Int:=if bP s=true then 0 else 11
noncomputable def SF:=aCF.adk Si
def vz(r:List aFH)(k:Nat):Bool:=decide (turn (aFG r ((k+r.length-1) % r.length)) (aFG r k) (aFG r ((k+1) % r.length))≠0)
def gm(r:List aFH)(k:Nat):List aFH:=((bM k).filter (vz r)).map (aFG r)
def de(r:List aFH):List aFH:=gm r r.length
def Ah(r:List aFH)(k:Nat):gm r (k+1)=if vz r k=true then gm r k++[aFG r k]else gm r k:=by unfold gm;rw[List.range_succ,List.filter_append,dM];grind
def BX(r:List aFH):∀k,(gm r k).length<=k
 |0=>bZ _
 |k+1=>by
  have:=BX r k;rw[Ah];grind
noncomputable def aFq:Con:=con (a1 (aL .V)) (λr=>[r.length<=1000,(∀u∈r,bd 1000000000 u),0<(de r).length]) (λr=> .lst .V (bw (de r)))
def aDU:aFq.Okz 106:=ak SF (λr=>[lp 4 12 r.length bX [40] (λk=>[(3,.own 40 .V (gm r k).length)]) (λk=>[(40,.row 44 .V (gm r k))])]
  ) (λ_=>⟨_,rfl⟩) λr hp=>aZ (aA (0:Nat) λC=>aA (r.length:Int) λK=>(0=(0:Int)/\(gm r 0).length=0/\gm r 0=([] :List aFH)/\C<=r.length)/\
 (∀x:Nat,aA (x+1) λA=>aA (x:Int) λB=>aA (gm r x) λD=>aA (aFG r x) λE=>aA (aFG r (A % r.length)) λG=>aA (aFG D (dP D)) λI=>aA (db 0 D) λJ=>aA (B+r.length-1) λL=>aA (cZ L K) λM=>aA (gm r A).length λN=>aA (aFG r M.toNat) λO=>aA ((x+1:Nat):Int) λP=>x<=r.length->(B<r.length->ix B r.length/\aH (B+r.length)/\aH L/\K≠0/\ix M r.length/\aH (B+1)/\K≠0/\ix ((A % r.length:Nat):Int) r.length/\bd 1000000000 O/\bd 1000000000 E/\bd 1000000000 G/\(¬turn O E G=0->D.length=D.length/\D.length+[E].length<=1000000/\aH (B+1)/\B+1=P/\(gm r x++[E]).length=N/\gm r x++[E] =gm r A/\x+1<=r.length/\r.length-A<r.length-x)/\
   (¬(¬turn O E G=0)->aH (B+1)/\B+1=P/\D.length=N/\gm r x=gm r A/\x+1<=r.length/\r.length-A<r.length-x))/\
  (¬B<r.length->D.length=D.length/\C<D.length/\D.length<=1000/\D.length=D.length/\D.length<=1000/\(0<=fI (λx_1=>decide (I=x_1)) D/\fI (λx_1=>decide (I=x_1)) D<=D.length)/\(fI (λx_1=>decide (I=x_1)) D).toNat+(D.length-(fI (λx_1=>decide (I=x_1)) D).toNat)<=D.length/\C<(aU (D.length-(fI (λx_1=>decide (I=x_1)) D).toNat) (db (fI (λx_1=>decide (I=x_1)) D).toNat D)).length/\(aU (D.length-(fI (λx_1=>decide (I=x_1)) D).toNat) (db (fI (λx_1=>decide (I=x_1)) D).toNat D)).length<=1000/\(0<=fI (λx_1=>decide (I=x_1)) D/\fI (λx_1=>decide (I=x_1)) D<=D.length)/\(aU (D.length-(fI (λx_1=>decide (I=x_1)) D).toNat) (db (fI (λx_1=>decide (I=x_1)) D).toNat D)).length=(aU (D.length-(fI (λx_1=>decide (I=x_1)) D).toNat) (db (fI (λx_1=>decide (I=x_1)) D).toNat D)).length/\0+(fI (λx_1=>decide (I=x_1)) D).toNat<=D.length/\(aU (D.length-(fI (λx_1=>decide (I=x_1)) D).toNat) (db (fI (λx_1=>decide (I=x_1)) D).toNat D)).length+(aU (fI (λx_1=>decide (I=x_1)) D).toNat J).length<=1000000/\(aU (D.length-(fI (λx_1=>decide (I=x_1)) D).toNat) (db (fI (λx_1=>decide (I=x_1)) D).toNat D)++aU (fI (λx_1=>decide (I=x_1)) D).toNat J).length=(aU (D.length-(fI (λx_1=>decide (I=x_1)) D).toNat) (db (fI (λx_1=>decide (I=x_1)) D).toNat D)++aU (fI (λx_1=>decide (I=x_1)) D).toNat J).length/\aU (D.length-(fI (λx_1=>decide (I=x_1)) D).toNat) (db (fI (λx_1=>decide (I=x_1)) D).toNat D)++aU (fI (λx_1=>decide (I=x_1)) D).toNat J=bw (de r)))) (by kernel_rfl) (by
  change r.length<=1000/\((∀u∈r,bd 1000000000 u))/\0<(de r).length at hp;obtain⟨hl,hb,hc⟩:=hp;have bN:∀i:Nat,i<r.length->bd 1000000000 (aFG r i):=λi h=>hb _ (dO h);have tm:∀x:Nat,(x:Int)<r.length->cZ ((x:Int)+r.length-1) (r.length:Int)=(((x+r.length-1) % r.length:Nat):Int):=λx h=>by grind
  have lt:∀x:Nat,(x:Int)<r.length->(x+r.length-1) % r.length<r.length:=λx h=>bz _ (by omega);have lt2:∀x:Nat,(x:Int)<r.length->(x+1) % r.length<r.length:=λx h=>bz _ (by omega);have f1:∀x:Nat,(x:Int)<r.length->aH ((x:Int)+r.length):=λx h=>bV (by omega);have f2:∀x:Nat,(x:Int)<r.length->aH ((x:Int)+r.length-1):=λx h=>bV (by omega);have f3:∀x:Nat,(x:Int)<r.length->(r.length:Int)≠0:=λx h=>by omega
  have f4:∀x:Nat,(x:Int)<r.length->ix (cZ ((x:Int)+r.length-1) (r.length:Int)) r.length:=λx h=>by rw[tm x h];exact fC (lt x h)
  have f5:∀x:Nat,(x:Int)<r.length->aH ((x:Int)+1):=λx h=>bV (by omega);have f6:∀x:Nat,(x:Int)<r.length->ix (((x+1) % r.length:Nat):Int) r.length:=λx h=>fC (lt2 x h);have f7:∀x:Nat,(x:Int)<r.length->bd 1000000000 (aFG r (cZ ((x:Int)+r.length-1) (r.length:Int)).toNat):=λx h=>by rw[tm x h];exact bN _ (lt x h)
  have f8:∀x:Nat,(x:Int)<r.length->bd 1000000000 (aFG r x):=λx h=>bN _ (by omega);have f9:∀x:Nat,(x:Int)<r.length->bd 1000000000 (aFG r ((x+1) % r.length)):=λx h=>bN _ (lt2 x h);have f10:∀x:Nat,(x:Int)<r.length->¬turn (aFG r (cZ ((x:Int)+r.length-1) (r.length:Int)).toNat) (aFG r x) (aFG r ((x+1) % r.length))=0->gm r x++[aFG r x] =gm r (x+1):=λx h h2=>by rw[tm x h,jf]at h2;rw[Ah,if_pos (show vz r x=true from decide_eq_true h2)]
  have f11:∀x:Nat,(x:Int)<r.length->¬¬turn (aFG r (cZ ((x:Int)+r.length-1) (r.length:Int)).toNat) (aFG r x) (aFG r ((x+1) % r.length))=0->gm r x=gm r (x+1):=λx h h2=>by rw[tm x h,jf]at h2;rw[Ah,if_neg (show¬vz r x=true from λh3=>h2 (of_decide_eq_true h3))]
  have f12:∀x:Nat,∀z:aFH,x<=r.length->(gm r x).length+[z].length<=1000000:=λx z h=>by have:=BX r x;simp only[uP];omega
  have g0:∀x:Nat,¬(x:Int)<r.length->x<=r.length->gm r x=de r:=λx h h2=>by rw[show x=r.length by omega];rfl
  have g1:(de r).length<=1000:=by have:=BX r r.length;have h:(de r).length=(gm r r.length).length:=rfl;omega
  have hlt:=nV hc;have hf:fI (λx=>decide (aFG (de r) (dP (de r))=x)) (de r)=(dP (de r):Int):=by
   symm;exact qm (t:= .V) hlt (decide_eq_true rfl) λj hj=>decide_eq_false λe=>by have:=Dr (de r) (de r).length j hj;rw[show dH (de r) (de r).length=dP (de r)from rfl,e]at this;exact absurd ((E1 (aFG (de r) j)).symm.trans this) (by decide)
  refine⟨⟨rfl,rfl,rfl,kK _⟩,λx hx=>⟨?_,λh=> ?_⟩⟩
  .repeat' first|with_reducible apply br|with_reducible intro
   all_goals repeat with_reducible cases‹_/\_›
   all_goals first|with_reducible assumption|with_reducible rfl|with_reducible exact f1 _ ‹_› |with_reducible exact f2 _ ‹_› |with_reducible exact f3 _ ‹_› |with_reducible exact f4 _ ‹_› |with_reducible exact f5 _ ‹_› |with_reducible exact f6 _ ‹_› |with_reducible exact f7 _ ‹_› |with_reducible exact f8 _ ‹_› |with_reducible exact f9 _ ‹_› |with_reducible exact f10 _ ‹_› ‹_› |with_reducible exact f11 _ ‹_› ‹_› |with_reducible exact congrArg eQ (f10 _ ‹_› ‹_›)|with_reducible exact congrArg eQ (f11 _ ‹_› ‹_›)|with_reducible exact f12 _ _ ‹_› |omega|(unfold ix;omega)|(unfold aH;omega)
  .rw[g0 x h hx,hf,jf];unfold bw;generalize dP (de r)=k at hlt|-;have e1:aU ((de r).length-k) (db k (de r))=db k (de r):=iV (by grind);have e2:aU k (db 0 (de r))=aU k (de r):=rfl;have e3:(db k (de r)).length=(de r).length-k:=List.length_drop ..;have e4:(aU k (de r)).length<=(de r).length:=by rw[mX];omega
   rw[e1,e2];refine⟨rfl,hc,g1,rfl,g1,⟨by omega,by omega⟩,by omega,by omega,by omega,⟨by omega,by omega⟩,rfl,by omega,by omega,rfl,rfl⟩)
noncomputable def SI:=SF.adk aDU
def nxP(s:Shape):List (Nat×Nat):=(bM (vOf s).length).map λi=>(i,(cu (nG s) i).toNat)
def jG(p:Nat×Nat):List (Nat×Nat):=[p,(p.2,p.1)]
def hsG(s:Shape):List (Nat×Nat):=nxP s++(spG s).flatMap jG
def nxH(L:List (List Int))(h:Nat×Nat):Nat×Nat:=(h.2,io L h.2 h.1 (-1))
def trc(v:List aFH)(L:List (List Int)):Nat->List (Nat×Nat)->Nat×Nat->List aFH->List (Nat×Nat)×List aFH
 |0,S,_,r=>(S,r)
 |f+1,S,h,r=>if h∈S then(S,r)else trc v L f (S++[h]) (nxH L h) (r++[aFG v h.1])
def trU(v:List aFH):Nat:=v.length*v.length+1
def pcs(v:List aFH)(L:List (List Int))(H:List (Nat×Nat)):Nat->List (Nat×Nat)×List aD
 |0=>([],[])
 |k+1=>((trc v L (trU v) (pcs v L H k).1 (aa H k) []).1,if 0<(trc v L (trU v) (pcs v L H k).1 (aa H k) []).2.length then(pcs v L H k).2++[bw (de (trc v L (trU v) (pcs v L H k).1 (aa H k) []).2)]else(pcs v L H k).2)
def pcK(s:Shape)(k:Nat):List (Nat×Nat)×List aD:=pcs (vOf s) (soG s) (hsG s) k
def pcG(s:Shape):List aD:=if bP s=true then cV (pcK s (hsG s).length).2 else []
def pj(s:Shape):Prop:=(∀i j:Nat,(j:Int)∈aj (soG s) i->ArOk (vOf s) (soG s) i j/\ArOk (vOf s) (soG s) j i)/\(∀h∈hsG s,ArOk (vOf s) (soG s) h.2 h.1)/\(∀i,i<(vOf s).length->0<=cu (nG s) i)/\
 ∀k,k<(hsG s).length->0<(trc (vOf s) (soG s) (trU (vOf s)) (pcK s k).1 (aa (hsG s) k) []).2.length->(trc (vOf s) (soG s) (trU (vOf s)) (pcK s k).1 (aa (hsG s) k) []).2.length<=1000/\0<(de (trc (vOf s) (soG s) (trU (vOf s)) (pcK s k).1 (aa (hsG s) k) []).2).length
abbrev TrY:=List (Nat×Nat)×(Nat×Nat)×List aFH
structure TrOk(v:List aFH)(L:List (List Int))(S0:List (Nat×Nat))(h0:Nat×Nat)(y:TrY):Prop where
 le:S0.length<=y.1.length
 run:trc v L (trU v-(y.1.length-S0.length)) y.1 y.2.1 y.2.2=trc v L (trU v) S0 h0 []
 nd:y.1.Nodup
 rng:∀p∈y.1,p.1<v.length/\p.2<v.length
 at_:ArOk v L y.2.1.2 y.2.1.1
 len:y.2.2.length<=y.1.length
 pts:∀u∈y.2.2,bd 1000000000 u
def BO:∀(m:Nat) (l:List Nat),l.Nodup->(∀x∈l,x<m)->l.length<=m
 |0,l,_,h=>by
  cases l with
  |nil=>simp
  |cons x l=>exact absurd (h x cI) (by omega)
 |m+1,l,hn,h=>by
  have h1:=BO m (l.erase m) (hn.erase m) λx hx=>by grind
  grind
def aAh{n:Nat}{S:List (Nat×Nat)}(hn:S.Nodup)(h:∀p∈S,p.1<n/\p.2<n):S.length<=n*n:=by
 have dv:∀p:Nat×Nat,p.2<n->(p.2+p.1*n)/n=p.1/\(p.2+p.1*n) % n=p.2:=λp hp=>by rw[Nat.add_mul_div_right _ _ (by omega),Nat.add_mul_mod_self_right,Nat.div_eq_of_lt hp,Nat.mod_eq_of_lt hp];simp
 have h1:=BO (n*n) (S.map λp=>p.2+p.1*n) (by
  unfold sn;rw[km];refine List.Pairwise.imp_of_mem (λ{p q} hp hq hne e=>hne ?_) hn;grind) λx hx=>by
  obtain⟨p,hp,rfl⟩:=bR.1 hx;obtain⟨h2,h3⟩:=h p hp;have:(p.1+1)*n<=n*n:=Nat.mul_le_mul_right n h2;grind
 grind
def PT{v:List aFH}{L:List (List Int)}{f:Nat}{S:List (Nat×Nat)}{h:Nat×Nat}{r:List aFH}(hS:h∈S):trc v L f S h r=(S,r):=by
 cases f with
 |zero=>rfl
 |succ f=>exact if_pos hS
def Ns{v:List aFH}{L:List (List Int)}{f:Nat}{S:List (Nat×Nat)}{h:Nat×Nat}{r:List aFH}(hS:h∉S):trc v L (f+1) S h r=trc v L f (S++[h]) (nxH L h) (r++[aFG v h.1]):=if_neg hS
def TrOk.start{v:List aFH}{L:List (List Int)}{S0:List (Nat×Nat)}{h0:Nat×Nat}(h1:S0.Nodup)(h2:∀p∈S0,p.1<v.length/\p.2<v.length)(h3:ArOk v L h0.2 h0.1):TrOk v L S0 h0 (S0,h0,[]) where
 le:=bZ _
 run:=by grind
 nd:=h1
 rng:=h2
 at_:=h3
 len:=kK _
 pts:=λu hu=>(cq hu).elim
def TrOk.lt{v:List aFH}{L:List (List Int)}{S0:List (Nat×Nat)}{h0:Nat×Nat}{y:TrY}(T:TrOk v L S0 h0 y):y.1.length<trU v:=by have:=aAh T.nd T.rng;unfold trU;omega
def TrOk.step{v:List aFH}{L:List (List Int)}{S0:List (Nat×Nat)}{h0:Nat×Nat}{y:TrY}(T:TrOk v L S0 h0 y)(hsym:∀i j:Nat,(j:Int)∈aj L i->ArOk v L i j/\ArOk v L j i)(hL:L.length=v.length)(hb:∀u∈v,bd 1000000000 u)(hn:y.2.1∉y.1):
  TrOk v L S0 h0 (lL y.1 y.2.1,nxH L y.2.1,y.2.2++[aFG v y.2.1.1]):=by
 obtain⟨S,h,r⟩:=y;have hlt:=T.lt;have hle:=T.le;have e:lL S h=S++[h] :=if_neg hn;have hA:ArOk v L h.2 h.1:=T.at_;have h1:=(hsym _ _ (hA.around (-1)).1).2;have h2:h.1<v.length:=by have:=(hA.rng _ hA.mem).2;omega
 have h3:h.2<v.length:=by have:=hA.iL;omega
 dsimp only at hlt hle|-;rw[e];refine⟨by grind,?_,?_,?_,h1,?_,?_⟩
 .rw[<-T.run];dsimp only;rw[show trU v-(S.length-S0.length)=(trU v-((S++[h]).length-S0.length))+1 by grind];exact(Ns hn).symm
 .rw[lv];exact⟨T.nd,by simp,λa ha b hb e=>hn (by grind)⟩
 .intro p hp;rcases bl.1 hp with hp|hp
  .exact T.rng p hp
  grind
 .have:=T.len;grind
 .intro u hu;rcases bl.1 hu with hu|hu
  .exact T.pts u hu
  .rw[bn.1 hu];exact hb _ (dO h2)
def TrOk.stop{v:List aFH}{L:List (List Int)}{S0:List (Nat×Nat)}{h0:Nat×Nat}{y:TrY}(T:TrOk v L S0 h0 y)(hn:y.2.1∈y.1):trc v L (trU v) S0 h0 [] =(y.1,y.2.2):=by rw[<-T.run];exact PT hn
def vH(s:Shape)(k:Nat):pcK s (k+1)=((trc (vOf s) (soG s) (trU (vOf s)) (pcK s k).1 (aa (hsG s) k) []).1,if 0<(trc (vOf s) (soG s) (trU (vOf s)) (pcK s k).1 (aa (hsG s) k) []).2.length then(pcK s k).2++[bw (de (trc (vOf s) (soG s) (trU (vOf s)) (pcK s k).1 (aa (hsG s) k) []).2)]else(pcK s k).2):=rfl
def aAg{s:Shape}{k:Nat}{y:TrY}(T:TrOk (vOf s) (soG s) (pcK s k).1 (aa (hsG s) k) y)(hm:y.2.1∈y.1)(h:0<y.2.2.length):pcK s (k+1)=(y.1,(pcK s k).2++[bw (de y.2.2)]):=by rw[vH,T.stop hm];grind
def aBw{s:Shape}{k:Nat}{y:TrY}(T:TrOk (vOf s) (soG s) (pcK s k).1 (aa (hsG s) k) y)(hm:y.2.1∈y.1)(h:¬0<y.2.2.length):pcK s (k+1)=(y.1,(pcK s k).2):=by rw[vH,T.stop hm];grind
def GZ(s:Shape):∀k,(pcK s k).2.length<=k
 |0=>bZ _
 |k+1=>by
  have:=GZ s k;rw[vH];grind
def GY{s:Shape}(hp:pj s):∀k,k<=(hsG s).length->∀r∈(pcK s k).2,r.length<=1000
 |0,_,r,hr=>(cq hr).elim
 |k+1,hk,r,hr=>by
  have ih:=GY hp k (by omega);rw[vH]at hr;dsimp only at hr;split at hr
  .rename_i h;rcases bl.1 hr with hr|hr
   .exact ih r hr
   .rw[bn.1 hr,jg];have h1:=(hp.2.2.2 k (by omega) h).1;have h2:=BX (trc (vOf s) (soG s) (trU (vOf s)) (pcK s k).1 (aa (hsG s) k) []).2 (trc (vOf s) (soG s) (trU (vOf s)) (pcK s k).1 (aa (hsG s) k) []).2.length;unfold de;omega
  grind
def Oh(s:Shape):(nxP s).length=(vOf s).length:=by unfold nxP;grind
def GI:∀l:List (Nat×Nat),(l.flatMap jG).length=2*l.length
 |[] =>rfl
 |p::l=>by rw[ff,fM,GI l,iE];show 2+_=_;omega
def O7(s:Shape):(hsG s).length=(vOf s).length+2*(spG s).length:=by unfold hsG;rw[fM,Oh,GI]
def pcS(s:Shape)(k:Nat):List (Nat×Nat):=(pcK s k).1
def pcR(s:Shape)(k:Nat):List aD:=(pcK s k).2
noncomputable def c48:Con:=con (a1 aSh) (λs=>[Fit s,(bP s=true->GOk s/\SOk s/\pj s)]) (λs=> .tup [.lst .R (pcG s),.iqz (eV s)])
def k48:c48.Okz 43:=ak SI (λs=>[lp 6 30 (vOf s).length bX [40] (λk=>[(6,.own 40 .P k)]) (λk=>[(40,.row 69 .P ((nxP s).take k))]) λk=>[jU 8 [(7,.iqz (k:Int)),(8,.iqz ((cu (nG s) k).toNat:Nat))]],
  lp 11 44 (spG s).length bX [40] (λk=>[(6,.own 40 .P ((vOf s).length+2*k))]) (λk=>[(40,.row 69 .P (nxP s++((spG s).take k).flatMap jG))]),
  lp 18 61 (hsG s).length (λk=>[(pcS s k).Nodup,∀p∈(pcS s k),p.1<(vOf s).length/\p.2<(vOf s).length]) [60] (λk=>[(12,.own 60 .R (pcR s k).length)]) (λk=>[(60,.row 23 .R (pcR s k)),(46,.mp (pcS s k))]) λk=>
  [(22,.mk TrY (λF L=>match F.at 16,L.at 46 with
  | .ptr b 0,some (.mp ks)=>(match L.at b with
  |some (.box _ [.int _ i,.int _ j])=>some (ks,(i.toNat,j.toNat),match F.at 15 with| .own t _ _=>(match L.at t with|some (.row _ .V r)=>r|_=>[])|_=>[])
  |_=>none)
  |_,_=>none) [68,70] (λy=>[TrOk (vOf s) (soG s) (pcS s k) (aa (hsG s) k) y]) (λy=>[(15,.own 70 .V y.2.2.length),(16,.ptr 68 0),(12,.own 60 .R (pcR s k).length)])
  (λy=>[(68,.box 69 [.iqz (y.2.1.1:Nat),.iqz (y.2.1.2:Nat)]),(70,.row 44 .V y.2.2),(46,.mp y.1)]) (λy=>trU (vOf s)-y.1.length) λ_=>[])]]
  ) (λ_=>⟨_,rfl⟩) λs hp=>aZ (aA (nG s) λA=>aA (vOf s) λB=>aA (spG s) λC=>aA (soG s) λD=>aA (hsG s) λE=>aA (nxP s) λF=>aA (0:Nat) λI=>aA (0:Int) λJ=>aA (!bP s) λY=>aA ([] :List aFH) λb=>aA ([] :List (List aFH)) λi=>aA ([] :List (Prod Nat Nat)) λj=>Fit s/\(Y=true->pcG s=i/\11=eV s)/\
 (Y=false->Fit s/\bP s=true/\GOk s/\SOk s/\(0=J/\I=0/\aU 0 F=j/\I<=B.length)/\
  (∀x:Nat,aA (x:Int) λH=>aA (x,(cu A x).toNat) λT=>aA (aU x F) λW=>x<=B.length->(H<B.length->(ix H B.length/\x<A.length/\H=x/\cu A x=(cu A x).toNat)/\
    (∀y:Unit,x=W.length/\W.length+[T].length<=1000000/\aH (H+1)/\H+1=((x+1:Nat):Int)/\(aU x F++[T]).length=x+1/\aU x F++[T] =aU (x+1) F/\x+1<=B.length/\B.length-(x+1)<B.length-x))/\
   (¬H<B.length->(0=J/\x=B.length+2*0/\aU x F=nxP s++kn jG (aU 0 C)/\I<=C.length)/\
    (∀x_1:Nat,aA (x_1+1) λK=>aA (x_1:Int) λO=>aA (aa C x_1) λQ=>aA (Q.1,Q.2) λR=>aA (Q.2,Q.1) λS=>aA (aU x_1 C) λa=>aA (B.length+2*x_1:Nat) λk=>aA (nxP s++kn jG a) λl=>x_1<=C.length->(O<C.length->ix O C.length/\x_1<C.length/\ix 1 2/\ix 0 2/\B.length+2*x_1=l.length/\l.length+[R,S].length<=1000000/\aH (O+1)/\O+1=((x_1+1:Nat):Int)/\(nxP s++kn jG a++[R,S]).length=B.length+2*K/\nxP s++kn jG a++[R,S] =nxP s++kn jG (aU K C)/\x_1+1<=C.length/\C.length-K<C.length-x_1)/\
     (¬O<C.length->(0=J/\(pcR s 0).length=0/\pcR s 0=i/\j=pcS s 0/\I<=E.length/\sn (pcS s 0)/\(∀p:Prod Nat Nat,p∈pcS s 0->p.1<B.length/\p.2<B.length))/\
      (∀x_2:Nat,aA (x_2+1) λG=>aA (pcR s x_2) λM=>aA (x_2:Int) λN=>aA (pcS s x_2) λP=>aA (aa E x_2) λU=>aA (x_2+1:Nat) λX=>aA (pcR s G).length λZ=>aA (pcR s x_2,true) λd=>aA (aa l x_2) λm=>x_2<=E.length/\sn P/\(∀p:Prod Nat Nat,p∈pcS s x_2->p.1<B.length/\p.2<B.length)->(N<(k:Int)->ix N (B.length+2*x_1)/\x_2<l.length/\(b.length=0/\M.length=M.length/\(m.1:Int)=m.1/\(m.2:Int)=m.2/\b=b/\pcS s x_2=pcS s x_2/\TrOk B D P U (pcS s x_2,((m.1,m.2),b)))/\
        (∀x_3:TrY,aA (de x_3.2.2) λV=>aA (x_3.2.1.1:Int) λc=>aA (aFG B x_3.2.1.1) λe=>aA (x_3.2.2++[e]) λf=>aA (x_3.2.1.1,x_3.2.1.2) λg=>aA (x_3.2.2.length:Int) λh=>TrOk B D P U x_3->sn x_3.1/\(g∈x_3.1->(0<h->x_3.2.2.length=x_3.2.2.length/\x_3.2.2.length<=1000/\(∀u:aFH,u∈x_3.2.2->bd 1000000000 u)/\I<V.length/\M.length=M.length/\M.length+[bw V].length<=1000000/\aH (N+1)/\N+1=(X:Int)/\(pcR s x_2++[bw V]).length=Z/\pcR s x_2++[bw V] =pcR s G/\x_3.1=pcS s G/\x_2+1<=E.length/\sn (pcS s G)/\(∀p:Prod Nat Nat,p∈pcS s G->p.1<B.length/\p.2<B.length)/\E.length-G<E.length-x_2)/\
          (¬0<h->aH (N+1)/\N+1=(X:Int)/\M.length=Z/\pcR s x_2=pcR s G/\x_3.1=pcS s G/\x_2+1<=E.length/\sn (pcS s G)/\(∀p:Prod Nat Nat,p∈pcS s G->p.1<B.length/\p.2<B.length)/\E.length-G<E.length-x_2))/\
         (¬g∈x_3.1->sn x_3.1/\ix 0 2/\ix c B.length/\x_3.2.2.length=x_3.2.2.length/\x_3.2.2.length+[e].length<=1000000/\ix 1 2/\ix 1 2/\ix 0 2/\B.length=D.length/\B.length=A.length/\B.length<=1000000/\D.length<=1000000/\x_3.2.1.2<D.length/\c∈aj D x_3.2.1.2/\(aj D x_3.2.1.2).length<=1000000/\(∀x_4:Int,x_4∈aj D x_3.2.1.2->0<=x_4)/\((-1:Int)=1\/(-1:Int)= -1)/\f.length=f.length/\M.length=M.length/\(x_3.2.1.2:Int)=x_3.2.1.2/\(io D x_3.2.1.2 x_3.2.1.1 (-1):Int)=io D x_3.2.1.2 x_3.2.1.1 (-1)/\x_3.2.2++[e] =x_3.2.2++[e]/\lL x_3.1 g=lL x_3.1 g/\TrOk B D P U (lL x_3.1 g,((x_3.2.1.2,io D x_3.2.1.2 x_3.2.1.1 (-1)),x_3.2.2++[e]))/\trU B-(lL x_3.1 g).length<trU B-x_3.1.length)))/\
       (¬N<(k:Int)->M.length=M.length/\M.length<=1000000/\(∀r:aD,r∈pcR s x_2->r.length<=1000)/\M.length=(r68 d).length/\r68 d=pcG s/\0=eV s)))))))) (by kernel_rfl) (by
  change Fit s/\((bP s=true->GOk s/\SOk s/\pj s))at hp;obtain⟨hf,hv⟩:=hp;have n80:(vOf s).length<=80:=mw s;have hT:(!bP s)=false->bP s=true:=λh=>nb h;have hg:(!bP s)=false->GOk s:=λh=>(hv (nb h)).1;have hs:(!bP s)=false->SOk s:=λh=>(hv (nb h)).2.1;have hP:(!bP s)=false->pj s:=λh=>(hv (nb h)).2.2;have sd0:(!bP s)=true->pcG s=[] :=λh=>by unfold pcG;grind
  have ev0:(!bP s)=true->11=eV s:=λh=>by unfold eV;grind
  have ev1:(!bP s)=false->0=eV s:=λh=>by unfold eV;grind
  have sl:(!bP s)=false->(spG s).length<=6400:=λh=>by have h1:(spG s).length<=(pG s).length:=Bx _ _ _ _;have h2:=(vo (nb h)).1;rw[rj]at h1;omega
  have hl:=O7 s;have nl:(nG s).length=(vOf s).length:=HI s _;have gl:(soG s).length=(vOf s).length:=yU s _;have xl:=Oh s;have vb:∀u∈vOf s,bd 1000000000 u:=λu hu=>by obtain⟨i,hi,rfl⟩:=eL.1 hu;exact pF hi (by decide)
  have a1:∀x:Nat,(x:Int)<(vOf s).length->x<(nG s).length:=λx h=>by omega
  have a2:(!bP s)=false->∀x:Nat,(x:Int)<(vOf s).length->cu (nG s) x=(cu (nG s) x).toNat:=λh x hx=>(Int.toNat_of_nonneg ((hP h).2.2.1 x (by omega))).symm;have a3:∀x:Nat,x<=(vOf s).length->(aU x (nxP s)).length=x:=λx h=>by grind
  have a4:∀x:Nat,(x:Int)<(vOf s).length->aU x (nxP s)++[(x,(cu (nG s) x).toNat)] =aU (x+1) (nxP s):=λx h=>by rw[mc (show x<(nxP s).length by omega)];unfold nxP;grind
  have a5:∀x:Nat,∀z:Nat×Nat,(x:Int)<(vOf s).length->(aU x (nxP s)).length+[z].length<=1000000:=λx z h=>by grind
  have a6:∀x:Nat,∀z:Nat×Nat,(x:Int)<(vOf s).length->(aU x (nxP s)++[z]).length=x+1:=λx z h=>by grind
  have a7:∀x:Nat,(x:Int)<(vOf s).length->aH ((x:Int)+1):=λx h=>bV (by omega);have b0:∀x:Nat,¬(x:Int)<(vOf s).length->x<=(vOf s).length->x=(vOf s).length+2*0:=λx h h2=>by omega
  have b1:∀x:Nat,¬(x:Int)<(vOf s).length->aU x (nxP s)=nxP s++kn jG (aU 0 (spG s)):=λx h=>by rw[iV (by omega)];simp
  have b2:∀x:Nat,x<=(spG s).length->(nxP s++kn jG (aU x (spG s))).length=(vOf s).length+2*x:=λx h=>by rw[fM,xl,GI,mX];omega
  have b3:(!bP s)=false->∀x:Nat,∀z u:Nat×Nat,x<=(spG s).length->(nxP s++kn jG (aU x (spG s))).length+[z,u].length<=1000000:=λh x z u hx=>by grind
  have b4:(!bP s)=false->∀x:Nat,(x:Int)<(spG s).length->aH ((x:Int)+1):=λh x hx=>bV (by grind);have b5:∀x:Nat,∀z u:Nat×Nat,x<=(spG s).length->(nxP s++kn jG (aU x (spG s))++[z,u]).length=(vOf s).length+2*(x+1):=λx z u hx=>by rw[fM,b2 x hx];grind
  have b6:∀x:Nat,(x:Int)<(spG s).length->nxP s++kn jG (aU x (spG s))++[((aa (spG s) x).1,(aa (spG s) x).2),((aa (spG s) x).2,(aa (spG s) x).1)] =nxP s++kn jG (aU (x+1) (spG s)):=λx h=>by rw[mc (show x<(spG s).length by omega),List.flatMap_append,<-List.append_assoc,o8 (by omega)];rfl
  have hH:∀x:Nat,¬(x:Int)<(spG s).length->nxP s++kn jG (aU x (spG s))=hsG s:=λx h=>by rw[iV (by omega)];rfl
  have c1:∀x y:Nat,¬(x:Int)<(spG s).length->x<=(spG s).length->(y:Int)<(((vOf s).length+2*x:Nat):Int)->y<(hsG s).length:=λx y h h2 h3=>by omega
  have c2:∀x y:Nat,x<=(spG s).length->(y:Int)<(((vOf s).length+2*x:Nat):Int)->y<(nxP s++kn jG (aU x (spG s))).length:=λx y h2 h3=>by grind
  have c3:(!bP s)=false->∀x y:Nat,¬(x:Int)<(spG s).length->x<=(spG s).length->(y:Int)<(((vOf s).length+2*x:Nat):Int)->sn (pcS s y)->(∀p:Nat×Nat,p∈(pcS s y)->p.1<(vOf s).length/\p.2<(vOf s).length)->TrOk (vOf s) (soG s) (pcS s y) (aa (hsG s) y) ((pcS s y),(((aa (nxP s++kn jG (aU x (spG s))) y).1,(aa (nxP s++kn jG (aU x (spG s))) y).2),([] :List aFH))):=λh x y h1 h2 h3 h4 h5=>by rw[hH x h1];refine TrOk.start h4 h5 ((hP h).2.1 _ ?_);have:=c1 x y h1 h2 h3;rw[o8 this];grind
  have d1:(!bP s)=false->∀x y:Nat,¬(x:Int)<(spG s).length->x<=(spG s).length->(y:Int)<(((vOf s).length+2*x:Nat):Int)->∀z:TrY,TrOk (vOf s) (soG s) (pcS s y) (aa (hsG s) y) z->z.2.1∈z.1->0<(z.2.2.length:Int)->z.2.2.length<=1000/\0<(de z.2.2).length:=λh x y h1 h2 h3 z T hm hz=>by have e:=T.stop hm;unfold pcS at e;have:=(hP h).2.2.2 y (c1 x y h1 h2 h3);grind
  have d2:(!bP s)=false->∀y:Nat,y<=(hsG s).length->(pcR s y).length<=20000:=λh y hy=>by have h1:(pcR s y).length<=y:=GZ s y;grind
  have d3:(!bP s)=false->∀y:Nat,y<=(hsG s).length->∀q:aD,(pcR s y).length+[q].length<=1000000:=λh y hy q=>by have:=d2 h y hy;simp only[uP];omega
  have d4:(!bP s)=false->∀y:Nat,y<=(hsG s).length->aH ((y:Int)+1):=λh y hy=>bV (by have:=sl h;omega);have t1:∀(y:Nat) (z:TrY),TrOk (vOf s) (soG s) (pcS s y) (aa (hsG s) y) z->z.2.1∈z.1->0<(z.2.2.length:Int)->(pcR s y)++[bw (de z.2.2)] =pcR s (y+1):=λy z T hm hz=>(congrArg DP (aAg T hm (by omega))).symm;have t2:∀(y:Nat) (z:TrY),TrOk (vOf s) (soG s) (pcS s y) (aa (hsG s) y) z->z.2.1∈z.1->¬0<(z.2.2.length:Int)->pcR s y=pcR s (y+1):=λy z T hm hz=>(congrArg DP (aBw T hm (by omega))).symm;have t3:∀(y:Nat) (z:TrY),TrOk (vOf s) (soG s) (pcS s y) (aa (hsG s) y) z->z.2.1∈z.1->z.1=(pcS s (y+1)):=λy z T hm=>by unfold pcS at*;rw[vH,T.stop hm]
  have t4:∀(y:Nat) (z:TrY),TrOk (vOf s) (soG s) (pcS s y) (aa (hsG s) y) z->z.2.1∈z.1->(pcS s (y+1)).Nodup:=λy z T hm=>by rw[<-t3 y z T hm];exact T.nd
  have t5:∀(y:Nat) (z:TrY),TrOk (vOf s) (soG s) (pcS s y) (aa (hsG s) y) z->z.2.1∈z.1->∀p:Nat×Nat,p∈(pcS s (y+1))->p.1<(vOf s).length/\p.2<(vOf s).length:=λy z T hm=>by rw[<-t3 y z T hm];exact T.rng
  have r0:∀(y:Nat) (z:TrY),TrOk (vOf s) (soG s) (pcS s y) (aa (hsG s) y) z->ArOk (vOf s) (soG s) z.2.1.2 z.2.1.1:=λy z T=>T.at_;have r1:∀(y:Nat) (z:TrY),TrOk (vOf s) (soG s) (pcS s y) (aa (hsG s) y) z->z.2.1.1<(vOf s).length:=λy z T=>by have:=(T.at_.rng _ T.at_.mem).2;omega
  have r2:∀(y:Nat) (z:TrY),TrOk (vOf s) (soG s) (pcS s y) (aa (hsG s) y) z->ix (z.2.1.1:Int) (vOf s).length:=λy z T=>fC (r1 y z T);have r3:∀(y:Nat) (z:TrY),TrOk (vOf s) (soG s) (pcS s y) (aa (hsG s) y) z->∀q:aFH,z.2.2.length+[q].length<=1000000:=λy z T q=>by have h1:=T.lt;have h2:=T.len;unfold trU at h1;have:(vOf s).length*(vOf s).length<=80*80:=nP n80 n80;simp only[uP];omega
  have r4:∀(y:Nat) (z:TrY),TrOk (vOf s) (soG s) (pcS s y) (aa (hsG s) y) z->∀x∈aj (soG s) z.2.1.2,0<=x:=λy z T x hx=>(T.at_.rng x hx).1;have r5:(!bP s)=false->∀(y:Nat) (z:TrY),TrOk (vOf s) (soG s) (pcS s y) (aa (hsG s) y) z->z.2.1∉z.1->TrOk (vOf s) (soG s) (pcS s y) (aa (hsG s) y) (lL z.1 z.2.1,nxH (soG s) z.2.1,z.2.2++[aFG (vOf s) z.2.1.1]):=λh y z T hm=>T.step (hP h).1 gl vb hm;have r6:∀(y:Nat) (z:TrY),TrOk (vOf s) (soG s) (pcS s y) (aa (hsG s) y) z->z.2.1∉z.1->trU (vOf s)-(lL z.1 z.2.1).length<trU (vOf s)-z.1.length:=λy z T hm=>by have:=T.lt;rw[show lL z.1 z.2.1=z.1++[z.2.1]from if_neg hm,fM];simp;omega
  have e1:(!bP s)=false->∀x y:Nat,¬(x:Int)<(spG s).length->x<=(spG s).length->¬(y:Int)<(((vOf s).length+2*x:Nat):Int)->y<=(hsG s).length->r68 ((pcR s y),true)=pcG s:=λh x y h1 h2 h3 h4=>by rw[show y=(hsG s).length by omega];unfold pcG;rw[nb h,if_pos rfl];rfl
  have e2:∀l:List aD,l.length=(r68 (l,true)).length:=λl=>(rH l).length_eq.symm;have e3:(!bP s)=false->∀y:Nat,y<=(hsG s).length->∀r∈(pcR s y),r.length<=1000:=λh y hy=>GY (hP h) y hy;have e4:(!bP s)=false->∀y:Nat,y<=(hsG s).length->(pcR s y).length<=1000000:=λh y hy=>by grind
  have e5:(pcS s 0).Nodup:=List.nodup_nil;have hT2:(!bP s)=false->bP s=true:=hT;clear hv hT hP
  repeat' first|with_reducible apply br|with_reducible intro
  all_goals repeat with_reducible cases‹_/\_›
  all_goals first|with_reducible assumption|with_reducible rfl|with_reducible exact sd0 ‹_› |with_reducible exact ev0 ‹_› |with_reducible exact ev1 ‹_› |with_reducible exact hT2 ‹_› |with_reducible exact hg ‹_› |with_reducible exact hs ‹_› |with_reducible exact a1 _ ‹_› |with_reducible exact a2 ‹_› _ ‹_› |with_reducible exact(a3 _ ‹_›).symm|with_reducible exact a4 _ ‹_› |with_reducible exact a5 _ _ ‹_› |with_reducible exact a6 _ _ ‹_› |with_reducible exact a7 _ ‹_› |with_reducible exact b0 _ ‹_› ‹_› |with_reducible exact b1 _ ‹_› |with_reducible exact(b2 _ ‹_›).symm|with_reducible exact b3 ‹_› _ _ _ ‹_› |with_reducible exact b4 ‹_› _ ‹_› |with_reducible exact b5 _ _ _ ‹_› |with_reducible exact b6 _ ‹_› |with_reducible exact c2 _ _ ‹_› ‹_› |exact c3 ‹_› _ _ ‹_› ‹_› ‹_› ‹_› ‹_› |exact(d1 ‹_› _ _ ‹_› ‹_› ‹_› _ ‹_› ‹_› ‹_›).1|exact(d1 ‹_› _ _ ‹_› ‹_› ‹_› _ ‹_› ‹_› ‹_›).2|with_reducible exact d3 ‹_› _ ‹_› _|with_reducible exact d4 ‹_› _ ‹_› |with_reducible exact(TrOk.nd ‹_›)|with_reducible exact(TrOk.pts ‹_› _ ‹_›)|exact t1 _ _ ‹_› ‹_› ‹_› |exact congrArg eQ (t1 _ _ ‹_› ‹_› ‹_›)|exact t2 _ _ ‹_› ‹_› ‹_› |exact congrArg eQ (t2 _ _ ‹_› ‹_› ‹_›)|exact t3 _ _ ‹_› ‹_› |exact t4 _ _ ‹_› ‹_› |exact(t5 _ _ ‹_› ‹_› _ ‹_›).1|exact(t5 _ _ ‹_› ‹_› _ ‹_›).2|with_reducible exact r2 _ _ ‹_› |with_reducible exact r3 _ _ ‹_› _|with_reducible exact(r0 _ _ ‹_›).iL|with_reducible exact(r0 _ _ ‹_›).mem|with_reducible exact(r0 _ _ ‹_›).len|with_reducible exact r4 _ _ ‹_› _ ‹_› |exact r5 ‹_› _ _ ‹_› ‹_› |exact r6 _ _ ‹_› ‹_› |with_reducible exact e1 ‹_› _ _ ‹_› ‹_› ‹_› ‹_› |with_reducible exact e2 _|with_reducible exact e3 ‹_› _ ‹_› _ ‹_› |with_reducible exact e4 ‹_› _ ‹_› |omega|(unfold ix;omega)|(unfold aH;omega)|exact .inr rfl|exact e5|exact(cq ‹_›).elim|exact rfl)
noncomputable def t48:=SI.adk k48
abbrev Q4:=Int×Int×Int×Int
def lf(q:Q4)(p:Int×Int):Q4:=
 if p.1<0 then(if q.1*(p.2-p.1)< -p.1*q.2.1 then(-p.1,p.2-p.1,q.2.2)else q)
 else if p.2<0 then(if p.1*q.2.2.2<q.2.2.1*(p.1-p.2)then(q.1,q.2.1,p.1,p.1-p.2)else q)else q
def nD(p:Int×Int):Bool:=decide (p.1<=0)&&decide (p.2<=0)
def sx:∀(l:List (Int×Int)) (q:Q4),kU l q.1 q.2.1 q.2.2.1 q.2.2.2=(!(l.any nD)&&decide ((l.foldl lf q).1*(l.foldl lf q).2.2.2<(l.foldl lf q).2.2.1*(l.foldl lf q).2.1))
 |[],q=>by simp[kU] <;>congr
 |(a,b)::l,(ln,ld,hn,hd)=>by
  unfold kU;rw[List.any_cons,zJ];by_cases h1:a<=0/\b<=0
  .have:nD (a,b)=true:=by unfold nD;simp[h1.1,h1.2]
   grind
  .have h2:nD (a,b)=false:=by unfold nD;rw[Bool.and_eq_false_iff,decide_eq_false_iff_not,decide_eq_false_iff_not];omega
   rw[if_neg h1,h2,Bool.false_or];unfold lf;dsimp only;by_cases h3:a<0
   .rw[if_pos h3,if_pos h3];by_cases h4:ln*(b-a)< -a*ld
    .rw[if_pos h4,if_pos h4];exact sx l (-a,b-a,hn,hd)
    .rw[if_neg h4,if_neg h4];exact sx l (ln,ld,hn,hd)
   .rw[if_neg h3,if_neg h3];by_cases h5:b<0
    .rw[if_pos h5,if_pos h5];by_cases h4:a*hd<hn*(a-b)
     .rw[if_pos h4,if_pos h4];exact sx l (ln,ld,a,a-b)
     .rw[if_neg h4,if_neg h4];exact sx l (ln,ld,hn,hd)
    .rw[if_neg h5,if_neg h5];exact sx l (ln,ld,hn,hd)
def oI(s e:S):Int×Int:=(cross (aFJ e.b e.a) (aFJ s.a e.a),cross (aFJ e.b e.a) (aFJ s.b e.a))
def qT(s:S)(r:aD):List (Int×Int):=(aJ r).map (oI s)
def stE(s:S)(r:aD)(k:Nat):Q4:=((qT s r).take k).foldl lf (0,1,1,1)
def lnE(s:S)(r:aD)(k:Nat):Int:=(stE s r k).1
def ldE(s:S)(r:aD)(k:Nat):Int:=(stE s r k).2.1
def hnE(s:S)(r:aD)(k:Nat):Int:=(stE s r k).2.2.1
def hdE(s:S)(r:aD)(k:Nat):Int:=(stE s r k).2.2.2
def ibd(m x:Int):Prop:= -m<=x/\x<=m
def ki(s:S)(r:aD)(k:Nat):Prop:=((qT s r).take k).any nD=false/\ibd 1600000000 (lnE s r k)/\ibd 1600000000 (ldE s r k)/\ibd 1600000000 (hnE s r k)/\ibd 1600000000 (hdE s r k)
def XG(s:S)(r:aD):ki s r 0:=by unfold ki lnE ldE hnE hdE stE ibd;simp
def LV{s:S}{r:aD}{k:Nat}(hk:k<(aJ r).length):(qT s r)[k]? =some (oI s (aJ r)[k]):=by unfold qT;grind
def MR{s:S}{r:aD}{k:Nat}(hk:k<(aJ r).length):stE s r (k+1)=lf (stE s r k) (oI s (aJ r)[k]):=by unfold stE;rw[l0,LV hk,List.foldl_append];rfl
def XH{s:S}{r:aD}{k:Nat}(hk:k<(aJ r).length)(h:ki s r k)(ho:nD (oI s (aJ r)[k])=false)
  (ha:ibd 800000000 (oI s (aJ r)[k]).1) (hb:ibd 800000000 (oI s (aJ r)[k]).2):ki s r (k+1):=by
 obtain⟨h1,h2,h3,h4,h5⟩:=h;unfold ki;refine⟨?_,?_⟩
 .rw[l0,LV hk,List.any_append,h1];simp[ho]
 .unfold lnE ldE hnE hdE at*;rw[MR hk];generalize oI s (aJ r)[k] =p at ha hb|-;generalize stE s r k=q at h2 h3 h4 h5|-;obtain⟨a,b⟩:=p;obtain⟨ln,ld,hn,hd⟩:=q;unfold ibd at*;dsimp only at*;unfold lf;grind
def Vz{s:S}{r:aD}{k:Nat}(hk:k<(aJ r).length)(ho:nD (oI s (aJ r)[k])=true):dC s r=false:=by have h:=sx (qT s r) (0,1,1,1);have hm:(qT s r).any nD=true:=jd.2 ⟨_,bR.2 ⟨_,nR hk,rfl⟩,ho⟩;rw[hm]at h;exact h
def V2{s:S}{r:aD}(h:ki s r (aJ r).length):dC s r=decide (lnE s r (aJ r).length*hdE s r (aJ r).length<hnE s r (aJ r).length*ldE s r (aJ r).length):=by
 have hl:(qT s r).length=(aJ r).length:=by unfold qT;rw[di]
 have h1:=h.1;have e:=sx (qT s r) (0,1,1,1);unfold lnE ldE hnE hdE stE;rw[<-hl,si]at h1|-;rw[h1]at e;exact e
def X3{r:aD}(h:VR r){e:S}(he:e∈aJ r):aX e.a 10000=true/\aX e.b 10000=true:=by have h3:=h.three;unfold aJ at he;rw[if_neg (by omega)]at he;obtain⟨i,hi,rfl⟩:=bR.1 he;have hi:=cD.1 hi;exact⟨ko (vL h.near i hi) (by omega),ko (vL h.near _ (bz _ (by omega))) (by omega)⟩
noncomputable def tC:=t48.adk k93
structure ROk(r:aD):Prop where
 three:3<=r.length
 len:r.length<=1000
 near:∀v∈r,bd 10000 v
def eG(s:S)(r:aD)(k:Nat):Int×Int:=oI s (bO r k)
def gA(s:S)(r:aD)(k:Nat):Int:=(eG s r k).1
def gB(s:S)(r:aD)(k:Nat):Int:=(eG s r k).2
def gO(s:S)(r:aD)(k:Nat):Bool:=nD (eG s r k)
def Lz{r:aD}(h:3<=r.length):(aJ r).length=r.length:=by unfold aJ;grind
def BU{r:aD}(h:3<=r.length){k:Nat}(hk:k<(aJ r).length):(aJ r)[k] =bO r k:=by
 have:∀(l:List S) (hl:l=(bM r.length).map (bO r)) (hk:k<l.length),l[k] =bO r k:=λl hl hk=>by grind
 exact this _ (by unfold aJ;grind) hk
noncomputable def aEQ:Con:=con (ac aS (a1 (aL .V))) (λ(s,r)=>[bd 10000 s.a,bd 10000 s.b,ROk r]) (λ(s,r)=> .bool (dC s r))
def aDl:aEQ.Okz 173:=ak tC (λ(s,r)=>[(3,.mk Nat (λF _=>lh F 16) [] (λk=>[k<=r.length,ki s r k]) (λk=>[(16,.iqz (k:Int)),(5,.iqz (lnE s r k)),(6,.iqz (ldE s r k)),(7,.iqz (hnE s r k)),(8,.iqz (hdE s r k))]) bX (λk=>r.length-k) λk=>
  [jU 7 [(12,.iqz (gA s r k)),(13,.iqz (gB s r k))],jb 8 43 (gO s r k),jPU 15 [gO s r k=false] [(5,.iqz (lnE s r (k+1))),(6,.iqz (ldE s r (k+1))),(7,.iqz (hnE s r (k+1))),(8,.iqz (hdE s r (k+1)))]])]
  ) (λ(_,_)=>⟨_,rfl⟩) λ(s,r) hp=>aZ ((0=(0:Int)/\0=lnE s r 0/\1=ldE s r 0/\1=hnE s r 0/\1=hdE s r 0/\(0:Nat)<=r.length/\ki s r 0)/\
 (∀x:Nat,aA (x+1) λA=>aA (x:Int) λB=>aA (aFG r x) λC=>aA (aFG r (A % r.length)) λE=>aA (aFJ E C) λF=>aA (0-gA s r x) λG=>aA (aFJ s.a C) λH=>aA (aFJ s.b C) λI=>aA (gB s r x-gA s r x) λJ=>aA (gA s r x-gB s r x) λK=>x<=r.length/\ki s r x->(B<r.length->(ix B r.length/\aH (B+1)/\(r.length:Int)≠0/\ix ((A % r.length:Nat):Int) r.length/\bd 1000000000 E/\bd 1000000000 C/\(bd 1000000000 s.a/\bd 1000000000 C/\cOK F H/\bd 1000000000 s.b/\bd 1000000000 C/\cOK F I/\cross F H=gA s r x/\cross F I=gB s r x)/\
    (∀y:Unit,((gA s r x<=0->decide (gB s r x<=0)=gO s r x)/\
      (¬gA s r x<=0->false=gO s r x))/\
     (∀y_1:Unit,(gO s r x=true->false=dC s r)/\
      (gO s r x=false->(gA s r x<0->aH G/\aH (G*ldE s r x)/\aH J/\aH (lnE s r x*J)/\(lnE s r x*J<G*ldE s r x->aH G/\aH J/\0-gA s r x=lnE s r A/\gB s r x-gA s r x=ldE s r A/\hnE s r x=hnE s r A/\hdE s r x=hdE s r A/\gO s r x=false)/\
        (¬lnE s r x*J<G*ldE s r x->lnE s r x=lnE s r A/\ldE s r x=ldE s r A/\hnE s r x=hnE s r A/\hdE s r x=hdE s r A/\gO s r x=false))/\
       (¬gA s r x<0->(gB s r x<0->aH (gA s r x*hdE s r x)/\aH K/\aH (hnE s r x*K)/\(gA s r x*hdE s r x<hnE s r x*K->aH K/\lnE s r x=lnE s r A/\ldE s r x=ldE s r A/\gA s r x=hnE s r A/\gA s r x-gB s r x=hdE s r A/\gO s r x=false)/\
         (¬gA s r x*hdE s r x<hnE s r x*K->lnE s r x=lnE s r A/\ldE s r x=ldE s r A/\hnE s r x=hnE s r A/\hdE s r x=hdE s r A/\gO s r x=false))/\
        (¬gB s r x<0->lnE s r x=lnE s r A/\ldE s r x=ldE s r A/\hnE s r x=hnE s r A/\hdE s r x=hdE s r A/\gO s r x=false))))))/\
   (∀y:Unit,gO s r x=false->aH (B+1)/\B+1=((x+1:Nat):Int)/\lnE s r A=lnE s r A/\ldE s r A=ldE s r A/\hnE s r A=hnE s r A/\hdE s r A=hdE s r A/\x+1<=r.length/\ki s r A/\r.length-A<r.length-x))/\
  (¬B<r.length->aH (lnE s r x*hdE s r x)/\aH (hnE s r x*ldE s r x)/\decide (lnE s r x*hdE s r x<hnE s r x*ldE s r x)=dC s r))) (by kernel_rfl) (by
  change bd 10000 s.a/\bd 10000 s.b/\ROk r at hp;obtain⟨ha,hb,h3⟩:=hp;have l3:=h3.three;have hl:=h3.len;have hN:∀i:Nat,i<r.length->bd 10000 (aFG r i):=λi h=>h3.near _ (dO h);have el:(aJ r).length=r.length:=Lz l3;have md:∀i:Nat,(i:Int)<r.length->(i+1) % r.length<r.length:=λi h=>bz _ (by omega);have ha9:bd 1000000000 s.a:=ha.mono;have hb9:bd 1000000000 s.b:=hb.mono;have e9a:∀i:Nat,(i:Int)<r.length->bd 1000000000 (aFG r i):=λi h=>(hN i (by omega)).mono;have e9b:∀i:Nat,(i:Int)<r.length->bd 1000000000 (aFG r ((i+1) % r.length)):=λi h=>(hN _ (md i h)).mono;have x1:∀i:Nat,(i:Int)<r.length->ix (((i+1) % r.length:Nat):Int) r.length:=λi h=>fC (md i h);have cA:∀(v:V) (i:Nat),bd 10000 v->(i:Int)<r.length->cOK (aFJ (aFG r ((i+1) % r.length)) (aFG r i)) (aFJ v (aFG r i)):=λv i hv h=>by have:=nZ (jD (hN _ (md i h)) (hN i (by omega))) (jD hv (hN i (by omega)));unfold cOK;omega
  have bA:∀i:Nat,(i:Int)<r.length->ibd 800000000 (gA s r i)/\ibd 800000000 (gB s r i):=λi h=>by have h0:bd 10000 (nxt r i):=hN _ (md i h);have h1:=nZ (jD h0 (hN i (by omega))) (jD ha (hN i (by omega)));have h2:=nZ (jD h0 (hN i (by omega))) (jD hb (hN i (by omega)));unfold gA gB eG oI ibd bO;dsimp only;unfold cross;omega
  have sN:∀i:Nat,(i:Int)<r.length->stE s r (i+1)=lf (stE s r i) (eG s r i):=λi h=>by rw[MR (show i<(aJ r).length by omega),BU l3];rfl
  have iN:∀i:Nat,(i:Int)<r.length->ki s r i->gO s r i=false->ki s r (i+1):=λi h h1 h2=>by
   have hb:=bA i h;have hk:i<(aJ r).length:=by omega
   have e:eG s r i=oI s (aJ r)[i] :=by rw[BU l3];rfl
   refine XH hk h1 ?_ ?_ ?_
   .rw[<-e];exact h2
   .rw[<-e];exact hb.1
   .rw[<-e];exact hb.2
  have oY:∀i:Nat,(i:Int)<r.length->gO s r i=true->false=dC s r:=λi h h2=>by symm;refine Vz (k:=i) (show i<(aJ r).length by omega) ?_;rw[BU l3];exact h2
  have oE:∀i:Nat,¬(i:Int)<r.length->i<=r.length->ki s r i->decide (lnE s r i*hdE s r i<hnE s r i*ldE s r i)=dC s r:=λi h h2 h3=>by
   obtain rfl:i=r.length:=by omega
   rw[<-el]at h3|-;rw[V2 h3]
  have o1:∀i:Nat,gA s r i<=0->decide (gB s r i<=0)=gO s r i:=λi h=>by unfold gO nD;rw[decide_eq_true (show(eG s r i).1<=0 from h)];rfl
  have o2:∀i:Nat,¬gA s r i<=0->false=gO s r i:=λi h=>by unfold gO nD;rw[decide_eq_false (show¬(eG s r i).1<=0 from h)];rfl
  have nN:∀x:Int,0-x= -x:=λx=>by omega
  have s1:∀i:Nat,(i:Int)<r.length->gA s r i<0->lnE s r i*(gB s r i-gA s r i)<(0-gA s r i)*ldE s r i->stE s r (i+1)=(0-gA s r i,gB s r i-gA s r i,hnE s r i,hdE s r i):=λi h h1 h2=>by rw[sN i h];unfold lf;rw[if_pos (show(eG s r i).1<0 from h1)];rw[nN]at h2;exact(if_pos (show(stE s r i).1*((eG s r i).2-(eG s r i).1)< -(eG s r i).1*(stE s r i).2.1 from h2)).trans (by rw[nN];rfl)
  have s2:∀i:Nat,(i:Int)<r.length->gA s r i<0->¬lnE s r i*(gB s r i-gA s r i)<(0-gA s r i)*ldE s r i->stE s r (i+1)=stE s r i:=λi h h1 h2=>by rw[sN i h];unfold lf;rw[if_pos (show(eG s r i).1<0 from h1)];rw[nN]at h2;exact if_neg h2
  have s3:∀i:Nat,(i:Int)<r.length->¬gA s r i<0->gB s r i<0->gA s r i*hdE s r i<hnE s r i*(gA s r i-gB s r i)->stE s r (i+1)=(lnE s r i,ldE s r i,gA s r i,gA s r i-gB s r i):=λi h h1 h2 h3=>by rw[sN i h];unfold lf;rw[if_neg (show¬(eG s r i).1<0 from h1),if_pos (show(eG s r i).2<0 from h2)];exact if_pos h3
  have s4:∀i:Nat,(i:Int)<r.length->¬gA s r i<0->gB s r i<0->¬gA s r i*hdE s r i<hnE s r i*(gA s r i-gB s r i)->stE s r (i+1)=stE s r i:=λi h h1 h2 h3=>by rw[sN i h];unfold lf;rw[if_neg (show¬(eG s r i).1<0 from h1),if_pos (show(eG s r i).2<0 from h2)];exact if_neg h3
  have s5:∀i:Nat,(i:Int)<r.length->¬gA s r i<0->¬gB s r i<0->stE s r (i+1)=stE s r i:=λi h h1 h2=>by rw[sN i h];unfold lf;rw[if_neg (show¬(eG s r i).1<0 from h1)];exact if_neg (show¬(eG s r i).2<0 from h2)
  have w:∀i:Nat,(i:Int)<r.length->ki s r i->aH (0-gA s r i)/\aH ((0-gA s r i)*ldE s r i)/\aH (gB s r i-gA s r i)/\aH (lnE s r i*(gB s r i-gA s r i))/\aH (gA s r i*hdE s r i)/\aH (gA s r i-gB s r i)/\aH (hnE s r i*(gA s r i-gB s r i)):=λi h hI=>by obtain⟨h1,h2⟩:=bA i h;obtain⟨_,g1,g2,g3,g4⟩:=hI;unfold ibd at h1 h2 g1 g2 g3 g4;have m1:=iI (x:=0-gA s r i) (y:=ldE s r i) (A:=1600000000) (B:=1600000000) (by omega) (by omega);have m2:=iI (x:=lnE s r i) (y:=gB s r i-gA s r i) (A:=1600000000) (B:=1600000000) (by omega) (by omega);have m3:=iI (x:=gA s r i) (y:=hdE s r i) (A:=1600000000) (B:=1600000000) (by omega) (by omega);have m4:=iI (x:=hnE s r i) (y:=gA s r i-gB s r i) (A:=1600000000) (B:=1600000000) (by omega) (by omega);exact⟨bV (by omega),bV (by omega),bV (by omega),bV (by omega),bV (by omega),bV (by omega),bV (by omega)⟩
  have wE:∀i:Nat,ki s r i->aH (lnE s r i*hdE s r i)/\aH (hnE s r i*ldE s r i):=λi hI=>by obtain⟨_,g1,g2,g3,g4⟩:=hI;unfold ibd at g1 g2 g3 g4;have m1:=iI (x:=lnE s r i) (y:=hdE s r i) (A:=1600000000) (B:=1600000000) (by omega) (by omega);have m2:=iI (x:=hnE s r i) (y:=ldE s r i) (A:=1600000000) (B:=1600000000) (by omega) (by omega);exact⟨bV (by omega),bV (by omega)⟩
  have z:=XG s r;have q1:∀i:Nat,(i:Int)<r.length->gA s r i<0->lnE s r i*(gB s r i-gA s r i)<(0-gA s r i)*ldE s r i->0-gA s r i=lnE s r (i+1)/\gB s r i-gA s r i=ldE s r (i+1)/\hnE s r i=hnE s r (i+1)/\hdE s r i=hdE s r (i+1):=λi h0 h1 h2=>by have e:=s1 i h0 h1 h2;exact⟨(congrArg (λq:Q4=>q.1) e).symm,(congrArg (λq:Q4=>q.2.1) e).symm,(congrArg (λq:Q4=>q.2.2.1) e).symm,(congrArg (λq:Q4=>q.2.2.2) e).symm⟩
  have q2:∀i:Nat,(i:Int)<r.length->gA s r i<0->¬lnE s r i*(gB s r i-gA s r i)<(0-gA s r i)*ldE s r i->lnE s r i=lnE s r (i+1)/\ldE s r i=ldE s r (i+1)/\hnE s r i=hnE s r (i+1)/\hdE s r i=hdE s r (i+1):=λi h0 h1 h2=>by have e:=s2 i h0 h1 h2;exact⟨(congrArg (λq:Q4=>q.1) e).symm,(congrArg (λq:Q4=>q.2.1) e).symm,(congrArg (λq:Q4=>q.2.2.1) e).symm,(congrArg (λq:Q4=>q.2.2.2) e).symm⟩
  have q3:∀i:Nat,(i:Int)<r.length->¬gA s r i<0->gB s r i<0->gA s r i*hdE s r i<hnE s r i*(gA s r i-gB s r i)->lnE s r i=lnE s r (i+1)/\ldE s r i=ldE s r (i+1)/\gA s r i=hnE s r (i+1)/\gA s r i-gB s r i=hdE s r (i+1):=λi h0 h1 h2 h3=>by have e:=s3 i h0 h1 h2 h3;exact⟨(congrArg (λq:Q4=>q.1) e).symm,(congrArg (λq:Q4=>q.2.1) e).symm,(congrArg (λq:Q4=>q.2.2.1) e).symm,(congrArg (λq:Q4=>q.2.2.2) e).symm⟩
  have q4:∀i:Nat,(i:Int)<r.length->¬gA s r i<0->gB s r i<0->¬gA s r i*hdE s r i<hnE s r i*(gA s r i-gB s r i)->lnE s r i=lnE s r (i+1)/\ldE s r i=ldE s r (i+1)/\hnE s r i=hnE s r (i+1)/\hdE s r i=hdE s r (i+1):=λi h0 h1 h2 h3=>by have e:=s4 i h0 h1 h2 h3;exact⟨(congrArg (λq:Q4=>q.1) e).symm,(congrArg (λq:Q4=>q.2.1) e).symm,(congrArg (λq:Q4=>q.2.2.1) e).symm,(congrArg (λq:Q4=>q.2.2.2) e).symm⟩
  have q5:∀i:Nat,(i:Int)<r.length->¬gA s r i<0->¬gB s r i<0->lnE s r i=lnE s r (i+1)/\ldE s r i=ldE s r (i+1)/\hnE s r i=hnE s r (i+1)/\hdE s r i=hdE s r (i+1):=λi h0 h1 h2=>by have e:=s5 i h0 h1 h2;exact⟨(congrArg (λq:Q4=>q.1) e).symm,(congrArg (λq:Q4=>q.2.1) e).symm,(congrArg (λq:Q4=>q.2.2.1) e).symm,(congrArg (λq:Q4=>q.2.2.2) e).symm⟩
  clear sN bA nN s1 s2 s3 s4 s5 hN md
  repeat' first|with_reducible apply br|with_reducible intro
  all_goals repeat with_reducible cases‹_/\ki _ _ _›
  all_goals first|assumption|with_reducible rfl|(with_reducible exact e9a _ ‹_›)|(with_reducible exact e9b _ ‹_›)|(with_reducible exact x1 _ ‹_›)|(with_reducible exact cA _ _ ‹_› ‹_›)|(with_reducible exact oY _ ‹_› ‹_›)|(with_reducible exact oE _ ‹_› ‹_› ‹_›)|(with_reducible exact o1 _ ‹_›)|(with_reducible exact o2 _ ‹_›)|(with_reducible exact(w _ ‹_› ‹_›).1)|(with_reducible exact(w _ ‹_› ‹_›).2.1)|(with_reducible exact(w _ ‹_› ‹_›).2.2.1)|(with_reducible exact(w _ ‹_› ‹_›).2.2.2.1)|(with_reducible exact(w _ ‹_› ‹_›).2.2.2.2.1)|(with_reducible exact(w _ ‹_› ‹_›).2.2.2.2.2.1)|(with_reducible exact(w _ ‹_› ‹_›).2.2.2.2.2.2)|(with_reducible exact(wE _ ‹_›).1)|(with_reducible exact(wE _ ‹_›).2)|(with_reducible exact iN _ ‹_› ‹_› ‹_›)|(with_reducible exact(q1 _ ‹_› ‹_› ‹_›).1)|(with_reducible exact(q1 _ ‹_› ‹_› ‹_›).2.1)|(with_reducible exact(q1 _ ‹_› ‹_› ‹_›).2.2.1)|(with_reducible exact(q1 _ ‹_› ‹_› ‹_›).2.2.2)|(with_reducible exact(q2 _ ‹_› ‹_› ‹_›).1)|(with_reducible exact(q2 _ ‹_› ‹_› ‹_›).2.1)|(with_reducible exact(q2 _ ‹_› ‹_› ‹_›).2.2.1)|(with_reducible exact(q2 _ ‹_› ‹_› ‹_›).2.2.2)|(with_reducible exact(q3 _ ‹_› ‹_› ‹_› ‹_›).1)|(with_reducible exact(q3 _ ‹_› ‹_› ‹_› ‹_›).2.1)|(with_reducible exact(q3 _ ‹_› ‹_› ‹_› ‹_›).2.2.1)|(with_reducible exact(q3 _ ‹_› ‹_› ‹_› ‹_›).2.2.2)|(with_reducible exact(q4 _ ‹_› ‹_› ‹_› ‹_›).1)|(with_reducible exact(q4 _ ‹_› ‹_› ‹_› ‹_›).2.1)|(with_reducible exact(q4 _ ‹_› ‹_› ‹_› ‹_›).2.2.1)|(with_reducible exact(q4 _ ‹_› ‹_› ‹_› ‹_›).2.2.2)|(with_reducible exact(q5 _ ‹_› ‹_› ‹_›).1)|(with_reducible exact(q5 _ ‹_› ‹_› ‹_›).2.1)|(with_reducible exact(q5 _ ‹_› ‹_› ‹_›).2.2.1)|(with_reducible exact(q5 _ ‹_› ‹_› ‹_›).2.2.2)|omega|(unfold ix;omega)|(unfold aH;omega)|rfl)
noncomputable def RW:=tC.adk aDl
def kh(r:aD):Pt:=fT (aFG r 0) (aFG r 1) (aFG r 2)
def aAT{r:aD}(h:ROk r): -1000000<=(kh r).x/\(kh r).x<=1000000/\ -1000000<=(kh r).y/\(kh r).y<=1000000/\0<=(kh r).den/\(kh r).den<=100:=by have v:∀i,i<r.length->bd 10000 (aFG r i):=λi hi=>h.near _ (dO hi);have l3:=h.three;have v0:=v 0 (by omega);have v1:=v 1 (by omega);have v2:=v 2 (by omega);unfold bd at v0 v1 v2;have q1:=qF (x:=(aFG r 0).x+(aFG r 1).x+(aFG r 2).x) (g:=3) (B:=30000) (by omega);have q2:=qF (x:=(aFG r 0).y+(aFG r 1).y+(aFG r 2).y) (g:=3) (B:=30000) (by omega);unfold kh fT;grind
def Qk{r:aD}{p:Pt}(h:3<=r.length):ml r p=(bM r.length).all λi=>decide (0<((aFG r ((i+1) % r.length)).x-(aFG r i).x)*(p.y-(aFG r i).y*p.den)-((aFG r ((i+1) % r.length)).y-(aFG r i).y)*(p.x-(aFG r i).x*p.den)):=by unfold ml aJ;rw[if_neg (by omega),List.all_map];rfl
def aA5{t:LT}{l:List t.ty}{q:t.ty->Bool}{j:Nat}(hj:j<l.length)(h:q (t.nth l j)=true):l.any q=true:=
 jd.2 ⟨_,nR hj,by rw[<-t.nth_eq l hj];exact h⟩
def ym{t:LT}{l:List t.ty}{q:t.ty->Bool}(h:aK (λj=>q (t.nth l j)=false) l.length):l.any q=false:=
 zn.2 λx hx=>by obtain⟨j,hj,rfl⟩:=List.getElem_of_mem hx;have:=h j hj;dsimp only at this;rw[t.nth_eq l hj]at this;grind
noncomputable def aEP:Con:=con (a1 (aL .V)) (λr=>[ROk r]) (λr=>aT.enc (kh r)
 )
def aDk:aEP.Okz 175:=ak RW bX (λ_=>⟨_,rfl⟩) λr hp=>aZ (aA (kh r) λA=>aA (3:Int) λB=>aA (aFG r 0) λC=>aA (aFG r 1) λD=>aA (aFG r 2) λE=>aA (C.x+D.x+E.x) λF=>aA (C.y+D.y+E.y) λG=>ix 0 r.length/\ix 1 r.length/\aH (C.x+D.x)/\ix 2 r.length/\aH F/\ix 0 r.length/\ix 1 r.length/\aH (C.y+D.y)/\ix 2 r.length/\aH G/\B≠0/\(cZ F 3=0->B≠0/\(cZ G 3=0->B≠0/\aH (eK F 3)/\B≠0/\aH (eK G 3)/\eK F 3=A.x/\eK G 3=A.y/\1=A.den)/\
  (¬cZ G 3=0->C.x+D.x+E.x=A.x/\C.y+D.y+E.y=A.y/\3=A.den))/\
 (¬cZ F 3=0->C.x+D.x+E.x=A.x/\C.y+D.y+E.y=A.y/\3=A.den)) (by kernel_rfl) (by
  change ROk r at hp;have v:∀i,i<r.length->bd 10000 (aFG r i):=λi h=>hp.near _ (dO h);have l3:=hp.three;have v0:=v 0 (by omega);have v1:=v 1 (by omega);have v2:=v 2 (by omega);have m1:cZ ((aFG r 0).x+(aFG r 1).x+(aFG r 2).x) 3=0->cZ ((aFG r 0).y+(aFG r 1).y+(aFG r 2).y) 3=0->kh r=⟨eK ((aFG r 0).x+(aFG r 1).x+(aFG r 2).x) 3,eK ((aFG r 0).y+(aFG r 1).y+(aFG r 2).y) 3,1⟩:=λh1 h2=>if_pos ⟨h1,h2⟩;have m2:¬(cZ ((aFG r 0).x+(aFG r 1).x+(aFG r 2).x) 3=0/\cZ ((aFG r 0).y+(aFG r 1).y+(aFG r 2).y) 3=0)->kh r=⟨(aFG r 0).x+(aFG r 1).x+(aFG r 2).x,(aFG r 0).y+(aFG r 1).y+(aFG r 2).y,3⟩:=λh=>if_neg h;unfold bd at v0 v1 v2;have q1:=qF (x:=(aFG r 0).x+(aFG r 1).x+(aFG r 2).x) (g:=3) (B:=4000000000) (by omega);have q2:=qF (x:=(aFG r 0).y+(aFG r 1).y+(aFG r 2).y) (g:=3) (B:=4000000000) (by omega);have x0:ix 0 r.length:=⟨by omega,by omega⟩;have x1:ix 1 r.length:=⟨by omega,by omega⟩;have x2:ix 2 r.length:=⟨by omega,by omega⟩;refine⟨x0,x1,bV (by omega),x2,bV (by omega),x0,x1,bV (by omega),x2,bV (by omega),by decide,λh1=>⟨by decide,λh2=>⟨by decide,bV (by omega),by decide,bV (by omega),?_⟩,λh2=> ?_⟩,λh1=> ?_⟩
  .grind
  .grind
  grind)
noncomputable def RU:=RW.adk aDk
noncomputable def aEN:Con:=con (ac (aL .V) (a1 aT)) (λ(r,p)=>[ROk r,-1000000<=p.x,p.x<=1000000,-1000000<=p.y,p.y<=1000000,0<=p.den,p.den<=100]) (λ(r,p)=> .bool (ml r p))
def aDi:aEN.Okz 174:=ak RU (λ(r,p)=>[cnt 2 10 r.length (aK λi=>0<((aFG r ((i+1) % r.length)).x-(aFG r i).x)*(p.y-(aFG r i).y*p.den)-((aFG r ((i+1) % r.length)).y-(aFG r i).y)*(p.x-(aFG r i).x*p.den))]
  ) (λ(_,_)=>⟨_,rfl⟩) λ(r,p) hp=>aZ ((0=(0:Int)/\(0:Nat)<=r.length/\aK (λi=>0<((aFG r ((i+1) % r.length)).x-(aFG r i).x)*(p.y-(aFG r i).y*p.den)-((aFG r ((i+1) % r.length)).y-(aFG r i).y)*(p.x-(aFG r i).x*p.den)) 0)/\
 (∀x:Nat,aA (x+1) λA=>aA (x:Int) λB=>aA (aFG r x) λC=>aA (aFG r (A % r.length)) λE=>aA (aFJ E C) λF=>aA (p.y-C.y*p.den) λG=>aA (p.x-C.x*p.den) λH=>x<=r.length/\aK (λi=>0<((aFG r ((i+1) % r.length)).x-(aFG r i).x)*(p.y-(aFG r i).y*p.den)-((aFG r ((i+1) % r.length)).y-(aFG r i).y)*(p.x-(aFG r i).x*p.den)) x->(B<r.length->ix B r.length/\aH (B+1)/\(r.length:Int)≠0/\ix ((A % r.length:Nat):Int) r.length/\bd 1000000000 E/\bd 1000000000 C/\aH (C.y*p.den)/\aH G/\aH (F.x*G)/\aH (C.x*p.den)/\aH H/\aH (F.y*H)/\aH (F.x*G-F.y*H)/\(F.x*G-F.y*H<=0->false=ml r p)/\
   (¬F.x*G-F.y*H<=0->aH (B+1)/\B+1=((x+1:Nat):Int)/\x+1<=r.length/\aK (λi=>0<((aFG r ((i+1) % r.length)).x-(aFG r i).x)*(p.y-(aFG r i).y*p.den)-((aFG r ((i+1) % r.length)).y-(aFG r i).y)*(p.x-(aFG r i).x*p.den)) A/\r.length-A<r.length-x))/\
  (¬B<r.length->true=ml r p))) (by kernel_rfl) (by
  change ROk r/\ -1000000<=p.x/\p.x<=1000000/\ -1000000<=p.y/\p.y<=1000000/\0<=p.den/\p.den<=100 at hp;obtain⟨hr,px1,px2,py1,py2,pd1,pd2⟩:=hp;have l3:=hr.three;have hl:=hr.len;have v:∀i,i<r.length->bd 10000 (aFG r i):=λi h=>hr.near _ (dO h);have md:∀i:Nat,(i:Int)<r.length->(i+1) % r.length<r.length:=λi h=>bz _ (by omega);have x1:∀i:Nat,(i:Int)<r.length->ix (((i+1) % r.length:Nat):Int) r.length:=λi h=>fC (md i h);have b1:∀i:Nat,(i:Int)<r.length->bd 1000000000 (aFG r i):=λi h=>(v i (by omega)).mono;have b2:∀i:Nat,(i:Int)<r.length->bd 1000000000 (aFG r ((i+1) % r.length)):=λi h=>(v _ (md i h)).mono;have k:∀a:Int,-10000<=a/\a<=10000-> -1000000<=a*p.den/\a*p.den<=1000000:=λa h=>by have:=iI (x:=a) (y:=p.den) (A:=10000) (B:=100) ⟨h.1,h.2⟩ ⟨by omega,by omega⟩;omega
  have m:∀a b:Int,-20000<=a/\a<=20000-> -2000000<=b/\b<=2000000-> -40000000000<=a*b/\a*b<=40000000000:=λa b h1 h2=>by have:=iI (x:=a) (y:=b) (A:=20000) (B:=2000000) h1 h2;omega
  have w:∀i:Nat,(i:Int)<r.length->aH ((aFG r i).y*p.den)/\aH (p.y-(aFG r i).y*p.den)/\aH ((aFJ (aFG r ((i+1) % r.length)) (aFG r i)).x*(p.y-(aFG r i).y*p.den))/\aH ((aFG r i).x*p.den)/\aH (p.x-(aFG r i).x*p.den)/\aH ((aFJ (aFG r ((i+1) % r.length)) (aFG r i)).y*(p.x-(aFG r i).x*p.den))/\aH ((aFJ (aFG r ((i+1) % r.length)) (aFG r i)).x*(p.y-(aFG r i).y*p.den)-(aFJ (aFG r ((i+1) % r.length)) (aFG r i)).y*(p.x-(aFG r i).x*p.den)):=λi h=>by
   have h1:=v i (by omega);have h2:=v _ (md i h);unfold bd at h1 h2;have k1:=k _ (show-10000<=(aFG r i).x/\(aFG r i).x<=10000 by omega);have k2:=k _ (show-10000<=(aFG r i).y/\(aFG r i).y<=10000 by omega);have d1: -20000<=(aFJ (aFG r ((i+1) % r.length)) (aFG r i)).x/\(aFJ (aFG r ((i+1) % r.length)) (aFG r i)).x<=20000:=by unfold aFJ;dsimp only;omega
   have d2: -20000<=(aFJ (aFG r ((i+1) % r.length)) (aFG r i)).y/\(aFJ (aFG r ((i+1) % r.length)) (aFG r i)).y<=20000:=by unfold aFJ;dsimp only;omega
   have m1:=m _ (p.y-(aFG r i).y*p.den) d1 (by omega);have m2:=m _ (p.x-(aFG r i).x*p.den) d2 (by omega);exact⟨bV (by omega),bV (by omega),bV (by omega),bV (by omega),bV (by omega),bV (by omega),bV (by omega)⟩
  have no:∀i:Nat,(i:Int)<r.length->(aFJ (aFG r ((i+1) % r.length)) (aFG r i)).x*(p.y-(aFG r i).y*p.den)-(aFJ (aFG r ((i+1) % r.length)) (aFG r i)).y*(p.x-(aFG r i).x*p.den)<=0->false=ml r p:=λi h h2=>by rw[Qk l3];symm;refine ug.2 ⟨i,cD.2 (by omega),?_⟩;intro h3;have:=of_decide_eq_true h3;unfold aFJ at h2;grind
  have yes:∀i:Nat,¬(i:Int)<r.length->i<=r.length->aK (λi=>0<((aFG r ((i+1) % r.length)).x-(aFG r i).x)*(p.y-(aFG r i).y*p.den)-((aFG r ((i+1) % r.length)).y-(aFG r i).y)*(p.x-(aFG r i).x*p.den)) i->true=ml r p:=λi h h2 h3=>by rw[Qk l3];symm;refine bh.2 λj hj=>decide_eq_true (h3 j ?_);grind
  have nx:∀i:Nat,¬(aFJ (aFG r ((i+1) % r.length)) (aFG r i)).x*(p.y-(aFG r i).y*p.den)-(aFJ (aFG r ((i+1) % r.length)) (aFG r i)).y*(p.x-(aFG r i).x*p.den)<=0->0<((aFG r ((i+1) % r.length)).x-(aFG r i).x)*(p.y-(aFG r i).y*p.den)-((aFG r ((i+1) % r.length)).y-(aFG r i).y)*(p.x-(aFG r i).x*p.den):=λi h=>by unfold aFJ at h;grind
  clear k m v md
  with_reducible ((repeat' first|apply br|intro);all_goals repeat cases‹_/\_›)
  all_goals first|rfl|with_reducible solve_by_elim|(with_reducible first|assumption|rfl|exact(w _ ‹_›).1|exact(w _ ‹_›).2.1|exact(w _ ‹_›).2.2.1|exact(w _ ‹_›).2.2.2.1|exact(w _ ‹_›).2.2.2.2.1|exact(w _ ‹_›).2.2.2.2.2.1|exact(w _ ‹_›).2.2.2.2.2.2)|exact cB ‹_› (nx _ ‹_›)|omega|grind)
noncomputable def RS:=RU.adk aDi
noncomputable def aEO:Con:=con (ac (aL .V) (a1 (aL .V))) (λ(a,b)=>[ROk a,ROk b]) (λ(a,b)=> .bool ((aJ a).any λs=>dC s b))
def aDj:aEO.Okz 172:=ak RS (λ(a,b)=>[cnt 2 10 (aJ a).length (aK λi=>dC (aW (aJ a) i) b=false)]
  ) (λ(_,_)=>⟨_,rfl⟩) λ(a,b) hp=>aZ (aA (aJ a) λB=>a.length<=1000/\(0=(0:Int)/\(0:Nat)<=B.length/\aK (λi=>dC (aW B i) b=false) 0)/\
 (∀x:Nat,aA (x:Int) λA=>aA (aW B x) λC=>x<=B.length/\aK (λi=>dC (aW B i) b=false) x->(A<B.length->ix A B.length/\x<B.length/\bd 10000 C.a/\bd 10000 C.b/\ROk b/\(dC C b=true->true=fh B (λs=>dC s b))/\
   (dC C b=false->aH (A+1)/\A+1=((x+1:Nat):Int)/\x+1<=B.length/\aK (λi=>dC (aW B i) b=false) (x+1)/\B.length-(x+1)<B.length-x))/\
  (¬A<B.length->false=fh B (λs=>dC s b)))) (by kernel_rfl) (by
  change ROk a/\ROk b at hp;obtain⟨ha,hb⟩:=hp;have la:=ha.three;have lb:=ha.len;have el:=Lz la;have e1:∀i:Nat,(i:Int)<(aJ a).length->bd 10000 (aW (aJ a) i).a/\bd 10000 (aW (aJ a) i).b:=λi h=>by rw[jB (show i<(aJ a).length by omega),BU la];exact⟨ha.near _ (dO (by omega)),ha.near _ (dO (bz _ (by omega)))⟩
  have yes:∀i:Nat,(i:Int)<(aJ a).length->dC (aW (aJ a) i) b=true->true=fh (aJ a) (λs=>dC s b):=λi h h2=>
   (aA5 (t:= .S) (l:=aJ a) (q:=λs=>dC s b) (j:=i) (by omega) h2).symm
  have no:∀i:Nat,¬(i:Int)<(aJ a).length->i<=(aJ a).length->aK (λi=>dC (aW (aJ a) i) b=false) i->false=fh (aJ a) (λs=>dC s b):=λi h h2 h3=>by
   obtain rfl:i=(aJ a).length:=by omega
   exact(ym (t:= .S) (l:=aJ a) (q:=λs=>dC s b) h3).symm
  with_reducible ((repeat' first|apply br|intro);all_goals repeat cases‹_/\_›)
  all_goals first|rfl|with_reducible solve_by_elim|(with_reducible first|assumption|rfl|exact(e1 _ ‹_›).1|exact(e1 _ ‹_›).2)|grind)
noncomputable def RT:=RS.adk aDj
noncomputable def aFv:Con:=con (ac (aL .V) (a1 (aL .V))) (λ(a,b)=>[ROk a,ROk b]) (λ(a,b)=> .bool (fA a b)
 )
def aDZ:aFv.Okz 110:=ak RT (λ(_,_)=>[]) (λ(_,_)=>⟨_,rfl⟩) λ(a,b) hp=>aZ (aA (kh a) λA=>ROk a/\ROk b/\(fh (aJ a) (λs=>dC s b)=true->true=fA a b)/\
 (fh (aJ a) (λs=>dC s b)=false->ROk b/\ROk a/\(fh (aJ b) (λs=>dC s a)=true->true=fA a b)/\
  (fh (aJ b) (λs=>dC s a)=false->ROk a/\ROk b/\ -1000000<=A.x/\A.x<=1000000/\ -1000000<=A.y/\A.y<=1000000/\0<=A.den/\A.den<=100/\ml b A=fA a b))) (by kernel_rfl) (by
  change ROk a/\ROk b at hp;obtain⟨ha,hb⟩:=hp;have c:=aAT ha;have o:fA a b=((fh (aJ a) λs=>dC s b)||((fh (aJ b) λs=>dC s a)||ml b (kh a))):=rfl;grind)
noncomputable def SM:=RT.adk aDZ
noncomputable def aFx:Con:=con (ac aSh (a1 (aL .V))) (λ(s,r)=>[Fit s,ROk r,(ao s).length<=1000000,(∀e∈ao s,aX e.a 10000=true/\aX e.b 10000=true)]) (λ(s,r)=> .bool (ow s r))
def aD1:aFx.Okz 118:=ak SM (λ(s,r)=>[cnt 2 10 (ao s).length (aK λi=>dC (aW (ao s) i) r=false)]
  ) (λ(_,_)=>⟨_,rfl⟩) λ(s,r) hp=>aZ (aA (ao s) λB=>Fit s/\(0=(0:Int)/\(0:Nat)<=B.length/\aK (λi=>dC (aW B i) r=false) 0)/\
 (∀x:Nat,aA (x:Int) λA=>aA (aW B x) λC=>x<=B.length/\aK (λi=>dC (aW B i) r=false) x->(A<B.length->ix A B.length/\bd 10000 C.a/\bd 10000 C.b/\ROk r/\(dC C r=true->false=ow s r)/\
   (dC C r=false->aH (A+1)/\A+1=((x+1:Nat):Int)/\x+1<=B.length/\aK (λi=>dC (aW B i) r=false) (x+1)/\B.length-(x+1)<B.length-x))/\
  (¬A<B.length->ROk r/\Fit s/\decide (eR s (kh r)=2)=ow s r))) (by kernel_rfl) (by
  change Fit s/\ROk r/\(ao s).length<=1000000/\((∀e∈ao s,aX e.a 10000=true/\aX e.b 10000=true))at hp;obtain⟨hf,hr,hl,he⟩:=hp;have e1:∀i:Nat,(i:Int)<(ao s).length->bd 10000 (aW (ao s) i).a:=λi h=>by rw[jB (by omega)];exact uH (he _ (nR _)).1
  have e2:∀i:Nat,(i:Int)<(ao s).length->bd 10000 (aW (ao s) i).b:=λi h=>by rw[jB (by omega)];exact uH (he _ (nR _)).2
  have t1:∀i:Nat,(i:Int)<(ao s).length->dC (aW (ao s) i) r=true->false=ow s r:=λi h h2=>by unfold ow;rw[CL (t:= .S) (l:=ao s) (q:=λe=> !dC e r) (j:=i) (by omega) (by rw[show dC (LT.S.nth (ao s) i) r=true from h2];rfl)];rfl
  have t3:∀x:Nat,¬(x:Int)<(ao s).length->x<=(ao s).length->aK (λi=>dC (aW (ao s) i) r=false) x->decide (eR s (kh r)=2)=ow s r:=λx h1 h2 h3=>by
   obtain rfl:x=(ao s).length:=by omega
   unfold ow;rw[Bv (t:= .S) (l:=ao s) (q:=λe=> !dC e r) (λj hj=>by show(!dC (aW (ao s) j) r)=true;rw[show dC (aW (ao s) j) r=false from h3 j hj];rfl),jM,fL];unfold kh;simp
  clear he
  with_reducible ((repeat' first|apply br|intro);all_goals repeat cases‹_/\_›)
  all_goals first|rfl|with_reducible solve_by_elim|(with_reducible first|assumption|rfl)|grind)
noncomputable def ID:=SM.adk aD1
end Go.Proofs.YthbofdolalagjaaGreat
