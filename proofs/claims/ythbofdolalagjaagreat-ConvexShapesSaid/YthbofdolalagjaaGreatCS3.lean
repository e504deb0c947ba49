/- What the statement stands on: contracts of functions, plain laws. Part 3 of 7, no condition of its own. (N9 N10 N20 N21 N22 N23 E1 E3 N16 X1 X2 X3 X4 N24 X12 X5 X6 X7) -/
import Derived.Test.YthbofdolalagjaaGreatCS2
import Derived.Scope
import Derived.MapKept
import Derived.IntWalk
set_option linter.all false
set_option maxRecDepth 100000
set_option maxHeartbeats 8000000
open Go.Region renaming wanted->iz
open Go.Act renaming put->og
open Array renaming getD_eq_getD_getElem?->gh,getElem?_setIfInBounds->w8,replicate->oe,getElem?_append_left->I9,getElem?_append_right->TG,getElem?_replicate->DR,mapM_eq_mapM_toList->TH,map->uc,toList_inj->p8
open Option renaming some.injEq->fg,map_eq_some_iff->mW,bind_eq_some_iff->rD,map_some->eJ,bind_some->rC,some.inj->nT
open List renaming getD_eq_getElem?_getD->eI,getElem?_set->zT,range'->DZ,length->eQ,length_cons->iE,range->bM,replicate->cl,getElem?_append_left->oU,getElem?_append_right->lO,getElem?_replicate->Db,getElem?_eq_none->mY,getElem?_eq_getElem->dw,lookup->iU,cons_append->kM,map_cons->dX,cons.injEq->qA,all_eq_true->bh,getElem_of_mem->jS,mem_map->bR,pairwise_cons->iS,getElem?_eq_some_iff->zZ,ext_getElem?->DY,mem_append_left->ig,mem_append_right->gq,getElem?_map->gr,flatMap_cons->ff,length_take->mX,take_left->Dc,take_append_drop->uX,take_of_length_le->iV,drop_eq_nil_of_le->TC,mem_singleton->bn,length_map->di,map_append->dM,map_drop->Dd,map_take->De,getElem?_range->I7,lookup_cons->dY,map_map->dU,mem_cons_self->cI,mem_cons_of_mem->cG,ext_getElem->uT,append_assoc->jt,mem_cons->bI,map_congr_left->mU,replicate_succ->xE,take_length->si,drop_zero->Df,mem_append->bl,getElem_map->kJ,not_mem_nil->cq,map_nil->po,isEmpty_iff->JB,mem_flatMap->dG
open Nat renaming le_trans->cL,zero_le->kK,le_refl->bZ,lt_or_ge->oZ,decEq->p9,zero_add->kN,add_mul->zV,min_eq_left->JA,mul_le_mul_right->zW,sub_add_cancel->Io,mod_eq_of_lt->dh,beq->bF,ne_of_beq_eq_false->mZ,blt->i5,ble->nQ,le_of_ble_eq_true->qB,eq_of_beq_eq_true->dN,add_assoc->sV,ne_of_gt->oh
open Go.Code renaming region->zR,rounds->Da
open Go.World renaming block_lt_of_cell?->kO,cell?_of_block->je
open Go.Sem renaming run_bind->cr,run_pure->da,run->gF
open Go.Result renaming andThen_ok->dB,andThen->zY
open Bool renaming and_eq_true->bj
open Go.Deferred renaming ofValue->ud
open Go.Op renaming operands->ce
open Go.Call renaming operands->ju
open Go.Value renaming int->cg
open Prod renaming mk.injEq->uZ
open Go.Obj renaming map->xD
open Go.Proofs.Tryz renaming prog->bH
open Go.IntKind renaming i64->jV
open Int renaming toNat_natCast->jf,le_refl->kk
open Go.RowKit
open Go.Proofs.YthbofdolalagjaaGreat.Geo
open Go.Proofs.YthbofdolalagjaaGreat.Geo renaming nth->aFG
namespace Go.Proofs.YthbofdolalagjaaGreat
section
abbrev pW:=Exit->List AV->Sto->Nat->Prop
def JQ{P:Program}{ops:Array Oper}{Q:Exit->Act->World->Prop}{i:Nat}{o:Oper}{a:Act}{w:World}{next:Act->World->Prop}(ho:ops[i]? =some o)
  (h:if iz o (gdV ops λs=>a.tmps.getD s Go.undef)=true then cQ P o (λs=>a.tmps.getD s Go.undef) w λv w'=>next (a.put o.dst v) w' else next (a.put o.dst Go.undef) w):wpOp P ops Q i next a w:=by
 unfold wpOp;rw[ho];simp only[];rw[D2];by_cases hw:iz o (gdV ops λs=>a.tmps.getD s undef)=true
 .rw[if_pos hw]at h|-;refine .inl ?_;unfold Oper.wp;rw[Act.eval_evalV];unfold cQ at h;cases hr:(execOp (bJ λs=>a.tmps.getD s undef) o).run P w with
  |halt x w'=>grind
  |ok n w'=>
   rw[hr]at h;cases n<;>simp only[]at h<;>first|exact h.elim|skip
   .exact h
   .exact h
   .rename_i f args;refine h.mono ?_;grind
 grind
def Mn(a:Act)(d:Option Nat)(v:Value)(t:Nat):(a.put d v).tmps.getD t Go.undef=if d=some t/\t<a.tmps.size then v else a.tmps.getD t Go.undef:=by
 cases d with
 |none=>simp[og]
 |some d=>
  simp only[og,gh,w8,fg];grind
def LP(F:List AV)(d:Option Nat)(r:AV)(t:Nat):(eP F d r).getD t .any=if d=some t/\t<F.length then r else F.getD t .any:=by
 cases d with
 |none=>simp[eP]
 |some d=>
  simp only[eP,eI,zT,fg];grind
section
variable {P:Program} {C0:bG} {B:Nat} {wI:World}
def Ax{ops tail:List Oper}{m N:Nat}{Q:Exit->Act->World->Prop}{K:List AV->Sto->jc->Prop}(hm:m+tail.length=ops.length)(hK:∀F L log a w,K F L log->St C0 B wI F L (N+m) a w->wpOps P ops.toArray Q (DZ m tail.length) a w):
  ∀(rest:List Oper) (i:Nat) (F:List AV) (L:Sto) (log:jc) (a:Act) (w:World),i<=ops.length->ops.drop i=rest++tail->eZ P N (ops.map (·.dst)) rest i F L log K->St C0 B wI F L (N+i) a w->wpOps P ops.toArray Q (DZ i (rest.length+tail.length)) a w
 |[],i,F,L,log,a,w,hil,hd,h,hS=>by
  have hi:i=m:=by have:=congrArg eQ hd;simp at this;omega
  subst hi;unfold eZ at h;grind
 |o::rest,i,F,L,log,a,w,hil,hd,h,hS=>by
  have hlt:i<ops.length:=by have:=congrArg eQ hd;simp at this;omega
  have ho:ops[i]? =some o:=by have:=congrArg (λl=>l[0]?) hd;simpa using this
  have hd':ops.drop (i+1)=rest++tail:=by have:=congrArg List.tail hd;simpa using this
  rw[iE,show rest.length+1+tail.length=(rest.length+tail.length)+1 by omega];refine JQ (by simpa using ho) ?_;obtain⟨⟨ρ,s1,s2,s3⟩,s4,s5,s6,s7⟩:=hS;have fin:∀(ρ':Ren) (W:List (Nat×Option Ob)) (r:AV) (v:Value) (w':World) (K':Prop),(∀s,cls s≠N+i->ρ' s=ρ s)->(∀b o' x,bC C0 B w ρ L b o' x->bC C0 B w' ρ' (az L W) b o' x)->StR C0 ρ' (az L W) w' B->
    aR ρ' (bC C0 B w' ρ' (az L W)) r v->Below B w w'->St C0 B wI (eP F o.dst r) (az L W) (N+(i+1)) (a.put o.dst v) w':=by
   intro ρ' W r v w' _ k1 k2 k3 k4 k5;have hext:∀s q,ρ s=some q->ρ' s=some q:=by intro s q hq;rw[k1 s (by grind)];exact hq
   refine⟨⟨ρ',k3,by grind,λt=> ?_⟩,cL s4 k5.size,by cases hd2:o.dst<;>exact s5,by rw[D7];cases hd2:o.dst<;>simpa[og]using s6,s7.trans k5⟩;rw[LP,Mn,s6];by_cases e:o.dst=some t/\t<F.length
   .grind
   .rw[if_neg e,if_neg e];exact aR.mono hext k2 _ _ (s3 t)
  have run:(∃r R W Rc Wc,bW P o (kX F) L (N+i) r R W/\inC R Rc/\inC (W.map (·.1)) Wc/\eZ P N (ops.map (·.dst)) rest (i+1) (eP F o.dst r) (az L W) (log++[(Rc,Wc)]) K)->
    cQ P o (λs=>a.tmps.getD s Go.undef) w λv w'=>wpOps P ops.toArray Q (DZ (i+1) (rest.length+tail.length)) (a.put o.dst v) w':=by
   rintro⟨r,R,W,Rc,Wc,hsim,_,_,hk⟩;have hgn:∀s,cls s=N+i->L s=none:=by
    intro s hs;cases hx:L s with
    |none=>rfl
    |some ob=>obtain⟨q,c,h1,_⟩:=s1.ob _ _ hx;grind
   refine Ab (hsim C0 ρ L _ w B s1 s4 (λ_ _=>rfl) (by grind) hgn (λx _=>BE λt _=>s3 t)) ?_;rintro v w' ⟨ρ',k1,k2,k3,k4,k5⟩;exact Ax hm hK rest (i+1) _ _ _ _ w' hlt hd' hk (fin ρ' W r v w' True k1 k2 k3 k4 k5)
  have skip:eZ P N (ops.map (·.dst)) rest (i+1) (eP F o.dst .undef) L (log++[([],[])]) K->wpOps P ops.toArray Q (DZ (i+1) (rest.length+tail.length)) (a.put o.dst Go.undef) w:=by intro h;exact Ax hm hK rest (i+1) _ _ _ _ w hlt hd' h (fin ρ [] .undef Go.undef w True (λ_ _=>rfl) (λ_ _ _ h=>h) s1 (by rfl) (Below.refl _ _))
  have hgv:∀j b q,o.guard=some (j,b)->gdA (ops.map (·.dst)) F j=some q->gdV ops.toArray (λs=>a.tmps.getD s Go.undef) j=q:=by
   intro j b q hgd hq;unfold gdA at hq;rw[Pz]at hq;cases hd:(ops[j]?).bind (·.dst)with
   |none=>grind
   |some d=>
    rw[hd]at hq;have hrep:=s3 d;unfold gdV;rw[show(ops.toArray[j]?).bind (·.dst)=some d by grind];dsimp only at hq|-;split at hq
    .rename_i bb e;unfold aR aY at hrep;grind
    .rename_i e;rw[e]at hrep;cases hq;rw[hrep];rfl
    .cases hq
  unfold eZ at h;split at h
  .rename_i hgd;have hw:iz o (gdV ops.toArray λs=>a.tmps.getD s Go.undef)=true:=by unfold iz;rw[hgd]
   grind
  .rename_i j want hgd;split at h
   .rename_i b hb;split at h
    .rename_i e;subst e;have hw:iz o (gdV ops.toArray λs=>a.tmps.getD s Go.undef)=true:=by unfold iz;rw[hgd];dsimp only;rw[hgv j b _ hgd hb];simp
     grind
    .rename_i e;have hw:iz o (gdV ops.toArray λs=>a.tmps.getD s Go.undef)=false:=by unfold iz;rw[hgd];dsimp only;rw[hgv j want _ hgd hb];simpa using e
     grind
   .rename_i hb;have hw:iz o (gdV ops.toArray λs=>a.tmps.getD s Go.undef)=false:=by unfold iz;rw[hgd];dsimp only;rw[hgv j want _ hgd hb];rfl
    grind
   grind
def UE{id N:Nat}{ops:List Oper}{Q:Exit->Act->World->Prop}{a:Act}{w:World}{F:List AV}{L:Sto}{K:List AV->Sto->Prop}
  (hS:St C0 B wI F L N a w) (h:eZ P N (ops.map (·.dst)) ops 0 F L [] λF L _=>K F L)
  (hK:∀F L a w,K F L->St C0 B wI F L (N+ops.length) a w->Q .normal a w):(zR id ops.toArray false).wp P Q a w:=by
 refine wp_region ?_;have:=Ax (P:=P) (C0:=C0) (B:=B) (wI:=wI) (Q:=Q) (tail:=[]) (m:=ops.length) rfl (λF L _ a w h hS=>hK F L a w h hS) ops 0 F L [] a w (kK _) (by simp) h (by omega);rw[List.range_eq_range'];omega
def uN(P:Program)(o:Oper)(F:List AV)(L:Sto)(N:Nat)(K:List AV->Sto->Nat->Prop):Prop:=∀(C0:bG) (B:Nat) (wI:World) (a:Act) (w:World),St C0 B wI F L N a w->
 cQ P o (λs=>a.tmps.getD s Go.undef) w λv w'=>∃F' L' N',K F' L' N'/\St C0 B wI F' L' N' (a.put o.dst v) w'
def Ud{id N:Nat}{pre:List Oper}{o:Oper}{Q:Exit->Act->World->Prop}{a:Act}{w:World}{F:List AV}{L:Sto}{K:List AV->Sto->Nat->Prop}(hgd:o.guard=none)
  (hS:St C0 B wI F L N a w) (h:eZ P N ((pre++[o]).map (·.dst)) pre 0 F L [] λF L _=>uN P o F L (N+pre.length) K)
  (hK:∀F L N a w,K F L N->St C0 B wI F L N a w->Q .normal a w):(zR id (pre++[o]).toArray false).wp P Q a w:=by
 refine wp_region ?_;have:=Ax (P:=P) (C0:=C0) (B:=B) (wI:=wI) (Q:=Q) (ops:=pre++[o]) (tail:=[o]) (m:=pre.length) (by simp) (λF L _ a w h hS=>by
  refine JQ (o:=o) (by simp) ?_;have hw:iz o (gdV (pre++[o]).toArray λs=>a.tmps.getD s Go.undef)=true:=by unfold iz;rw[hgd]
  rw[if_pos hw];refine Ab (h C0 B wI a w hS) ?_;rintro v w' ⟨F',L',N',h1,h2⟩;exact hK F' L' N' _ _ h1 h2) pre 0 F L [] a w (kK _) (by simp) h (by omega)
 rw[List.range_eq_range'];grind
end
def fe(F:List AV)(L:Sto)(N:Nat)(F':List AV)(L':Sto)(N':Nat):Prop:=∀(C0:bG) (B:Nat) (wI:World) (a:Act) (w:World),St C0 B wI F L N a w->St C0 B wI F' L' N' a w
def fe.rfl{F:List AV}{L:Sto}{N:Nat}:fe F L N F L N:=λ_ _ _ _ _ h=>h
def Sv(P:Program)(draw:Bool)(ops:List Oper)(F:List AV)(L:Sto)(N:Nat)(K:List AV->Sto->Prop):Prop:=match draw with
 |true=>∃anc:List (List Nat),P.follows .mixedOrders=true/\Cc ops anc=true/\((bM ops.length).all λi=>match(ops[i]?).bind (·.dst)with|some d=>decide (d<F.length)|none=>true)=true/\eZ P N (ops.map (·.dst)) ops 0 F L [] λF L log=>yW anc log=true/\K F L
 |false=>(ops.all (λo=>match o.guard with|none=>true|some (j,_)=>((ops[j]?).bind (·.dst)).isSome)=true)/\eZ P N (ops.map (·.dst)) ops 0 F L [] λF L _=>K F L
def awp(P:Program):Code->pW->List AV->Sto->Nat->Prop
 | .skip,Q,F,L,N=>Q .normal F L N
 | .region _ ops draw,Q,F,L,N=>(Sv P draw ops.toList F L N λF L=>Q .normal F L (N+ops.size))\/(draw=false/\∃pre o,ops.toList=pre++[o]/\o.guard=none/\eZ P N (ops.toList.map (·.dst)) pre 0 F L [] λF L _=>uN P o F L (N+pre.length) λF L N=>Q .normal F L N)
 | .seq a b,Q,F,L,N=>∃M:List AV->Sto->Nat->Prop,awp P a (λe F L N=>match e with| .normal=>M F L N|e=>Q e F L N) F L N/\∀F L N,M F L N->∃F' L' N',fe F L N F' L' N'/\awp P b Q F' L' N'
 | .cond c t e,Q,F,L,N=>∃b,kX F c= .p (.bool b)/\(b=true->awp P t Q F L N)/\(b=false->awp P e Q F L N)
 | .block id c,Q,F,L,N=>awp P c (λe F L N=>match e with| .exit id'=>if id'=id then Q .normal F L N else Q (.exit id') F L N|e=>Q e F L N) F L N
 | .loop c,Q,F,L,N=>∃(Inv:List AV->Sto->Nat->Prop) (μ:List AV->Sto->Nat->Nat),(∃F' L' N',fe F L N F' L' N'/\Inv F' L' N')/\
    ∀F L N,Inv F L N->awp P c (λe F1 L1 N1=>match e with| .normal=>∃F' L' N',fe F1 L1 N1 F' L' N'/\Inv F' L' N'/\μ F' L' N'<μ F L N|e=>Q e F1 L1 N1) F L N
 | .exit id,Q,F,L,N=>Q (.exit id) F L N
 | .ret,Q,F,L,N=>Q .ret F L N
 | .scope c,Q,F,L,N=>awp P c (λe F L N=>match e with| .goto _=>False|e=>Q e F L N) F L N
 | .label _,Q,F,L,N=>Q .normal F L N
 |_,_,_,_,_=>False
def Jp{P:Program}{c:Code}{Q:Exit->Act->World->Prop}:∀{n:Nat} {a:Act} {w:World},Da P c Q n a w->Da P c Q (n+1) a w
 |0,_,_,h=>h.elim
 |n+1,a,w,h=>by
  refine wp_mono h ?_;intro e a w h;cases e<;>first|exact h|exact Jp h
def Wm{P:Program}{c:Code}{Q:Exit->Act->World->Prop}{n m:Nat}(h:n<=m){a:Act}{w:World}(hr:Da P c Q n a w):Da P c Q m a w:=by
 induction h with
 |refl=>exact hr
 |step _ ih=>exact Jp ih
def WM{P:Program}{c:Code}{Q:Exit->Act->World->Prop}{a:Act}{w:World}(I:Nat->Act->World->Prop){n:Nat}(h0:I n a w)
  (hr:∀n a w,I n a w->c.wp P (Exit.then (λa' w'=>∃m,m<n/\I m a' w') Q) a w):(Code.loop c).wp P Q a w:=by
 have key:∀n a w,I n a w->Da P c Q (n+1) a w:=by
  intro n;induction n using Nat.strongRecOn with
  |ind n ih=>
   intro a w h;refine wp_mono (hr n a w h) ?_;intro e a' w' h';cases e<;>first|exact h'|skip
   obtain⟨m,hm,hI⟩:=h';exact Wm (by grind) (ih m hm a' w' hI)
 exact wp_loop_rounds (n+1) (key n a w h0)
def FL{P:Program}{C0:bG}{B:Nat}{wI:World}:∀(c:Code) (Q:pW) (F:List AV) (L:Sto) (N:Nat) (a:Act) (w:World),awp P c Q F L N->St C0 B wI F L N a w->
  c.wp P (λe a' w'=>∃F' L' N',Q e F' L' N'/\St C0 B wI F' L' N' a' w') a w:=by
 intro c;induction c with
 |skip=>intro Q F L N a w h hS;exact wp_skip ⟨F,L,N,h,hS⟩
 |region id ops draw=>
  intro Q F L N a w h hS;rcases h with h|⟨rfl,pre,o,h1,h2,h3⟩
  rotate_left
  .have e:ops=(pre++[o]).toArray:=by rw[<-h1]
   subst e;exact Ud h2 hS h3 (by grind)
  cases draw with
  |true=>
   obtain⟨anc,h1,h2,h3,h4⟩:=h;have:=UF (id:=id) (P:=P) (Q:=λe a' w'=>∃F' L' N',Q e F' L' N'/\St C0 B wI F' L' N' a' w') h1 anc h2 h3 hS h4 (by grind);omega
  |false=>
   obtain⟨h1,h4⟩:=h;have:=UE (id:=id) (P:=P) (Q:=λe a' w'=>∃F' L' N',Q e F' L' N'/\St C0 B wI F' L' N' a' w') hS h4 (by grind);omega
 |seq x y ihx ihy=>
  intro Q F L N a w h hS;obtain⟨M,h1,h2⟩:=h;refine wp_seq (wp_mono (ihx _ F L N a w h1 hS) ?_);rintro e a' w' ⟨F',L',N',hq,hs⟩;cases e<;>first|exact⟨F',L',N',hq,hs⟩|(obtain⟨F2,L2,N2,hw,hy⟩:=h2 _ _ _ hq;exact ihy Q F2 L2 N2 a' w' hy (hw C0 B wI a' w' hs))
 |cond c t e iht ihe=>
  intro Q F L N a w h hS;obtain⟨b,hb,h1,h2⟩:=h;obtain⟨⟨ρ,s1,s2,s3⟩,_⟩:=id hS;have hc:a.eval c= .bool b:=by rw[Act.eval_evalV];have:=BE (x:=c) (F:=F) (V:=λs=>a.tmps.getD s undef) (ρ:=ρ) (C:=bC C0 B w ρ L) (λt _=>s3 t);rw[hb]at this;unfold aR aY at this;exact this
  exact wp_cond_split hc (by grind) (by grind)
 |block id c ih=>
  intro Q F L N a w h hS;refine wp_block (wp_mono (ih _ F L N a w h hS) ?_);rintro e a' w' ⟨F',L',N',hq,hs⟩;cases e<;>first|exact⟨F',L',N',hq,hs⟩|skip
  rename_i id';unfold Exit.inBlock;grind
 |loop c ih=>
  intro Q F L N a w h hS;obtain⟨Inv,μ,⟨F0,L0,N0,hw0,hI0⟩,hround⟩:=h;refine WM (λn a w=>∃F L N,Inv F L N/\St C0 B wI F L N a w/\μ F L N=n) ⟨F0,L0,N0,hI0,hw0 C0 B wI a w hS,rfl⟩ ?_;rintro n a' w' ⟨F1,L1,N1,hI1,hS1,rfl⟩;refine wp_mono (ih _ F1 L1 N1 a' w' (hround F1 L1 N1 hI1) hS1) ?_;rintro e a2 w2 ⟨F2,L2,N2,hq,hs⟩;cases e<;>first|exact⟨F2,L2,N2,hq,hs⟩|skip
  obtain⟨F3,L3,N3,hw,hI3,hlt⟩:=hq;exact⟨_,hlt,F3,L3,N3,hI3,hw C0 B wI a2 w2 hs,rfl⟩
 |exit id=>intro Q F L N a w h hS;exact wp_exit ⟨F,L,N,h,hS⟩
 |ret=>intro Q F L N a w h hS;exact wp_ret ⟨F,L,N,h,hS⟩
 |rangeFunc f params x y _ _=>intro Q F L N a w h;exact h.elim
 |scope c ih=>
  intro Q F L N a w h hS;refine wp_scope_straight (wp_mono (ih _ F L N a w h hS) ?_);rintro e a' w' ⟨F',L',N',hq,hs⟩;cases e<;>first|exact hq.elim|exact⟨F',L',N',hq,hs⟩
 |label l=>intro Q F L N a w h hS;exact wp_label ⟨F,L,N,h,hS⟩
 |goto l=>intro Q F L N a w h;exact h.elim
 |refuse s=>intro Q F L N a w h;exact h.elim
section
variable {P:Program} {y:Code} {Q:pW} {F:List AV} {L:Sto} {N:Nat}
def gOk(l:List Oper):Bool:=l.all λo=>match o.guard with|none=>true|some (j,_)=>((l[j]?).bind (·.dst)).isSome
def dOk(l:List Oper)(n:Nat):Bool:=(bM l.length).all λi=>match(l[i]?).bind (·.dst)with|some d=>decide (d<n)|none=>true
def UO{x:Code}(J:List AV->Sto->Nat->Prop)(h1:awp P x (λe F L N=>match e with| .normal=>∃F' L' N',fe F L N F' L' N'/\J F' L' N'|e=>Q e F L N) F L N)(h2:∀F L N,J F L N->awp P y Q F L N):awp P (.seq x y) Q F L N:=
 ⟨λF L N=>∃F' L' N',fe F L N F' L' N'/\J F' L' N',h1,by grind⟩
def Ze{c:Code}(Inv:List AV->Sto->Nat->Prop)(μ:List AV->Sto->Nat)(h0:∃F' L' N',fe F L N F' L' N'/\Inv F' L' N')
 (hr:∀F L N,Inv F L N->awp P c (λe F1 L1 N1=>match e with| .normal=>∃F' L' N',fe F1 L1 N1 F' L' N'/\Inv F' L' N'/\μ F' L'<μ F L|e=>Q e F1 L1 N1) F L N):awp P (.loop c) Q F L N:=⟨Inv,λF L _=>μ F L,h0,hr⟩
def Xs{c:Code}(Inv:List AV->Sto->Nat->Prop)(μ:List AV->Sto->Nat->Nat)(h0:∃F' L' N',fe F L N F' L' N'/\Inv F' L' N')
 (hr:∀F L N,Inv F L N->awp P c (λe F1 L1 N1=>match e with| .normal=>∃F' L' N',fe F1 L1 N1 F' L' N'/\Inv F' L' N'/\μ F' L' N'<μ F L N|e=>Q e F1 L1 N1) F L N):awp P (.loop c) Q F L N:=⟨Inv,μ,h0,hr⟩
end
section
variable {P:Program} {N:Nat} {ds:List (Option Nat)} {K:List AV->Sto->jc->Prop}
end
end
section
def jI(P:Program):List ResultVar->List AV->(Nat->Option Ob)->(List AV->Prop)->Prop
 |[],_,_,K=>K []
 | .tmp t::rs,F,σ,K=>jI P rs F σ λl=>K (F.getD t .any::l)
 | .cell a t::rs,F,σ,K=>(match F.getD a .any with
   | .ptr s off=>∃ob,σ s=some ob/\ry P t ob.cells off λr=>jI P rs F σ λl=>K (r::l)
   |_=>False)
def wQ:List PV->PV
 |[x] =>x
 |m=> .tup m
def Cy(tmps:Array Value):ResultVar->Sem Value
 | .tmp t=>pure (tmps.getD t Go.undef)
 | .cell a t=>do loadVar t (<-asAddr (tmps.getD a Go.undef))
def Dw(fn:Func)(tmps:Array Value):results fn tmps=(do let vs<-fn.results.mapM (Cy tmps);pure (if h:vs.size=1 then vs[0]else .tuple vs)):=by
 congr 1
def IJ(P:Program)(rs:List ResultVar)(r:PV):pW:=λe F L _=>match e with
 | .normal| .ret=>jI P rs F L λl=>∃m,dr (dL 3 L) l=some m/\wQ m=r
 |_=>False
section
variable {P:Program} {C0:bG} {B:Nat} {wI:World}
def xy{ρ:Ren}{σ:Nat->Option Ob}{a:Act}{w:World}{F:List AV}(hs:StR C0 ρ σ w B)(hf:∀t,aR ρ (bC C0 B w ρ σ) (F.getD t .any) (a.tmps.getD t Go.undef)):
  ∀(rs:List ResultVar) (K:List AV->Prop),jI P rs F σ K->∃l vs,K l/\(rs.mapM (Cy a.tmps)).run P w= .ok vs w/\bE ρ (bC C0 B w ρ σ) l vs
 |[],K,h=>⟨[],[],h,by simp,by rfl⟩
 | .tmp t::rs,K,h=>by
   obtain⟨l,vs,h1,h2,h3⟩:=xy hs hf rs _ h;refine⟨_,_::vs,h1,?_,by exact⟨_,vs,rfl,hf t,h3⟩⟩;simp[List.mapM_cons,h2,Cy]
 | .cell x t::rs,K,h=>by
   unfold jI at h;split at h
   .rename_i s off e;obtain⟨ob,hob,hl⟩:=h;obtain⟨r,hr,hv⟩:=Lh hl;obtain⟨l,vs,h1,h2,h3⟩:=xy hs hf rs _ hr;have hx:=hf x;rw[e]at hx;obtain⟨b,c,hq,hpt⟩:=hx;obtain⟨_,arr,hO⟩:=hs.at hob hq;obtain⟨v,hrun,hrep⟩:=hv _ _ w b c arr hO;have hrun':(loadVar t ⟨b,off,none⟩).run P w= .ok v w:=by simpa[Instr.loadAt,Instr.sureAddr]using hrun
    refine⟨_,v::vs,h1,?_,by unfold bE;grind⟩;simp[List.mapM_cons,h2,Cy,hpt,asAddr,hrun']
   grind
def y8:Sto:=λs=>if s=sit 0 0 then some ⟨0,0,[.undef]⟩else none
def tq(L:Sto)(N:Nat):Prop:=(L=(λ_=>none)/\N=0)\/(L=y8/\N=1)
def tq.st{L:Sto}{N:Nat}(h:tq L N){C:bG}{w:World}(hC:∀b o v,C b o v->w.cell? ⟨b,o,none⟩=some v):
  ∃ρ:Ren,StR C ρ L w w.heap.size/\(∀s,N<=cls s->ρ s=none)/\∀s b c,ρ s≠some (some b,c):=by
 rcases h with⟨rfl,rfl⟩|⟨rfl,rfl⟩
 .exact⟨λ_=>none,⟨by grind,by grind,by grind⟩,λ_ _=>rfl,by grind⟩
 .have hat:∀s o,y8 s=some o->s=sit 0 0/\o=⟨0,0,[.undef]⟩:=by
   intro s o h;unfold y8 at h;split at h
   .grind
   .cases h
  refine⟨λs=>if s=sit 0 0 then some (none,0)else none,⟨?_,?_,?_⟩,?_,?_⟩
  .intro s o h;obtain⟨rfl,rfl⟩:=hat s o h;have hno:∀i v,¬C w.heap.size i v:=λi v hv=>absurd (kO w ⟨w.heap.size,i,none⟩ (hC _ _ _ hv)) (Nat.lt_irrefl _);exact⟨none,0,by simp,.inl ⟨rfl,.inr ⟨rfl,.inl (by grind)⟩⟩⟩
  .grind
  .grind
  .intro s hs;try dsimp only
   split
   .rename_i e;rw[e,iW]at hs;omega
   .rfl
  grind
def VU{f:FuncId}{fn:Func}{c:Code}{A:List PV}{r:PV}(hok:kE P f=true)(hf:P.funcs[f]? =some fn)(hb:fn.body=some c)
  {L0:Sto} {N0:Nat} (h0:tq L0 N0) (h:awp P c (IJ P fn.results.toList r) (A.map .p++cl (fn.ntmps-A.length) .undef) L0 N0):Sat P false f A r:=by
 refine⟨hok,λC w vs hC hrep=> ?_⟩;obtain⟨ρ0,z1,z2,z3⟩:=h0.st hC;have hlen:=hrep.length;refine calls_of_wp hf hb (wp_mono (FL (C0:=C) (B:=w.heap.size) (wI:=w) c _ _ _ _ _ _ h ?_) ?_)
 .refine⟨⟨ρ0,z1,z2,λt=> ?_⟩,bZ _,rfl,by simp[hlen],Below.refl _ _⟩;by_cases ht:t<A.length
  .have e1:(A.map AV.p++cl (fn.ntmps-A.length) AV.undef).getD t .any= .p A[t] :=by rw[eI,oU (by grind)];simp[ht]
   obtain⟨v,h1,h2⟩:=hrep.get _ _ t A[t] (by grind);have e2:(vs.toArray++oe (fn.ntmps-vs.toArray.size) undef).getD t undef=v:=by rw[gh,I9 (by simp;omega)];simp[h1]
   rw[e1];rw[e2];refine aY.mono (λb o x hx=>⟨hC b o x hx,by grind,.inr hx⟩) _ v h2
  .by_cases ht2:t<A.length+(fn.ntmps-A.length)
   .have e1:(A.map AV.p++cl (fn.ntmps-A.length) AV.undef).getD t .any= .undef:=by rw[eI,lO (by simp;omega),Db,if_pos (by simp;omega)];rfl
    have e2:(vs.toArray++oe (fn.ntmps-vs.toArray.size) undef).getD t undef=undef:=by rw[gh,TG (by simp;omega),DR];split<;>rfl
    rw[e1];rw[e2];rfl
   .have e1:(A.map AV.p++cl (fn.ntmps-A.length) AV.undef).getD t .any= .any:=by rw[eI,mY (by simp;omega)];rfl
    rw[e1];trivial
 .rintro e a w' ⟨F,L,N,hq,⟨ρ,s1,s2,s3⟩,s4,s5,s6,s7⟩;have fin:jI P fn.results.toList F L (λl=>∃m,dr (dL 3 L) l=some m/\wQ m=r)->a.defers=[]/\∃v,(results fn a.tmps).run P w'= .ok v w'/\∃v',Ending.returned v= .returned v'/\aY (λb o x=>((false:Bool)=false/\C b o x)\/(w.heap.size<=b/\w'.cell? ⟨b,o,none⟩=some x)) r v'/\Below w.heap.size w w':=by
   intro h;refine⟨s5,?_⟩;obtain⟨l,us,⟨m,hm,hr⟩,h2,h3⟩:=xy s1 s3 _ _ h;have hres:(results fn a.tmps).run P w'= .ok (if h:us.toArray.size=1 then us.toArray[0]else .tuple us.toArray) w':=by rw[Dw,TH];simp only[cr,Sem.run_map,h2,dB,da]
   refine⟨_,hres,_,rfl,?_,s7⟩;obtain⟨g1,g2⟩:=o6 hm;have hrl:bK (λb o x=>((false:Bool)=false/\C b o x)\/(w.heap.size<=b/\w'.cell? ⟨b,o,none⟩=some x)) m us:=by
    refine bK.of _ _ (by rw[<-g1];exact h3.length) λi y hi=> ?_;have hlt:i<l.length:=by rw[g1];grind
    obtain⟨y',h5,h6⟩:=g2 i _ (dw hlt);rw[hi]at h5;cases h5;obtain⟨v,k1,k2⟩:=h3.get _ _ i _ (dw hlt);refine⟨v,k1,FW s1 _ (λ_=>True) ?_ ?_ 3 _ _ v h6 (by grind) k2⟩
    .rintro b o x ⟨e1,e2,e3⟩;grind
    .grind
   rw[<-hr];cases m with
   |nil=>
    subst hrl;exact⟨[],rfl,by rfl⟩
   |cons x m=>
    cases m with
    |nil=>
     obtain⟨v,r',rfl,h7,h8⟩:=hrl;subst h8;unfold wQ;grind
    |cons y m=>
     have hl:¬us.toArray.size=1:=by have:=hrl.length;simp at this;simp;omega
     unfold wQ aY;grind
  cases e<;>first|exact fin hq|exact hq.elim
end
def jX:∀{l:List AV} {A:List PV},bT l=some A->l=A.map .p
 |[],A,h=>by simp[bT]at h;subst h;rfl
 |x::l,A,h=>by
  unfold bT at h;split at h
  .grind
  .rename_i y l' e;cases e;simp only[mW]at h;obtain⟨r,h1,rfl⟩:=h;rw[jX h1];rfl
  .cases h
section
variable {P:Program} {σ:Nat->Option Ob} {f:FuncId} {fr:Bool} {A:List PV} {r:PV} {avs:List AV} {K:Res}
def EF(hs:Sat P fr f A r)(hA:bT avs=some A)(hK:K (.p r) [] []):qU P σ f avs K:=by have:=jX hA;subst this;refine .inl ⟨A,th 3 σ A,fr,r,hs,.inl ⟨.inr hA,?_⟩⟩;rw[qO];exact hK
def Jc{R:List Nat}(hs:Sat P true f A r)(hA:dr (dL 3 σ) avs=some A)(hR:bQ (cR 3 σ) avs=R)(hK:K (.p r) R []):qU P σ f avs K:=by subst hR;exact .inl ⟨A,hA,true,r,hs,by grind⟩
def Uq{R:List Nat}(hs:Sat P fr f A r)(hA:dr (dL 3 σ) avs=some A)(hR:bQ (cR 3 σ) avs=R)(hK:K (.p r) R (R.map (·,none))):qU P σ f avs K:=by subst hR;exact .inl ⟨A,hA,fr,r,hs,.inr hK⟩
def PV.flat:PV->Bool
 | .int .. | .bool _| .str _=>true
 | .agg l| .tup l=>l.all λx=>match x with| .int .. | .bool _| .str _=>true|_=>false
 |_=>false
def aY.flat1{C C':bG}{x:PV}{v:Value}(hf:(match x with| .int .. | .bool _| .str _=>true|_=>false)=true)(h:aY C x v):aY C' x v:=by cases x<;>first|(cases hf;done)|(unfold aY at*;exact h)
def bK.flat{C C':bG}:∀{l:List PV} {vs:List Value},l.all (λx=>match x with| .int .. | .bool _| .str _=>true|_=>false)=true->bK C l vs->bK C' l vs
 |[],vs,_,h=>by exact h
 |x::l,vs,hf,h=>by
  obtain⟨v,r,rfl,h1,h2⟩:=h;simp only[List.all_cons,bj]at hf;exact⟨v,r,rfl,aY.flat1 hf.1 h1,bK.flat hf.2 h2⟩
def aY.flat{C C':bG}{x:PV}{v:Value}(hf:x.flat=true)(h:aY C x v):aY C' x v:=by
 cases x<;>first|(cases hf;done)|(unfold aY at*;exact h)|skip
 .obtain⟨vs,h1,h2,h3⟩:=h;exact⟨vs,h1,bK.flat hf h2,h3⟩
 .obtain⟨vs,h1,h2⟩:=h;exact⟨vs,h1,bK.flat hf h2⟩
def Sat.fresh(hs:Sat P fr f A r)(hf:r.flat=true):Sat P true f A r:=
 ⟨hs.1,λC w vs hC hr=>(hs.2 C w vs hC hr).mono λ_e _w' ⟨v,h1,h2,h3⟩=>⟨v,h1,aY.flat hf h2,h3⟩⟩
end
def IK(P:Program)(rs:List ResultVar)(ty esz:Nat)(cells:List PV)(m:Nat)(ys:List PV):pW:=λe F L _=>match e with
 | .normal| .ret=>jI P rs F L λl=>(∃s,l= .own s 0 m::ys.map .p/\L s=some ⟨ty,esz,cells.map .p⟩)\/(l= .nil::ys.map .p/\m=0/\cells=[])
 |_=>False
section
variable {P:Program} {C0:bG} {B:Nat} {wI:World}
def bE.Fk{ρ:Ren}{C:bG}:∀{l:List PV} {vs:List Value},bE ρ C (l.map .p) vs->bK C l vs
 |[],vs,h=>by exact h
 |x::l,vs,h=>by
  obtain⟨v,r,rfl,h2,h3⟩:=h;exact⟨v,r,rfl,h2,bE.Fk h3⟩
def LB{f:FuncId}{fn:Func}{c:Code}{A:List PV}{Q:pW}{C:bG}{w:World}{vs:List Value}{R:Ending->World->Prop}(hf:P.funcs[f]? =some fn)(hb:fn.body=some c)(hC:∀b o v,C b o v->w.cell? ⟨b,o,none⟩=some v)(hrep:bK C A vs)
  {L0:Sto} {N0:Nat} (h0:tq L0 N0) (h:awp P c Q (A.map .p++cl (fn.ntmps-A.length) .undef) L0 N0)
  (hR:∀e a w' F L N,Q e F L N->St C w.heap.size w F L N a w'->(match e with| .normal| .ret=>a.defers=[]/\∃v,(results fn a.tmps).run P w'= .ok v w'/\R (.returned v) w'|_=>False)):Calls P f vs.toArray w R:=by
 obtain⟨ρ0,z1,z2,z3⟩:=h0.st hC;have hlen:=hrep.length;refine calls_of_wp hf hb (wp_mono (FL (C0:=C) (B:=w.heap.size) (wI:=w) c _ _ _ _ _ _ h ?_) ?_)
 .refine⟨⟨ρ0,z1,z2,λt=> ?_⟩,bZ _,rfl,by simp[hlen],Below.refl _ _⟩;by_cases ht:t<A.length
  .have e1:(A.map AV.p++cl (fn.ntmps-A.length) AV.undef).getD t .any= .p A[t] :=by rw[eI,oU (by grind)];simp[ht]
   obtain⟨v,h1,h2⟩:=hrep.get _ _ t A[t] (by grind);have e2:(vs.toArray++oe (fn.ntmps-vs.toArray.size) undef).getD t undef=v:=by rw[gh,I9 (by simp;omega)];simp[h1]
   rw[e1];rw[e2];refine aY.mono (λb o x hx=>⟨hC b o x hx,by grind,.inr hx⟩) _ v h2
  .by_cases ht2:t<A.length+(fn.ntmps-A.length)
   .have e1:(A.map AV.p++cl (fn.ntmps-A.length) AV.undef).getD t .any= .undef:=by rw[eI,lO (by simp;omega),Db,if_pos (by simp;omega)];rfl
    have e2:(vs.toArray++oe (fn.ntmps-vs.toArray.size) undef).getD t undef=undef:=by rw[gh,TG (by simp;omega),DR];split<;>rfl
    rw[e1];rw[e2];rfl
   .have e1:(A.map AV.p++cl (fn.ntmps-A.length) AV.undef).getD t .any= .any:=by rw[eI,mY (by simp;omega)];rfl
    rw[e1];trivial
 .rintro e a w' ⟨F,L,N,hq,hS⟩;have:=hR e a w' F L N hq hS;cases e<;>first|exact this|exact this.elim
def Ub{f:FuncId}{fn:Func}{c:Code}{A:List PV}{ty esz:Nat}{cells:List PV}{m:Nat}{ys:List PV}(hok:kE P f=true)(he:esz≠0)(hf:P.funcs[f]? =some fn)(hb:fn.body=some c)
  {L0:Sto} {N0:Nat} (h0:tq L0 N0) (h:awp P c (IK P fn.results.toList ty esz cells m ys) (A.map .p++cl (fn.ntmps-A.length) .undef) L0 N0):wg P f A ty esz cells m ys:=by
 refine⟨hok,he,λC w vs hC hrep=>LB hf hb hC hrep h0 h ?_⟩;rintro e a w' F L N hq ⟨⟨ρ,s1,s2,s3⟩,s4,s5,s6,s7⟩;have fin:jI P fn.results.toList F L (λl=>(∃s,l= .own s 0 m::ys.map .p/\L s=some ⟨ty,esz,cells.map .p⟩)\/(l= .nil::ys.map .p/\m=0/\cells=[]))->a.defers=[]/\∃v,(results fn a.tmps).run P w'= .ok v w'/\∃v' us q c,Ending.returned v= .returned (zA v' us)/\Below w.heap.size w w'/\bK (pT C w.heap.size q w') ys us/\
   ((q=none/\v'= .slice none 0 0/\m=0/\cells=[]/\c=0)\/∃b arr,q=some b/\v'= .slice (some ⟨b,0,none⟩) m c/\m<=c/\w.heap.size<=b/\w'.heap[b]? =some (.cells arr ty (0,0))/\
     arr.size=c*esz/\cells.length<=arr.size/\c<=maxLen/\∀(i:Nat) x,cells[i]? =some x->∃u,arr[i]? =some u/\u.oneCell'=true/\aY (pT C w.heap.size q w') x u):=by
  intro h;refine⟨s5,?_⟩;obtain⟨l,us,hl,h2,h3⟩:=xy s1 s3 _ _ h;have hres:(results fn a.tmps).run P w'= .ok (if h:us.toArray.size=1 then us.toArray[0]else .tuple us.toArray) w':=by rw[Dw,TH];simp only[cr,Sem.run_map,h2,dB,da]
  refine⟨_,hres,?_⟩;have hout:∀v us',us=v::us'->(if h:us.toArray.size=1 then us.toArray[0]else Value.tuple us.toArray)=zA v us':=by
   rintro v us' rfl;cases us' with
   |nil=>rfl
   |cons u us'=>rfl
  rcases hl with⟨s,rfl,hs⟩|⟨rfl,hm,hc⟩
  .obtain⟨v,us',rfl,hv,hys⟩:=h3;obtain⟨q,c,hρ,hcase⟩:=hv;have hkeep:∀b o x,bC C w.heap.size w' ρ L b o x->pT C w.heap.size q w' b o x:=by
    rintro b o x ⟨e1,e2,e3|e3⟩
    .refine .inr ⟨e3,λhq=> ?_,e1⟩;grind
    .exact .inl e3
   refine⟨v,us',q,c,by grind,s7,bK.mono hkeep _ _ (bE.Fk hys),?_⟩;obtain⟨q2,c2,hρ2,hob⟩:=s1.ob s _ hs;rw[hρ]at hρ2;cases hρ2;rcases hcase with⟨h1,h4,h5,_⟩|⟨b,o',c',h1,h4,h5,h6,h7⟩
   .simp_all
   .obtain⟨rfl,rfl⟩:=h7 rfl;rcases hob with⟨h8,_⟩|⟨b2,arr,h8,h9,h10⟩
    .grind
    .rw[h1]at h8;cases h8;obtain⟨r1,r2,r3⟩:=h10.row he;refine .inr ⟨b,arr,h1,h4,h5,h9,h10.blk,r1,by grind,r3,λi x hi=> ?_⟩;obtain⟨u,k1,k2,k3⟩:=h10.cells i (.p x) (by grind);exact⟨u,k1,k2,aY.mono hkeep x u k3⟩
  .obtain⟨v,us',rfl,hv,hys⟩:=h3;refine⟨v,us',none,0,by grind,s7,bK.mono ?_ _ _ (bE.Fk hys),.inl ⟨rfl,hv,hm,hc,rfl⟩⟩;rintro b o x ⟨e1,e2,e3|e3⟩
   .exact .inr (by grind)
   .exact .inl e3
 cases e<;>first|exact fin hq|exact hq.elim
end
end
section
def Zh{ρ:Ren}{C:bG}{A:List AV}{vs:List Value}{n:Nat}(h:bE ρ C A vs)(t:Nat):aR ρ C ((A++cl (n-A.length) AV.undef).getD t .any) ((vs.toArray++oe (n-vs.toArray.size) Go.undef).getD t Go.undef):=by
 have hlen:=h.length;by_cases ht:t<A.length
 .obtain⟨v,h1,h2⟩:=h.get _ _ t A[t] (by grind);have e2:(vs.toArray++oe (n-vs.toArray.size) Go.undef).getD t Go.undef=v:=by rw[gh,I9 (by simp;omega)];simp[h1]
  grind
 .by_cases ht2:t<A.length+(n-A.length)
  .have e1:(A++cl (n-A.length) AV.undef).getD t .any= .undef:=by rw[eI,lO (by omega),Db,if_pos (by omega)];rfl
   have e2:(vs.toArray++oe (n-vs.toArray.size) Go.undef).getD t Go.undef=Go.undef:=by rw[gh,TG (by simp;omega),DR];split<;>rfl
   rw[e1,e2];rfl
  .have e1:(A++cl (n-A.length) AV.undef).getD t .any= .any:=by rw[eI,mY (by simp;omega)];rfl
   rw[e1];trivial
abbrev eY:Nat:=sit 0 0
def FV{C0:bG}{B:Nat}{ρ:Ren}{w:World}{L:Sto}{S:List AV}(h:StR C0 ρ L w B)(hL:L eY=some ⟨0,0,.undef::S⟩):
  ∃c,ρ eY=some (none,c)/\(∀(i:Nat) x,(AV.undef::S)[i]? =some x->∀v,C0 B i v->aR ρ (bC C0 B w ρ L) x v)/\∀i v,C0 B i v->i<(AV.undef::S).length:=by
 obtain⟨q,c,h1,⟨rfl,h2|⟨_,h2⟩⟩|⟨b,arr,_,_,h2⟩⟩:=h.ob _ _ hL
 .grind
 .rcases h2 with⟨_,h3,h4⟩|⟨h3,_⟩
  .grind
  .cases h3
 .obtain⟨v,_,h3,h4⟩:=h2.cells 0 .undef rfl;subst h4;cases h3
def StR.stk{C0 C1:bG}{B:Nat}{ρ:Ren}{w:World}{L:Sto}{S T:List AV}(h:StR C0 ρ L w B)(hL:L eY=some ⟨0,0,.undef::S⟩)(h1:∀b,b<B->C1 b=C0 b)
  (h2:∀(i:Nat) x,T[i]? =some x->∀v,C1 B i v->aR ρ (bC C0 B w ρ L) x v) (h3:∀i v,C1 B i v->i<T.length):
  (∀b o x,bC C1 B w ρ (az L [(eY,some ⟨0,0,T⟩)]) b o x↔bC C0 B w ρ L b o x)/\StR C1 ρ (az L [(eY,some ⟨0,0,T⟩)]) w B:=by
 obtain⟨c0,k1,_,_⟩:=FV h hL;have hup:∀s,s≠eY->az L [(eY,some ⟨0,0,T⟩)] s=L s:=by intro s hs;unfold az;simp[iU,beq_eq_false_iff_ne.2 hs]
 have hus:az L [(eY,some ⟨0,0,T⟩)] eY=some ⟨0,0,T⟩:=by unfold az;simp[iU]
 have hC:∀b o x,bC C1 B w ρ (az L [(eY,some ⟨0,0,T⟩)]) b o x↔bC C0 B w ρ L b o x:=by
  intro b o x;have e:(B<=b\/C1 b o x)↔(B<=b\/C0 b o x):=by
   rcases oZ b B with hb|hb
   .rw[h1 b hb]
   .omega
  unfold bC;rw[e];refine and_congr_right λ_=>and_congr_left λ_=>forall_congr' λs=>forall_congr' λc=> ?_;by_cases hs:s=eY
  .grind
  .rw[hup s hs]
 refine⟨hC,?_,?_,?_⟩
 .intro s o ho;by_cases hs:s=eY
  .subst hs;cases ho;exact⟨none,c0,k1,.inl ⟨rfl,.inr ⟨rfl,.inl ⟨rfl,λi x hi v hv=>aR.mono (λ_ _ h=>h) (by grind) x v (h2 i x hi v hv),h3⟩⟩⟩⟩
  .rw[hup s hs]at ho;obtain⟨q,c,e1,⟨e2,e3|⟨e3,e4⟩⟩|⟨b,arr,e2,e3,e4⟩⟩:=h.ob s o ho
   .grind
   .refine⟨q,c,e1,.inl ⟨e2,.inr ⟨e3,?_⟩⟩⟩;rcases e4 with⟨f1,f2,f3⟩|⟨f1,f2,es,clock,f3,f4⟩
    .subst e2;exact absurd (h.mpi s eY o _ c c0 ho hL e3 rfl e1 k1 (.inr ⟨f1,rfl⟩)) hs
    .exact .inr ⟨f1,f2,es,clock,f3,bE.mono (λ_ _ h=>h) (by grind) _ _ f4⟩
   .refine⟨q,c,e1,.inr ⟨b,arr,e2,e3,e4.blk,e4.box,e4.row,λi x hi=> ?_⟩⟩;obtain⟨v,g1,g2,g3⟩:=e4.cells i x hi;exact⟨v,g1,g2,aR.mono (λ_ _ h=>h) (by grind) x v g3⟩
 .intro s s' o o' b c c' e1 e2 e3 e4;have n1:s≠eY:=λe=>by grind
  have n2:s'≠eY:=λe=>by grind
  rw[hup s n1]at e1;rw[hup s' n2]at e2;exact h.inj s s' o o' b c c' e1 e2 e3 e4
 .intro s s' o o' c c' e1 e2 m1 m2 e3 e4 hT;have key:∀s o,az L [(eY,some ⟨0,0,T⟩)] s=some o->∃o2,L s=some o2/\o2.ty=o.ty/\o2.esz=o.esz:=by
   intro s o ho;by_cases hs:s=eY
   .grind
   .grind
  obtain⟨p,f1,f2,f3⟩:=key s o e1;obtain⟨p',f1',f2',f3'⟩:=key s' o' e2;exact h.mpi s s' p p' c c' f1 f1' (by omega) (by omega) e3 e4 (by unfold sT at*;grind)
variable {P:Program}
def sP:List AV->AV
 |[] => .undef
 |[x] =>x
 |l=> .tup l
def OM{C0:bG}{B:Nat}{fn:Func}{ρ:Ren}{σ:Nat->Option Ob}{a:Act}{w:World}{F:List AV}{K:List AV->Prop}(hs:StR C0 ρ σ w B)(hf:∀t,aR ρ (bC C0 B w ρ σ) (F.getD t .any) (a.tmps.getD t Go.undef))(h:jI P fn.results.toList F σ K):
  ∃l v,K l/\(results fn a.tmps).run P w= .ok v w/\aR ρ (bC C0 B w ρ σ) (sP l) v:=by
 obtain⟨l,us,hl,h2,h3⟩:=xy hs hf _ _ h;have hres:(results fn a.tmps).run P w= .ok (if h:us.toArray.size=1 then us.toArray[0]else .tuple us.toArray) w:=by rw[Dw,TH];simp only[cr,Sem.run_map,h2,dB,da]
 refine⟨l,_,hl,hres,?_⟩;match l,us,h3 with
 |[],us,h3=>subst h3;rfl
 |[x],us,h3=>
  obtain⟨v,r,rfl,h4,h5⟩:=h3;subst h5;exact h4
 |x::y::l,us,h3=>
  have hlen:=h3.length;show aR _ _ (.tup (x::y::l)) _;unfold aR;grind
def Sl(P:Program)(rs:List ResultVar)(d:Option Nat)(m n:Nat)(K:List AV->Sto->Nat->Prop):pW:=λe Fc Lc Nc=>match e with
 | .normal| .ret=>jI P rs Fc Lc λl=>∃S F2,Lc eY=some ⟨0,0,.undef::(S++F2)⟩/\S.length=m/\F2.length=n/\K (eP F2 d (sP l)) (az Lc [(eY,some ⟨0,0,.undef::S⟩)]) Nc
 |_=>False
def Y7{o:Oper}{c:Call}{f:Operand}{fid:FuncId}{fn:Func}{body:Code}{A S F:List AV}{L:Sto}{N:Nat}{K:List AV->Sto->Nat->Prop}(ho:o.op= .call c)(hc:c.callee= .value f)(hfv:kX F f= .p (.fn (.func fid) [] []))
  (hA:c.args.toList.map (kX F)=A) (hok:kE P fid=true) (hf:P.funcs[fid]? =some fn) (hb:fn.body=some body) (hL:L eY=some ⟨0,0,.undef::S⟩)
  (h:awp P body (Sl P fn.results.toList o.dst S.length F.length K) (A++cl (fn.ntmps-A.length) .undef) (az L [(eY,some ⟨0,0,.undef::(S++F)⟩)]) N):uN P o F L N K:=by
 intro C0 B wI a w ⟨⟨ρ,s1,s2,s3⟩,s4,s5,s6,s7⟩;obtain⟨c0,k1,k2,k3⟩:=FV s1 hL
 let V:Nat->Value:=λs=>a.tmps.getD s Go.undef
 have hev:∀x:Operand,aR ρ (bC C0 B w ρ L) (kX F x) (bJ V x):=λx=>BE λt _=>s3 t;have hvf:bJ V f= .func (.func fid) #[] #[] :=by have:=hev f;rw[hfv]at this;unfold aR aY at this;obtain⟨v1,v2,h1,h2,h3⟩:=this;unfold bK at h2 h3;rw[h1,h2,h3]
 have hrun:(execOp (bJ V) o).run P w= .ok (.enter fid (c.args.toList.map (bJ V)).toArray) w:=by
  unfold execOp;rw[ho];have e2: #[] ++uc (bJ V) c.args++ #[] =(c.args.toList.map (bJ V)).toArray:=by apply p8.1;simp
  simp only[resolve,hc,hvf,ud,cr,da,dB,invoke,l5 hok,e2]
 have hargs:bE ρ (bC C0 B w ρ L) A (c.args.toList.map (bJ V)):=by
  rw[<-hA];generalize c.args.toList=l;induction l with
  |nil=>rfl
  |cons x l ih=>unfold bE;grind
 let C1:bG:=λb i v=>if b=B then(if i<(AV.undef::S).length then C0 B i v else a.tmps[i-(AV.undef::S).length]? =some v)else C0 b i v
 have hC1:∀b,b<B->C1 b=C0 b:=by grind
 have hC1B:∀i v,C1 B i v->if i<(AV.undef::S).length then C0 B i v else a.tmps[i-(AV.undef::S).length]? =some v:=by grind
 obtain⟨hCC,hst⟩:=s1.stk (C1:=C1) (T:= .undef::(S++F)) hL hC1 (by
  intro i x hi v hv;have hv:=hC1B i v hv;rw[<-kM]at hi;split at hv
  .grind
  .rw[lO (by omega)]at hi;have:=s3 (i-(AV.undef::S).length);simp_all) (by
  grind)
 unfold cQ;rw[hrun];have hlen:=hargs.length;have hfin:∀(e:Exit) (a':Act) (w':World),(∃F' L' N',Sl P fn.results.toList o.dst S.length F.length K e F' L' N'/\St C1 B w F' L' N' a' w')->
   match e with| .normal| .ret=>a'.defers=[]/\∃v,(results fn a'.tmps).run P w'= .ok v w'/\∃v',Ending.returned v= .returned v'/\∃F' L' N',K F' L' N'/\St C0 B wI F' L' N' (a.put o.dst v') w'|_=>False:=by
  rintro e a' w' ⟨Fc,Lc,Nc,hq,⟨⟨ρ1,t1,t2,t3⟩,t4,t5,t6,t7⟩⟩;have fin:jI P fn.results.toList Fc Lc (λl=>∃S2 F2,Lc eY=some ⟨0,0,.undef::(S2++F2)⟩/\S2.length=S.length/\F2.length=F.length/\K (eP F2 o.dst (sP l)) (az Lc [(eY,some ⟨0,0,.undef::S2⟩)]) Nc)->
    a'.defers=[]/\∃v,(results fn a'.tmps).run P w'= .ok v w'/\∃v',Ending.returned v= .returned v'/\∃F' L' N',K F' L' N'/\St C0 B wI F' L' N' (a.put o.dst v') w':=by
   intro hr;obtain⟨l,v,⟨S2,F2,hL2,hS2,hF2,hK⟩,hres,hrep⟩:=OM t1 t3 hr;refine⟨t5,v,hres,v,rfl,_,_,Nc,hK,?_⟩;obtain⟨c1,j1,j2,j3⟩:=FV t1 hL2;have hl2:(AV.undef::S2).length=(AV.undef::S).length:=by simp[hS2]
   obtain⟨hCC2,hst2⟩:=t1.stk (C1:=C0) (T:= .undef::S2) hL2 (by grind) (by
    grind) (by
    grind)
   have hfr:∀t,aR ρ1 (bC C0 B w' ρ1 (az Lc [(eY,some ⟨0,0,.undef::S2⟩)])) (F2.getD t .any) (a.tmps.getD t Go.undef):=by
    intro t;by_cases ht:t<F2.length
    .have htm:t<a.tmps.size:=by rw[s6];omega
     have e1:F2.getD t .any=F2[t] :=by rw[eI];simp[ht]
     have e2:a.tmps.getD t Go.undef=a.tmps[t] :=by rw[gh];simp[htm]
     rw[e1,e2];refine aR.mono (λ_ _ h=>h) (by grind) _ _ (j2 ((AV.undef::S).length+t) F2[t] (by grind) a.tmps[t] ?_);grind
    .rw[eI,mY (by omega)];trivial
   refine⟨⟨ρ1,hst2,t2,λt=> ?_⟩,t4,by cases hd:o.dst<;>exact s5,by rw[D7,hF2];cases hd:o.dst<;>simpa[og]using s6,s7.trans t7⟩;rw[LP,Mn,s6];by_cases e:o.dst=some t/\t<F.length
   .rw[if_pos (by grind),if_pos e];exact aR.mono (λ_ _ h=>h) (by grind) _ _ hrep
   .grind
  cases e<;>first|exact fin hq|exact hq.elim
 refine calls_of_wp hf hb (wp_mono (FL (C0:=C1) (B:=B) (wI:=w) body _ _ _ _ _ _ h ?_) ?_)
 .refine⟨⟨ρ,hst,s2,λt=> ?_⟩,s4,rfl,by simp[hlen],Below.refl _ _⟩;exact aR.mono (λ_ _ h=>h) (by grind) _ _ (Zh hargs t)
 .intro e a' w' h;have:=hfin e a' w' h;cases e<;>first|exact this|exact this.elim
end
section
abbrev Rf:=Nat->Option (Option Nat)
mutual
def fw(m:Rf):AV->AV->Prop
 | .any,_=>True
 | .p x,y=>y= .p x
 | .nil,y=>y= .nil
 | .undef,y=>y= .undef
 | .ptr s off,y=>∃o,m s=some (some o)/\y= .ptr o off
 | .own s o n,y=>(∃s',m s=some (some s')/\y= .own s' o n)\/(m s=some none/\y= .nil/\o=0/\n=0)
 | .agg l,y=>∃r,(y= .agg r\/∃q:List PV,y= .p (.agg q)/\r=q.map .p)/\fm m l r
 | .tup l,y=>∃r,(y= .tup r\/∃q:List PV,y= .p (.tup q)/\r=q.map .p)/\fm m l r
 | .fn f a b,y=>∃a2 b2,y= .fn f a2 b2/\fm m a a2/\fm m b b2
 | .mp s,y=>∃o,m s=some (some o)/\y= .mp o
def fm(m:Rf):List AV->List AV->Prop
 |[],r=>r=[]
 |x::l,r=>∃y r',r=y::r'/\fw m x y/\fm m l r'
end
def jr(m:Rf)(ρ:Ren):Ren:=λs=>match m s with
 |some (some o)=>ρ o
 |some none=>some (none,0)
 |none=>none
mutual
theorem vG{m:Rf}{ρ:Ren}{C C':bG}(hC:∀b o v,C b o v->C' b o v):∀(x y:AV) (v:Value),fw m x y->aR ρ C y v->aR (jr m ρ) C' x v
 | .any,y,v,_,_=>by trivial
 | .p x,y,v,h,hv=>by subst h;exact aY.mono hC _ v hv
 | .nil,y,v,h,hv=>by subst h;exact hv
 | .undef,y,v,h,hv=>by subst h;exact hv
 | .ptr s off,y,v,h,hv=>by
   obtain⟨o,h1,rfl⟩:=h;obtain⟨b,c,h2,h3⟩:=hv;exact⟨b,c,by unfold jr;grind,h3⟩
 | .own s o n,y,v,h,hv=>by
   rcases h with⟨s',h1,rfl⟩|⟨h1,rfl,rfl,rfl⟩
   .obtain⟨q,c,h2,h3⟩:=hv;exact⟨q,c,by unfold jr;grind,h3⟩
   .exact⟨none,0,by unfold jr;rw[h1],.inl ⟨rfl,hv,rfl,rfl⟩⟩
 | .agg l,y,v,h,hv=>by
   obtain⟨r,hy,hr⟩:=h;have:∃vs:List Value,v= .agg vs.toArray/\bE ρ C r vs/\iD vs:=by
    rcases hy with rfl|⟨q,rfl,rfl⟩
    .exact hv
    .obtain⟨vs,h1,h2,h3⟩:=hv;exact⟨vs,h1,h2.toA,h3⟩
   obtain⟨vs,h1,h2,h3⟩:=this;exact⟨vs,h1,u8 hC l r vs hr h2,h3⟩
 | .tup l,y,v,h,hv=>by
   obtain⟨r,hy,hr⟩:=h;have:∃vs:List Value,v= .tuple vs.toArray/\bE ρ C r vs:=by
    rcases hy with rfl|⟨q,rfl,rfl⟩
    .exact hv
    .obtain⟨vs,h1,h2⟩:=hv;exact⟨vs,h1,h2.toA⟩
   obtain⟨vs,h1,h2⟩:=this;exact⟨vs,h1,u8 hC l r vs hr h2⟩
 | .fn f a b,y,v,h,hv=>by
   obtain⟨a2,b2,rfl,h1,h2⟩:=h;obtain⟨vs1,vs2,h3,h4,h5⟩:=hv;exact⟨vs1,vs2,h3,u8 hC a a2 vs1 h1 h4,u8 hC b b2 vs2 h2 h5⟩
 | .mp s,y,v,h,hv=>by
   obtain⟨o,h1,rfl⟩:=h;obtain⟨c,h2,h3⟩:=hv;exact⟨c,by unfold jr;grind,h3⟩
theorem u8{m:Rf}{ρ:Ren}{C C':bG}(hC:∀b o v,C b o v->C' b o v):∀(l r:List AV) (vs:List Value),fm m l r->bE ρ C r vs->bE (jr m ρ) C' l vs
 |[],r,vs,h,hv=>by subst h;exact hv
 |x::l,r,vs,h,hv=>by
  obtain⟨y,r',rfl,h1,h2⟩:=h;obtain⟨v,vs',rfl,h3,h4⟩:=hv;exact⟨v,vs',rfl,vG hC x y v h1 h3,u8 hC l r' vs' h2 h4⟩
end
def LO{m:Rf}:∀{l r:List AV},fm m l r->l.length=r.length/\∀(i:Nat) x,l[i]? =some x->∃y,r[i]? =some y/\fw m x y
 |[],r,h=>by unfold fm at h;grind
 |x::l,r,h=>by
  obtain⟨y,r',rfl,h1,h2⟩:=h;obtain⟨h3,h4⟩:=LO h2;grind
def qj(m:Rf)(ob' ob:Ob):Prop:=ob'.ty=ob.ty/\ob'.esz=ob.esz/\fm m ob'.cells ob.cells
def StR.rf{C0:bG}{B:Nat}{ρ:Ren}{w:World}{L L':Sto}(m:Rf)(hinj:∀s s' o,m s=some (some o)->m s'=some (some o)->s=s')
  (hL:∀s ob',L' s=some ob'->match m s with|some (some o)=>∃ob,L o=some ob/\qj m ob' ob|some none=>ob'.esz≠0/\ob'.cells=[] |none=>False) (s1:StR C0 ρ L w B):
  (∀b o v,bC C0 B w ρ L b o v->bC C0 B w (jr m ρ) L' b o v)/\StR C0 (jr m ρ) L' w B:=by
 have hCC:∀b o v,bC C0 B w ρ L b o v->bC C0 B w (jr m ρ) L' b o v:=by
  intro b o v ⟨e1,e2,e3⟩;refine⟨e1,λs c hs=> ?_,e3⟩;cases hl:L' s with
  |none=>rfl
  |some ob'=>
   unfold jr at hs;grind
 refine⟨hCC,?_,?_,?_⟩
 .intro s ob' hl;have:=hL s ob' hl;split at this
  .rename_i o ho;obtain⟨ob,h1,h2,h3,h4⟩:=this;obtain⟨q,c,k1,k2⟩:=s1.ob o ob h1;refine⟨q,c,by unfold jr;grind,?_⟩;obtain⟨g1,g2⟩:=LO h4;rcases k2 with⟨k2,⟨k3,k4,k5⟩|⟨k3,k4⟩⟩|⟨b,arr,k2,k3,k4⟩
   .grind
   .refine .inl ⟨k2,.inr ⟨by omega,?_⟩⟩;rcases k4 with⟨e1,e2,e3⟩|⟨e1,e2,es,clock,e3,e4⟩
    .refine .inl ⟨by grind,λi x' hi v hv=> ?_,by grind⟩;obtain⟨x,hx,hr⟩:=g2 i x' hi;exact vG hCC _ _ v hr (e2 i x hx v hv)
    .exact .inr ⟨by grind,e2,es,clock,e3,u8 hCC _ _ _ h4 e4⟩
   .refine .inr ⟨b,arr,k2,k3,⟨by rw[h2];exact k4.blk,λhz=>by rw[g1];exact k4.box (by omega),λhz=>by rw[h3,g1];exact k4.row (by omega),?_⟩⟩;intro i x' hi;obtain⟨x,hx,hr⟩:=g2 i x' hi;obtain⟨v,g3,g4,g5⟩:=k4.cells i x hx;exact⟨v,g3,g4,vG hCC _ _ v hr g5⟩
  .rename_i ho;exact⟨none,0,by unfold jr;rw[ho],by grind⟩
  grind
 .intro s s' o o' b c c' h1 h2 h3 h4;have g1:=hL s o h1;have g2:=hL s' o' h2;unfold jr at h3 h4;split at h3
  .rename_i x hx;rw[hx]at g1;obtain⟨ob,k1,_⟩:=g1;split at h4
   .rename_i x' hx';rw[hx']at g2;obtain⟨ob',k2,_⟩:=g2;have:=s1.inj x x' ob ob' b c c' k1 k2 h3 h4;grind
   .cases h4
   .cases h4
  .cases h3
  .cases h3
 .intro s s' o o' c c' h1 h2 m1 m2 h3 h4 hT;have g1:=hL s o h1;have g2:=hL s' o' h2;unfold jr at h3 h4;split at h3
  .rename_i x hx;rw[hx]at g1;obtain⟨ob,k1,k2,k3,_⟩:=g1;split at h4
   .rename_i x' hx';rw[hx']at g2;obtain⟨ob',q1,q2,q3,_⟩:=g2;have:=s1.mpi x x' ob ob' c c' k1 q1 (by omega) (by omega) h3 h4 (by unfold sT at*;grind);grind
   .grind
   .cases h4
  .grind
  .cases h3
def Nn{F F':List AV}{L L':Sto}{N N':Nat}(m:Rf)(hlt:∀s x,m s=some x->cls s<N')(hinj:∀s s' o,m s=some (some o)->m s'=some (some o)->s=s')
  (hlen:F'.length=F.length) (hF:∀t,t<F.length->fw m (F'.getD t .any) (F.getD t .any))
  (hL:∀s ob',L' s=some ob'->match m s with|some (some o)=>∃ob,L o=some ob/\qj m ob' ob|some none=>ob'.esz≠0/\ob'.cells=[] |none=>False):fe F L N F' L' N':=by
 intro C0 B wI a w ⟨⟨ρ,s1,s2,s3⟩,s4,s5,s6,s7⟩;obtain⟨hCC,hst⟩:=s1.rf m hinj hL;refine⟨⟨jr m ρ,hst,?_,?_⟩,s4,s5,by rw[s6,hlen],s7⟩
 .intro s hs;cases hr:m s with
  |none=>unfold jr;rw[hr]
  |some x=>grind
 .intro t;by_cases ht:t<F.length
  .exact vG hCC _ _ _ (hF t ht) (s3 t)
  .rw[eI,mY (by omega)];trivial
variable {P:Program}
def Ig(P:Program)(f:FuncId)(A:List PV)(r:AV)(σ1:Sto):Prop:=kE P f=true/\
 ∀(C:bG) (w:World) (vs:List Value),(∀b o v,C b o v->w.cell? ⟨b,o,none⟩=some v)->bK C A vs->
  Calls P f vs.toArray w λe w'=>∃v ρ1,e= .returned v/\StR C ρ1 σ1 w' w.heap.size/\aR ρ1 (bC C w.heap.size w' ρ1 σ1) r v/\Below w.heap.size w w'
def y7(m:Rf)(L' L:Sto):Prop:=(∀s s' o,m s=some (some o)->m s'=some (some o)->s=s')/\
 ∀s ob',L' s=some ob'->match m s with|some (some o)=>∃ob,L o=some ob/\qj m ob' ob|some none=>ob'.esz≠0/\ob'.cells=[] |none=>False
def II(P:Program)(rs:List ResultVar)(r:AV)(σ1:Sto):pW:=λe F L _=>match e with
 | .normal| .ret=>jI P rs F L λl=>∃m:Rf,y7 m σ1 L/\fw m r (sP l)
 |_=>False
def Ua{f:FuncId}{fn:Func}{c:Code}{A:List PV}{r:AV}{σ1:Sto}(hok:kE P f=true)(hf:P.funcs[f]? =some fn)(hb:fn.body=some c)
  {L0:Sto} {N0:Nat} (h0:tq L0 N0) (h:awp P c (II P fn.results.toList r σ1) (A.map .p++cl (fn.ntmps-A.length) .undef) L0 N0):Ig P f A r σ1:=by
 refine⟨hok,λC w vs hC hrep=>LB hf hb hC hrep h0 h ?_⟩;rintro e a w' F L N hq ⟨⟨ρ,s1,s2,s3⟩,s4,s5,s6,s7⟩;have fin:jI P fn.results.toList F L (λl=>∃m:Rf,y7 m σ1 L/\fw m r (sP l))->a.defers=[]/\∃v,(results fn a.tmps).run P w'= .ok v w'/\∃v' ρ1,Ending.returned v= .returned v'/\StR C ρ1 σ1 w' w.heap.size/\aR ρ1 (bC C w.heap.size w' ρ1 σ1) r v'/\Below w.heap.size w w':=by intro h;obtain⟨l,v,⟨m,⟨h1,h2⟩,h3⟩,hres,hrep⟩:=OM s1 s3 h;obtain⟨k1,k2⟩:=s1.rf m h1 h2;exact⟨s5,v,hres,v,_,rfl,k2,vG k1 _ _ v h3 hrep,s7⟩
 cases e<;>first|exact fin hq|exact hq.elim
variable {o:Oper} {E:Operand->AV} {σ:Nat->Option Ob} {n:Nat}
def Xm{c:Call}{f:Operand}{fid:FuncId}{A:List PV}{r r':AV}{σ1:Sto}{m1:Rf}{W':List (Nat×Option Ob)}(ho:o.op= .call c)(hc:c.callee= .value f)(hfv:E f= .p (.fn (.func fid) [] []))
  (hA:bT (c.args.toList.map E)=some A) (hS:Ig P fid A r σ1) (hcl:∀s x,m1 s=some x->cls s=n) (hWn:∀s,W'.lookup s≠none->cls s=n/\W'.lookup s≠some none) (hR:y7 m1 (λs=>(W'.lookup s).join) σ1)
  (hty:∀s ob,W'.lookup s=some (some ob)->¬(ob.esz=0/\ob.ty=0)) (hr:fw m1 r' r):bW P o E σ n r' [] W':=by
 have hfm:f∈o.op.operands.toList:=by rw[ho];simp[ce,ju,hc]
 have ham:∀x∈c.args.toList,x∈o.op.operands.toList:=by intro x hx;rw[ho];simp[ce,ju];exact .inr (by grind)
 intro C0 ρ g V w B hs hB _ hn hgn hE;have hargs:∀l:List Operand,(∀x∈l,x∈o.op.operands.toList)->bE ρ (bC C0 B w ρ g) (l.map E) (l.map (bJ V)):=by
  intro l;induction l with
  |nil=>intro _;rfl
  |cons x l ih=>
   unfold bE;grind
 have hall:=rW hA (hargs _ ham);have hvf:bJ V f= .func (.func fid) #[] #[] :=by have:=hE f hfm;rw[hfv]at this;unfold aR aY at this;obtain⟨v1,v2,h1,h2,h3⟩:=this;unfold bK at h2 h3;rw[h1,h2,h3]
 obtain⟨hok,hcalls⟩:=hS;have hrun:(execOp (bJ V) o).run P w= .ok (.enter fid (c.args.toList.map (bJ V)).toArray) w:=by
  unfold execOp;rw[ho];have e2: #[] ++uc (bJ V) c.args++ #[] =(c.args.toList.map (bJ V)).toArray:=by apply p8.1;simp
  simp only[resolve,hc,hvf,ud,cr,da,dB,invoke,l5 hok,e2]
 have hlive:∀s ob b c,g s=some ob->ρ s=some (some b,c)->b<w.heap.size:=by intro s ob b c e1 e2;obtain⟨_,arr,e3⟩:=hs.at e1 e2;exact e3.lt
 unfold cQ;rw[hrun];dsimp only;refine(hcalls (bC C0 B w ρ g) w _ (λb o v h=>h.1) hall).mono ?_;rintro e w' ⟨v,ρ1,rfl,t1,t2,hbel⟩;obtain⟨j1,j2⟩:=t1.rf m1 hR.1 hR.2;have hold:∀b,b<w.heap.size->w'.heap[b]? =w.heap[b]? :=λb hb=>hbel.block b hb;generalize hρL:jr m1 ρ1=ρL at*;have hLn:∀s q,ρL s=some q->cls s=n:=by
  intro s q hq;rw[<-hρL]at hq;unfold jr at hq;cases hm:m1 s with
  |none=>grind
  |some x=>grind
 let ρ':Ren:=λs=>if cls s=n then ρL s else ρ s
 have hρn:∀s,cls s=n->ρ' s=ρL s:=by grind
 have hρs:∀s,cls s≠n->ρ' s=ρ s:=by grind
 have hL':∀s ob,W'.lookup s=some (some ob)->(λs=>(W'.lookup s).join) s=some ob:=by grind
 have hup:∀s,W'.lookup s=none->az g W' s=g s:=λs h=>by unfold az;rw[h]
 have hupn:∀s,cls s≠n->az g W' s=g s:=by grind
 have hnew:∀s ob,az g W' s=some ob->cls s=n->W'.lookup s=some (some ob):=by
  intro s ob h hs';unfold az at h;cases hl:W'.lookup s with
  |none=>grind
  |some x=>grind
 have hext:∀s q,ρ s=some q->ρ' s=some q:=by grind
 have hextL:∀s q,ρL s=some q->ρ' s=some q:=by grind
 have hge:∀s ob b c,W'.lookup s=some (some ob)->ρL s=some (some b,c)->w.heap.size<=b:=λs ob b c h1 h2=>(j2.at (hL' s ob h1) h2).1;have hmono:∀b o' x,bC C0 B w ρ g b o' x->bC C0 B w' ρ' (az g W') b o' x:=by
  intro b o' x ⟨e1,e2,e3⟩;have hb:b<w.heap.size:=kO w ⟨b,o',none⟩ e1;refine⟨(je (hold b hb)).trans e1,λs c' e4=> ?_,e3⟩;by_cases hsn:cls s=n
  .cases hu:az g W' s with
   |none=>rfl
   |some ob=>grind
  .grind
 have hCL:∀b o' x,bC (bC C0 B w ρ g) w.heap.size w' ρL (λs=>(W'.lookup s).join) b o' x->bC C0 B w' ρ' (az g W') b o' x:=by
  intro b o' x ⟨e1,e2,e3⟩;refine⟨e1,λs c' e4=> ?_,?_⟩
  .by_cases hsn:cls s=n
   .rw[hρn s hsn]at e4;cases hu:az g W' s with
    |none=>rfl
    |some ob=>grind
   .rw[hρs s hsn]at e4;rw[hupn s hsn];rcases e3 with e3|e3
    .cases hg:g s with
     |none=>rfl
     |some ob=>grind
    .exact e3.2.1 s c' e4
  .rcases e3 with e3|e3
   .omega
   .exact e3.2.2
 refine⟨_,rfl,ρ',hρs,hmono,?_,aR.mono hextL hCL _ _ (by rw[<-hρL];exact vG (by grind) _ _ _ hr t2),hbel.mono hB⟩;refine hs.stepG (by grind) hext hmono (by grind) (by grind) ?_;intro s ob hso;obtain⟨q,c',h1,⟨h2,h3|⟨h3,h4⟩⟩|⟨b,arr,h2,h3,h4⟩⟩:=j2.ob s ob (hL' s ob hso)
 .grind
 .refine⟨q,c',by grind,.inr (.inl ⟨h2,h3,?_,?_⟩)⟩
  .rcases h4 with⟨h5,_⟩|⟨h5,h6,es,clock,h7,h8⟩
   .grind
   .exact .inr ⟨h5,by grind,es,clock,h7,bE.mono hextL hCL _ _ h8⟩
  .intro s' ob' c2 hne hu he hρ2 hT;have hT1:ob.ty=1/\ob'.ty=1/\c'=c2:=by
    rcases hT with hT|hT
    .exact hT
    .grind
   by_cases hsn':cls s'=n
   .rw[hρn s' hsn']at hρ2;subst h2;exact hne (j2.mpi s s' ob ob' c' c2 (hL' s ob hso) (by grind) h3 he h1 hρ2 hT).symm
   .rw[hρs s' hsn']at hρ2;rw[hupn s' hsn']at hu;obtain⟨q2,c3,k1,⟨_,⟨k2,_⟩|⟨_,k2⟩⟩|⟨b,arr,k2,_⟩⟩:=hs.ob s' ob' hu
    .exact k2 he
    .rw[hρ2]at k1;cases k1;rcases k2 with⟨k3,_⟩|⟨_,_,es,clock,k3,_⟩
     .grind
     .have hlt:=tk k3;rcases h4 with⟨h5,_⟩|⟨_,h6,_⟩
      .grind
      omega
    grind
 .refine⟨q,c',by grind,.inr (.inr ⟨b,arr,h2,by grind,⟨h4.blk,h4.box,h4.row,λi x hi=> ?_⟩,?_⟩)⟩
  .obtain⟨u,g1,g2,g3⟩:=h4.cells i x hi;exact⟨u,g1,g2,aR.mono hextL hCL x u g3⟩
  .intro s' ob' c2 hne hu hρ2;subst h2;by_cases hsn':cls s'=n
   .rw[hρn s' hsn']at hρ2;exact hne (j2.inj s s' ob ob' b c' c2 (hL' s ob hso) (by grind) h1 hρ2).symm
   grind
end
section
def agI(xs:List Int):Value:= .agg (xs.map (cg .i64)).toArray
structure MKey(P:Program)(k:TypeId)(m:Nat):Prop where
 check:∀(w:World) (em:Bool) (xs:List Int),xs.length=m->(Instr.checkKey em 10000 k (agI xs)).run P w= .ok () w
 eq:∀(w:World) (xs ys:List Int),xs.length=m->ys.length=m->(Op.equal k (agI xs) (agI ys)).run P w= .ok (xs==ys) w
 now:∃d,P.underlying k=some d/\∀a b:Array Value,Instr.sameNow d (.agg a) (.agg b)=none
variable {P:Program}
def kD(es:List MapEntry)(ks:List (List Int×Value)):Prop:=es.map (λe=>(e.key,e.val))=ks.map λq=>(agI q.1,q.2)
def NP{k:TypeId}{m:Nat}(K:MKey P k m)(w:World)(xs:List Int)(hx:xs.length=m):∀(es:List MapEntry) (ks:List (List Int×Value)) (i:Nat),kD es ks->(∀q∈ks,q.1.length=m)->
  ((Instr.findAsking k (agI xs) es i).run P w= .ok none w/\∀q∈ks,q.1≠xs)\/∃j v,(Instr.findAsking k (agI xs) es i).run P w= .ok (some (i+j,v)) w/\ks[j]? =some (xs,v)
 |[],ks,i,h,_=>by
  have:ks=[] :=by simpa using h.symm
  subst this;exact .inl ⟨rfl,by grind⟩
 |e::es,ks,i,h,hl=>by
  cases ks with
  |nil=>unfold kD at h;simp at h
  |cons q ks=>
   unfold kD at h;simp only[dX,qA,uZ]at h;obtain⟨⟨h1,h2⟩,h3⟩:=h;unfold Instr.findAsking;simp only[cr,h1,K.eq w xs q.1 hx (by grind),dB];by_cases hq:xs=q.1
   .right;refine⟨0,q.2,?_,by rw[hq];rfl⟩;simp_all
   .rcases NP K w xs hx es ks (i+1) h3 (by grind)with⟨h4,h5⟩|⟨j,v,h4,h5⟩
    .grind
    .exact .inr ⟨j+1,v,by grind,h5⟩
def NO{k:TypeId}{m:Nat}(K:MKey P k m)(w:World)(xs:List Int)(hx:xs.length=m)(es:List MapEntry)(ks:List (List Int×Value))(h:kD es ks)(hl:∀q∈ks,q.1.length=m):
  ((Instr.findKey k (agI xs) es).run P w= .ok none w/\∀q∈ks,q.1≠xs)\/∃j v,(Instr.findKey k (agI xs) es).run P w= .ok (some (j,v)) w/\ks[j]? =some (xs,v):=by
 obtain⟨d,hd,hn⟩:=K.now;unfold Instr.findKey;simp only[cr,run_underlying hd,dB];cases es with
 |nil=>
  left;have:ks=[] :=by simpa using h.symm
  subst this;exact⟨rfl,by grind⟩
 |cons e es=>
  have h1:Instr.findNow d (agI xs) (e::es) 0=none:=by
   unfold Instr.findNow;cases ks with
   |nil=>unfold kD at h;simp at h
   |cons q ks=>
    unfold kD at h;simp only[dX,qA,uZ]at h;rw[h.1.1];unfold agI;rw[hn]
  rw[h1];simpa using NP K w xs hx (e::es) ks 0 h hl
def Tv(xs:List Int):Instr.sameBits 10000 (agI xs) (agI xs)=true:=by unfold agI Instr.sameBits;simp only[beq_self_eq_true,Bool.true_and,bh];rintro⟨x,y⟩ h;obtain⟨i,hi,e⟩:=jS h;simp only[List.getElem_zip,uZ]at e;obtain⟨rfl,rfl⟩:=e;simp[Instr.sameBits]
def XE(xs:List Int)(w:World):(Instr.keyThatStays (agI xs) (agI xs)).run P w= .ok (agI xs) w:=by unfold Instr.keyThatStays;rw[if_pos (Tv xs)];rfl
def gZ(ks:List (List Int×AV)):List AV:=ks.flatMap λq=>[.p (.agg (ll q.1)),q.2]
def NF{C:bG}:∀{xs:List Int} {vs:List Value},bK C (ll xs) vs->vs=xs.map (cg .i64)
 |[],vs,h=>by exact h
 |x::xs,vs,h=>by
  unfold ll at h;obtain⟨v,r,rfl,h1,h2⟩:=h;rw[h1,NF (xs:=xs) h2];rfl
def Ge{ρ:Ren}{C:bG}{xs:List Int}{v:Value}(h:aR ρ C (.p (.agg (ll xs))) v):v=agI xs:=by obtain⟨vs,rfl,h1,_⟩:=h;rw[NF h1];rfl
def Y4{ρ:Ren}{C:bG}(xs:List Int):aR ρ C (.p (.agg (ll xs))) (agI xs):=by
 refine⟨_,rfl,?_,λu hu=> ?_⟩
 .induction xs with
  |nil=>rfl
  |cons x xs ih=>exact⟨_,_,rfl,by rfl,ih⟩
 .obtain⟨x,_,rfl⟩:=bR.1 hu;rfl
def Fs{ρ:Ren}{C:bG}:∀{ks:List (List Int×AV)} {es:List MapEntry},bE ρ C (gZ ks) (es.flatMap λe=>[e.key,e.val])->
  ∃kv:List (List Int×Value),kD es kv/\kv.length=ks.length/\∀(j:Nat) q,ks[j]? =some q->∃v,kv[j]? =some (q.1,v)/\aR ρ C q.2 v
 |[],es,h=>by
  unfold gZ at h;unfold bE at h;cases es with
  |nil=>exact⟨[],rfl,rfl,by grind⟩
  |cons e es=>simp at h
 |q::ks,es,h=>by
  unfold gZ at h;cases es with
  |nil=>unfold bE at h;grind
  |cons e es=>
   obtain⟨v,r,h1,h2,h3⟩:=h;cases h1;obtain⟨v,r,h1,h4,h5⟩:=h3;cases h1;obtain⟨kv,g1,g2,g3⟩:=Fs (ks:=ks) (es:=es) h5;refine⟨(q.1,e.val)::kv,?_,by simp[g2],?_⟩
   .unfold kD at*;simp only[dX,g1,Ge h2]
   grind
def Ot{ρ:Ren}{C:bG}:∀{ks:List (List Int×AV)} {es:List MapEntry} {kv:List (List Int×Value)},kD es kv->kv.length=ks.length->(∀(j:Nat) q,ks[j]? =some q->∃v,kv[j]? =some (q.1,v)/\aR ρ C q.2 v)->
  bE ρ C (gZ ks) (es.flatMap λe=>[e.key,e.val])
 |[],es,kv,h,hl,_=>by
  have:kv=[] :=by grind
  subst this;unfold kD at h;have:es=[] :=by simpa using h
  subst this;rfl
 |q::ks,es,kv,h,hl,hk=>by
  cases kv with
  |nil=>simp at hl
  |cons p kv=>
   cases es with
   |nil=>unfold kD at h;simp at h
   |cons e es=>
    unfold kD at h;simp only[dX,qA,uZ]at h;obtain⟨⟨h1,h2⟩,h3⟩:=h;obtain⟨v,h4,h5⟩:=hk 0 q rfl;simp at h4;subst h4;refine⟨_,_,rfl,by rw[h1];exact Y4 q.1,?_⟩;exact⟨_,_,rfl,by grind,Ot (ks:=ks) (kv:=kv) h3 (by grind) λj q' hj=>by simpa using hk (j+1) q' (by grind)⟩
def pQ:List (List Int×AV)->List Int->AV->AV
 |[],_,z=>z
 |q::ks,xs,z=>if q.1=xs then q.2 else pQ ks xs z
def kZ:List (List Int×AV)->List Int->AV->List (List Int×AV)
 |[],xs,v=>[(xs,v)]
 |q::ks,xs,v=>if q.1=xs then(xs,v)::ks else q::kZ ks xs v
def sU(ks:List (List Int×AV)):Prop:=ks.Pairwise λp q=>p.1≠q.1
def Lg:∀{ks:List (List Int×AV)} {xs:List Int} {z:AV},(∀q∈ks,q.1≠xs)->pQ ks xs z=z
 |[],_,_,_=>rfl
 |q::ks,xs,z,h=>by unfold pQ;rw[if_neg (by grind)];exact Lg (by grind)
def Fg:∀{ks:List (List Int×AV)} {xs:List Int} {v:AV},(∀q∈ks,q.1≠xs)->kZ ks xs v=ks++[(xs,v)]
 |[],_,_,_=>rfl
 |q::ks,xs,z,h=>by unfold kZ;rw[if_neg (by grind),Fg (by grind)];rfl
def M9:∀{ks:List (List Int×AV)} {xs:List Int} {v z:AV} {j:Nat},sU ks->ks[j]? =some (xs,v)->pQ ks xs z=v
 |[],_,_,_,_,_,h=>by simp at h
 |q::ks,xs,v,z,0,_,h=>by simp at h;unfold pQ;grind
 |q::ks,xs,v,z,j+1,hd,h=>by
  unfold sU at hd;rw[iS]at hd;unfold pQ;rw[if_neg (by grind)];exact M9 hd.2 h
def OS:∀{ks:List (List Int×AV)} {xs:List Int} {u v:AV} {j:Nat},sU ks->ks[j]? =some (xs,u)->kZ ks xs v=ks.set j (xs,v)
 |[],_,_,_,_,_,h=>by simp at h
 |q::ks,xs,u,v,0,_,h=>by simp at h;unfold kZ;grind
 |q::ks,xs,u,v,j+1,hd,h=>by
  unfold sU at hd;rw[iS]at hd;unfold kZ;rw[if_neg (by grind),OS hd.2 h];rfl
variable {o:Oper} {E:Operand->AV} {σ:Nat->Option Ob} {n:Nat}
def Uh{t:TypeId}(ho:o.op= .makeMap t none):bW P o E σ n (.mp (sit n 0)) [] [(sit n 0,some ⟨1,0,[]⟩)] :=by
 intro C0 ρ g V w B hs hB _ hn hgn hE;have hcl:∀s,cls s≠n->s≠sit n 0:=λs h e=>h (by rw[e];exact iW n 0);generalize sit n 0=m at*;have hrun:(execOp (bJ V) o).run P w= .ok (.value (.map (some w.heap.size))) (w.alloc (.map #[] 0)):=by unfold execOp;rw[ho];rfl
 unfold cQ;rw[hrun];have hblk:(w.alloc (.map #[] 0)).heap[w.heap.size]? =some (.map #[] 0):=heap_alloc_new w _
 let ρ':Ren:=λs=>if s=m then some (none,w.heap.size)else ρ s
 have hext:∀s q,ρ s=some q->ρ' s=some q:=by intro s q hq;show(if s=m then _ else _)=_;rw[if_neg (by grind)];exact hq
 have hold:∀b,b<w.heap.size->(w.alloc (.map #[] 0)).heap[b]? =w.heap[b]? :=λb hb=>Below.heap_alloc w _ b hb;have hlk:∀s,s≠m->[(m,some (⟨1,0,[]⟩:Ob))].lookup s=none:=by intro s hs;simp[iU,beq_eq_false_iff_ne.2 hs]
 have hup:∀s,s≠m->az g [(m,some ⟨1,0,[]⟩)] s=g s:=by intro s hs;unfold az;rw[hlk s hs]
 have hmono:∀b o' x,bC C0 B w ρ g b o' x->bC C0 B (w.alloc (.map #[] 0)) ρ' (az g [(m,some ⟨1,0,[]⟩)]) b o' x:=by
  intro b o' x ⟨e1,e2,e0⟩;have hb:b<w.heap.size:=kO w ⟨b,o',none⟩ e1;refine⟨(je (hold b hb)).trans e1,?_,e0⟩;intro s c' e3;by_cases e:s=m
  .grind
  .grind
 refine⟨ρ',by grind,hmono,?_,by unfold aR;grind,(Below.refl B w).alloc hB _⟩;refine hs.stepG ?_ hext hmono ?_ (by grind) ?_
 .grind
 .intro s ob' b c' _ e2 e3;obtain⟨_,arr,e4⟩:=hs.at e2 e3;exact hold b e4.lt
 .intro s ob' e;have e1:s=m:=by
   rcases p9 s m with h|h
   .grind
   .exact h
  subst e1;have e2:ob'=⟨1,0,[]⟩:=by simp[iU]at e;exact e.symm
  subst e2;refine⟨none,w.heap.size,by simp[ρ'],.inr (.inl ⟨rfl,rfl,.inr ⟨rfl,hB, #[],0,hblk,by rfl⟩,?_⟩)⟩;intro s' o' c' hne e3 e4 e5 hT;rw[hup s' hne]at e3;simp only[ρ',if_neg hne]at e5;obtain⟨q2,c3,k1,⟨_,⟨k2,_⟩|⟨_,k2⟩⟩|⟨b,arr,k2,_⟩⟩:=hs.ob s' o' e3
  .exact k2 e4
  .rw[e5]at k1;rcases hT with⟨_,hT2,hT3⟩|⟨hT,_⟩
   .rcases k2 with⟨k3,_⟩|⟨_,_,es,clock,k3,_⟩
    .grind
    grind
   .cases hT
  grind
def M7{C0:bG}{B:Nat}{ρ:Ren}{g:Nat->Option Ob}{w:World}{s c:Nat}{cells:List AV}(hs:StR C0 ρ g w B)(hg:g s=some ⟨1,0,cells⟩)(hρ:ρ s=some (none,c)):
  B<=c/\∃es clock,w.heap[c]? =some (xD es clock)/\bE ρ (bC C0 B w ρ g) cells (es.toList.flatMap λe=>[e.key,e.val]):=by
 obtain⟨q2,c3,k1,⟨_,⟨k2,_⟩|⟨_,k2⟩⟩|⟨b,arr,k2,_⟩⟩:=hs.ob s _ hg
 .grind
 .rw[hρ]at k1;rcases k2 with⟨k3,_⟩|⟨_,k3,es,clock,k4,k5⟩
  .cases k3
  grind
 grind
def Vg{t k e:TypeId}{x i:Operand}{m s:Nat}{ks:List (List Int×AV)}{xs:List Int}{z:AV}{zv:Value}(ho:o.op= .lookup t x i false)(ht:P.underlying t=some (.map k e))(K:MKey P k m)(hz:∀w,(zeroValue e).run P w= .ok zv w)(hzr:∀ρ C,aR ρ C z zv)
  (hx:E x= .mp s) (hi:E i= .p (.agg (ll xs))) (hxs:xs.length=m) (hob:σ s=some ⟨1,0,gZ ks⟩) (hks:∀q∈ks,q.1.length=m) (hd:sU ks):bW P o E σ n (pQ ks xs z) [s] [] :=by
 refine bW.pure λC0 ρ g V w B hs hR hE=> ?_;have hgs:g s=some ⟨1,0,gZ ks⟩:=by grind
 have hvx:=hE x (by rw[ho];simp[ce]);have hvi:=hE i (by rw[ho];simp[ce]);rw[hx]at hvx;rw[hi]at hvi;obtain⟨c,hρ,hvx⟩:=hvx;obtain⟨_,es,clock,hb,hrep⟩:=M7 hs hgs hρ;obtain⟨kv,g1,g2,g3⟩:=Fs hrep;have hkl:∀q∈kv,q.1.length=m:=by
  intro q hq;obtain⟨j,hj,e1⟩:=jS hq;have hj':j<ks.length:=by omega
  obtain⟨v,h1,_⟩:=g3 j ks[j] (by grind);rw[dw hj,e1]at h1;cases h1;grind
 have hrun:∃v,(Instr.lookup t (.map (some c)) (agI xs) false).run P w= .ok v w/\aR ρ (bC C0 B w ρ g) (pQ ks xs z) v:=by
  rcases NO K w xs hxs es.toList kv g1 hkl with⟨h1,h2⟩|⟨j,v,h1,h2⟩
  .refine⟨zv,by simp[Instr.lookup,run_underlying ht,MapKept.run_getObj_map hb,K.check w _ xs hxs,h1,hz,zY],?_⟩;rw[Lg]
   .exact hzr _ _
   .intro q hq e;obtain⟨j,hj,e1⟩:=jS hq;obtain⟨v,h3,_⟩:=g3 j q (by grind);grind
  .refine⟨v,by simp[Instr.lookup,run_underlying ht,MapKept.run_getObj_map hb,K.check w _ xs hxs,h1,zY],?_⟩;have hj:j<ks.length:=by rw[<-g2];grind
   obtain⟨q,hq⟩:∃q,ks[j]? =some q:=⟨_,dw hj⟩;obtain⟨u,h3,h4⟩:=g3 j q hq;rw[h2]at h3;simp only[fg,uZ]at h3;obtain⟨e1,rfl⟩:=h3;rw[M9 (v:=q.2) hd (by rw[hq,e1])];exact h4
 obtain⟨v,h1,h2⟩:=hrun;unfold cQ execOp;rw[ho];simp only[hvx,Ge hvi,cr,h1,dB,da];grind
def kD.get{es:List MapEntry}{kv:List (List Int×Value)}(h:kD es kv){j:Nat}{q:List Int×Value}(hq:kv[j]? =some q):∃e,es[j]? =some e/\e.key=agI q.1/\e.val=q.2:=by have:=congrArg (λl=>l[j]?) h;grind
def T0{t k e:TypeId}{x i y:Operand}{m s:Nat}{ks:List (List Int×AV)}{xs:List Int}(ho:o.op= .mapUpdate t x i y)(ht:P.underlying t=some (.map k e))(K:MKey P k m)
  (hx:E x= .mp s) (hi:E i= .p (.agg (ll xs))) (hxs:xs.length=m) (hob:σ s=some ⟨1,0,gZ ks⟩) (hks:∀q∈ks,q.1.length=m) (hd:sU ks):
  bW P o E σ n .undef [s] [(s,some ⟨1,0,gZ (kZ ks xs (E y))⟩)] :=by
 intro C0 ρ g V w B hs hB hR hn hgn hE;have hgs:g s=some ⟨1,0,gZ ks⟩:=by grind
 have hvx:=hE x (by rw[ho];simp[ce]);have hvi:=hE i (by rw[ho];simp[ce]);have hvy:=hE y (by rw[ho];simp[ce]);rw[hx]at hvx;rw[hi]at hvi;obtain⟨c,hρ,hvx⟩:=hvx;obtain⟨hBc,es,clock,hb,hrep⟩:=M7 hs hgs hρ;obtain⟨kv,g1,g2,g3⟩:=Fs hrep;have hkl:∀q∈kv,q.1.length=m:=by
  intro q hq;obtain⟨j,hj,e1⟩:=jS hq;have hj':j<ks.length:=by omega
  obtain⟨v,h1,_⟩:=g3 j ks[j] (by grind);rw[dw hj,e1]at h1;cases h1;grind
 generalize hV:bJ V y=vy at*;have hrun:∃(es':Array MapEntry) (clock':Nat),(Instr.mapUpdate t (.map (some c)) (agI xs) vy).run P w= .ok () {w with heap:=w.heap.setIfInBounds c (.map es' clock')}/\
   ∃kv',kD es'.toList kv'/\kv'.length=(kZ ks xs (E y)).length/\∀(ρ':Ren) (C':bG),(∀s q,ρ s=some q->ρ' s=some q)->(∀b o x,bC C0 B w ρ g b o x->C' b o x)->∀(j:Nat) q,(kZ ks xs (E y))[j]? =some q->∃v,kv'[j]? =some (q.1,v)/\aR ρ' C' q.2 v:=by
  rcases NO K w xs hxs es.toList kv g1 hkl with⟨h1,h2⟩|⟨j,v,h1,h2⟩
  .refine⟨es.push ⟨agI xs,vy,clock⟩,clock+1,?_,kv++[(xs,vy)],?_,?_,?_⟩
   .simp[Instr.mapUpdate,run_underlying ht,MapKept.run_getObj_map hb,K.check w _ xs hxs,h1,MapKept.run_setObj_map _ hb,zY]
   .unfold kD at*;grind
   .rw[Fg]
    .simp[g2]
    .intro q hq e;obtain⟨j,hj,e1⟩:=jS hq;obtain⟨v,h3,_⟩:=g3 j q (by grind);grind
   .intro ρ' C' hρ' hC' j q hq;rw[Fg]at hq
    .rcases oZ j ks.length with hj|hj
     .rw[oU hj]at hq;obtain⟨v,h3,h4⟩:=g3 j q hq;exact⟨v,by grind,aR.mono hρ' hC' _ _ h4⟩
     .rw[lO hj]at hq;have hj2:j-ks.length=0:=by have:=(zZ.1 hq).1;simp at this;omega
      rw[hj2]at hq;simp at hq;subst hq;exact⟨vy,by grind,aR.mono hρ' hC' _ _ hvy⟩
    .intro q hq e;obtain⟨j,hj,e1⟩:=jS hq;obtain⟨v,h3,_⟩:=g3 j q (by grind);grind
  .obtain⟨e0,h5,h6,h7⟩:=g1.get h2;have hj:j<ks.length:=by rw[<-g2];grind
   obtain⟨q0,hq0⟩:∃q,ks[j]? =some q:=⟨_,dw hj⟩;have hput:kZ ks xs (E y)=ks.set j (xs,E y):=OS (u:=q0.2) hd (by grind);have hes:es[j]? =some e0:=by simpa using h5
   refine⟨es.modify j (λe=>{e with key:=agI xs,val:=vy}),clock,?_,kv.set j (xs,vy),?_,?_,?_⟩
   .simp[Instr.mapUpdate,run_underlying ht,MapKept.run_getObj_map hb,K.check w _ xs hxs,h1,hes,h6,XE,MapKept.run_setObj_map _ hb,zY]
   .unfold kD at*;have e1:(es.modify j (λe=>{e with key:=agI xs,val:=vy})).toList=es.toList.set j {e0 with key:=agI xs,val:=vy}:=by
     apply DY;intro i;rw[zT];by_cases hij:j=i
     .grind
     .grind
    simp_all
   .grind
   .intro ρ' C' hρ' hC' i q hq;rw[hput,zT]at hq;split at hq
    .rename_i e1;cases hq;exact⟨vy,by grind,aR.mono hρ' hC' _ _ hvy⟩
    .obtain⟨v,h3,h4⟩:=g3 i q hq;exact⟨v,by grind,aR.mono hρ' hC' _ _ h4⟩
 obtain⟨es',clock',hr,kv',f1,f2,f3⟩:=hrun;have hclt:=tk hb;unfold cQ execOp;rw[ho];simp only[hvx,Ge hvi,hV,cr,hr,dB,da];have hold:∀b,b≠c->({w with heap:=w.heap.setIfInBounds c (.map es' clock')}:World).heap[b]? =w.heap[b]? :=by intro b hbc;show(w.heap.setIfInBounds c _)[b]? =_;rw[w8,if_neg (by grind)]
 have hnb:({w with heap:=w.heap.setIfInBounds c (.map es' clock')}:World).heap[c]? =some (xD es' clock'):=by show(w.heap.setIfInBounds c _)[c]? =_;rw[w8,if_pos rfl,if_pos hclt]
 have hsize:({w with heap:=w.heap.setIfInBounds c (.map es' clock')}:World).heap.size=w.heap.size:=by simp
 have hos:({w with heap:=w.heap.setIfInBounds c (.map es' clock')}:World).os=w.os/\({w with heap:=w.heap.setIfInBounds c (.map es' clock')}:World).tape=w.tape/\({w with heap:=w.heap.setIfInBounds c (.map es' clock')}:World).output=w.output:=by grind
 generalize ({w with heap:=w.heap.setIfInBounds c (.map es' clock')}:World)=w' at*;have hlk:∀s',s'≠s->[(s,some (⟨1,0,gZ (kZ ks xs (E y))⟩:Ob))].lookup s'=none:=by intro s' hs';simp[iU,beq_eq_false_iff_ne.2 hs']
 have hup:∀s',s'≠s->az g [(s,some ⟨1,0,gZ (kZ ks xs (E y))⟩)] s'=g s':=by intro s' hs';unfold az;rw[hlk s' hs']
 have hmono:∀b' o' x',bC C0 B w ρ g b' o' x'->bC C0 B w' ρ (az g [(s,some ⟨1,0,gZ (kZ ks xs (E y))⟩)]) b' o' x':=by
  intro b' o' x' ⟨e1,e2,e0⟩;have hne:b'≠c:=by intro e3;subst e3;unfold World.cell? at e1;simp[hb]at e1
  refine⟨(je (hold b' hne)).trans e1,?_,e0⟩;intro s' c' e3;by_cases e:s'=s
  .grind
  .grind
 refine⟨ρ,λ_ _=>rfl,hmono,?_,by rfl,⟨hos.1,hos.2.1,hos.2.2,by omega,by grind⟩⟩;refine hs.stepG (by grind) (λ_ _ h=>h) hmono ?_ ?_ ?_
 .intro s' o' b' c' e1 e2 e3;refine hold b' λe=> ?_;obtain⟨_,arr,e4⟩:=hs.at e2 e3;exact vm hb e4.blk e.symm
 .intro s' o' c' es2 clock2 e1 e2 e3 e4 e5 e6;refine hold c' λe=> ?_;subst e;have:=hs.mpi s' s o' _ c' c' e2 hgs e3 rfl e5 hρ (.inl (by grind));grind
 .intro s' o' e;have e1:s'=s:=by
   rcases p9 s' s with h|h
   .grind
   .exact h
  subst e1;have e2:o'=⟨1,0,gZ (kZ ks xs (E y))⟩:=by simp[iU]at e;exact e.symm
  subst e2;refine⟨none,c,hρ,.inr (.inl ⟨rfl,rfl,.inr ⟨rfl,hBc,es',clock',hnb,Ot f1 f2 (f3 ρ _ (λ_ _ h=>h) hmono)⟩,?_⟩)⟩;intro s2 o2 c2 hne e3 e4 e5 hT;rw[hup s2 hne]at e3;exact hne (hs.mpi s' s2 _ o2 c c2 hgs e3 rfl e4 hρ e5 (by
   rcases hT with⟨_,h2,h3⟩|⟨h1,_⟩
   .exact .inl ⟨rfl,h2,h3⟩
   .cases h1)).symm
end
section
def iO:Nat->(Nat->Option Ob)->AV->Option PV
 |_,_,.p x=>some x
 |_,_,.nil=>some (.sl 0 [])
 |_,_,.own .. =>some .junk
 |_,_,.any=>some .junk
 |0,_,.ptr .. =>some .junk
 |d+1,σ,.ptr s off=>(σ s).bind λob=>(dr (iO d σ) ob.cells).map λl=> .pro l off
 |d+1,σ,.agg l=>(dr (iO d σ) l).map .agg
 |d+1,σ,.fn f a b=>(dr (iO d σ) a).bind λx=>(dr (iO d σ) b).map λy=> .fn f x y
 |_,_,_=>none
def fo:Nat->(Nat->Option Ob)->AV->List Nat
 |0,_,_=>[]
 |d+1,σ,.ptr s _=>s::(match σ s with|some ob=>bQ (fo d σ) ob.cells|none=>[])
 |d+1,σ,.agg l=>bQ (fo d σ) l
 |d+1,σ,.fn _ a b=>bQ (fo d σ) a++bQ (fo d σ) b
 |_,_,_=>[]
def WZ{C0:bG}{ρ:Ren}{g σ:Nat->Option Ob}{w:World}{B s0 b0 c0:Nat}{o0:Ob}(hs:StR C0 ρ g w B)(hg0:g s0=some o0)(hρ0:ρ s0=some (some b0,c0)):
  ∀(d:Nat) (x:AV) (y:PV) (v:Value),iO d σ x=some y->(∀s∈fo d σ x,s≠s0/\g s=σ s)->aR ρ (bC C0 B w ρ g) x v->aY (λb o u=>w.cell? ⟨b,o,none⟩=some u/\b≠b0) y v:=by
 have hfull:∀b o v,bC C0 B w ρ g b o v->w.cell? ⟨b,o,none⟩=some v/\b≠b0:=λb o v h=>⟨h.1,λe=>by subst e;have:=h.2.1 s0 c0 hρ0;grind⟩;intro d;induction d with
 |zero=>
  intro x y v h hr hx;unfold iO at h;split at h<;>first|(cases h;done)|skip
  .cases h;exact aY.mono hfull _ v hx
  .cases h;unfold aR at hx;unfold aY;grind
  .cases h;trivial
  .cases h;trivial
  .cases h;trivial
  all_goals (rename_i e;cases e)
 |succ d ih=>
  have ihL:∀(l:List AV) (m:List PV) (vs:List Value),dr (iO d σ) l=some m->(∀s∈bQ (fo d σ) l,s≠s0/\g s=σ s)->bE ρ (bC C0 B w ρ g) l vs->bK (λb o u=>w.cell? ⟨b,o,none⟩=some u/\b≠b0) m vs:=by
   intro l m vs h hr hv;obtain⟨h1,h2⟩:=o6 h;refine bK.of _ _ (by rw[<-h1];exact hv.length) λi y hi=> ?_;have hlt:i<l.length:=by rw[h1];grind
   obtain⟨y',h3,h4⟩:=h2 i l[i] (by grind);rw[hi]at h3;cases h3;obtain⟨v,h5,h6⟩:=hv.get _ _ i l[i] (by grind);exact⟨v,h5,ih _ _ v h4 (λs hs'=>hr s (ol (by grind) hs')) h6⟩
  intro x y v h hr hx;unfold iO at h;split at h<;>first|(cases h;done)|skip
  .cases h;exact aY.mono hfull _ v hx
  .cases h;unfold aR at hx;unfold aY;grind
  .cases h;trivial
  .cases h;trivial
  .omega
  .rename_i σ _ _ _ d' s off e;cases e;simp only[rD,mW]at h;obtain⟨ob,h1,l,h2,rfl⟩:=h;obtain⟨hne,hg⟩:=hr s (by simp[fo]);have hg:g s=some ob:=hg.trans h1;have hr2:∀s'∈bQ (fo d σ) ob.cells,s'≠s0/\g s'=σ s':=λs' hs'=>hr s' (by simp only[fo,h1];grind);obtain⟨b,c,hq,hv⟩:=hx;refine⟨b,0,by grind,?_⟩;obtain⟨hBb,arr,hO⟩:=hs.at hg hq;obtain⟨g1,g2⟩:=o6 h2;refine dA.of _ _ _ λi y hi=> ?_;have hlt:i<ob.cells.length:=by rw[g1];grind
   obtain⟨y',h5,h6⟩:=g2 i ob.cells[i] (by grind);rw[hi]at h5;cases h5;obtain⟨v,k1,k2,k3⟩:=hO.cells i ob.cells[i] (by grind);refine⟨v,⟨by rw[kN,hO.cell];exact k1,λe=> ?_⟩,k2,ih _ _ v h6 (λs hs'=>hr2 s (ol (by grind) hs')) k3⟩;subst e;exact hne (hs.inj s s0 _ _ b c c0 hg hg0 hq hρ0)
  .rename_i d' l e;cases e;simp only[mW]at h;obtain⟨m,h2,rfl⟩:=h;obtain⟨vs,h3,h4,h5⟩:=hx;exact⟨vs,h3,ihL l m vs h2 (λs hs'=>hr s hs') h4,h5⟩
  .rename_i d' f a b e;cases e;simp only[rD,mW]at h;obtain⟨x1,h1,x2,h2,rfl⟩:=h;obtain⟨vs1,vs2,h3,h4,h5⟩:=hx;exact⟨vs1,vs2,h3,ihL a x1 vs1 h1 (λs hs'=>hr s (ig _ hs')) h4,ihL b x2 vs2 h2 (λs hs'=>hr s (gq _ hs')) h5⟩
def KH{C0:bG}{ρ:Ren}{g σ:Nat->Option Ob}{w:World}{B s0 b0 c0 d:Nat}{o0:Ob}(hs:StR C0 ρ g w B)(hg0:g s0=some o0)(hρ0:ρ s0=some (some b0,c0)):
  ∀{l:List AV} {m:List PV} {vs:List Value},dr (iO d σ) l=some m->(∀s∈bQ (fo d σ) l,s≠s0/\g s=σ s)->bE ρ (bC C0 B w ρ g) l vs->bK (λb o u=>w.cell? ⟨b,o,none⟩=some u/\b≠b0) m vs:=by
 intro l m vs h hr hv;obtain⟨h1,h2⟩:=o6 h;refine bK.of _ _ (by rw[<-h1];exact hv.length) λi y hi=> ?_;have hlt:i<l.length:=by rw[h1];grind
 obtain⟨y',h3,h4⟩:=h2 i l[i] (by grind);rw[hi]at h3;cases h3;obtain⟨v,h5,h6⟩:=hv.get _ _ i l[i] (by grind);exact⟨v,h5,WZ hs hg0 hρ0 d _ _ v h4 (λs hs'=>hr s (ol (by grind) hs')) h6⟩
variable {P:Program}
def flat1(x:PV):Bool:=match x with
 | .int .. | .bool _| .str _=>true
 |_=>false
def FC{C C':bG}{x:PV}{v:Value}(hf:flat1 x=true)(h:aY C x v):aY C' x v:=by cases x<;>first|(cases hf;done)|(unfold aY at*;exact h)
def Ii(P:Program)(f:FuncId)(n:Nat)(A:List PV)(ty esz:Nat)(cells cells':List PV)(m:Nat):Prop:=kE P f=true/\cells'.length<=cells.length/\m<=n/\cells'.all flat1=true/\
 ∀(C:bG) (w:World) (b c:Nat) (arr:Array Value) (vs:List Value),(∀b' o v,C b' o v->w.cell? ⟨b',o,none⟩=some v/\b'≠b)->Lent C w b c ty esz cells arr->n<=c->bK C A vs->
  Calls P f (.slice (some ⟨b,0,none⟩) n c::vs).toArray w λe w'=>∃arr',e= .returned (.slice (some ⟨b,0,none⟩) m c)/\w'.heap[b]? =some (.cells arr' ty (0,0))/\arr'.size=arr.size/\
   (∀(i:Nat) x,cells'[i]? =some x->∃v,arr'[i]? =some v/\v.oneCell'=true/\aY C x v)/\w.grownBy w' (some b)
variable {o:Oper} {E:Operand->AV} {σ:Nat->Option Ob} {n:Nat}
def MC{c:Call}{f:Operand}{fid:FuncId}{s k m ty esz:Nat}{rest:List AV}{A cells cells':List PV}(ho:o.op= .call c)(hc:c.callee= .value f)(hfv:E f= .p (.fn (.func fid) [] []))
  (hargs:c.args.toList.map E= .own s 0 k::rest) (hob:σ s=some ⟨ty,esz,cells.map .p⟩) (he:esz≠0) (hk:0<k) (hA:dr (iO 3 σ) rest=some A) (hns:s∉bQ (fo 3 σ) rest) (hS:Ii P fid k A ty esz cells cells' m):
  bW P o E σ n (.own (sit n 0) 0 m) (s::bQ (fo 3 σ) rest) [(s,none),(sit n 0,some ⟨ty,esz,cells'.map .p⟩)] :=by
 have hfm:f∈o.op.operands.toList:=by rw[ho];simp[ce,ju,hc]
 have ham:∀x∈c.args.toList,x∈o.op.operands.toList:=by intro x hx;rw[ho];simp[ce,ju];exact .inr (by grind)
 obtain⟨hok,hlen,hmk,hfl,hcall⟩:=hS;intro C0 ρ g V w B hs hB hR hn hgn hE;have hn:=hn _ (iW n 0);have hgn:=hgn _ (iW n 0);have hcl:∀s,cls s≠n->s≠sit n 0:=λs h e=>h (by rw[e];exact iW n 0);have hl:∀l:List Operand,(∀x∈l,x∈o.op.operands.toList)->bE ρ (bC C0 B w ρ g) (l.map E) (l.map (bJ V)):=by
  intro l;induction l with
  |nil=>intro _;rfl
  |cons x l ih=>
   unfold bE;grind
 have hall:=hl _ ham;rw[hargs]at hall;unfold bE at hall;obtain⟨v,us,hvs,hv,hus⟩:=hall;have hvf:bJ V f= .func (.func fid) #[] #[] :=by have:=hE f hfm;rw[hfv]at this;unfold aR aY at this;obtain⟨v1,v2,h1,h2,h3⟩:=this;unfold bK at h2 h3;rw[h1,h2,h3]
 have hrun:(execOp (bJ V) o).run P w= .ok (.enter fid (v::us).toArray) w:=by
  unfold execOp;rw[ho];have e2: #[] ++uc (bJ V) c.args++ #[] =(v::us).toArray:=by rw[<-hvs];apply p8.1;simp
  simp only[resolve,hc,hvf,ud,cr,da,dB,invoke,l5 hok,e2]
 have hgs:g s=some ⟨ty,esz,cells.map .p⟩:=by grind
 unfold aR at hv;obtain⟨q,cap,hρ,⟨_,_,hk0,_⟩|⟨b,o',c',rfl,rfl,h5,h6,h7⟩⟩:=hv
 .omega
 obtain⟨rfl,rfl⟩:=h7 rfl;obtain⟨hBb,arr,hO⟩:=hs.at hgs hρ;have hL:Lent (λb' o u=>w.cell? ⟨b',o,none⟩=some u/\b'≠b) w b c' ty esz cells arr:=by refine⟨hO.blk,λh=>by omega,λh=>by simpa using hO.row h,λi x hi=> ?_⟩;obtain⟨u,h1,h2,h3⟩:=hO.cells i (.p x) (by grind);unfold aR at h3;exact⟨u,h1,h2,aY.mono (λb' o v h=>⟨h.1,λe=>by subst e;have:=h.2.1 s c' hρ;grind⟩) x u h3⟩
 have hcN:cells.length<=arr.size:=by simpa using(hO.row he).2.1
 unfold cQ;rw[hrun];dsimp only;refine(hcall _ w b c' arr us (by grind) hL h5 (KH hs hgs hρ hA (by grind) hus)).mono ?_;rintro e w' ⟨arr',rfl,hblk,hsz,hcells,hG⟩;generalize hnS:sit n 0=nS at*;have hsn:s≠nS:=λe=>by grind
 let ρ':Ren:=λt=>if t=nS then some (some b,c')else ρ t
 have hρn:ρ' nS=some (some b,c'):=if_pos rfl;have hρs:∀t,t≠nS->ρ' t=ρ t:=by grind
 have hext:∀t q,ρ t=some q->ρ' t=some q:=by grind
 have hlk:∀t,t≠s->t≠nS->[(s,none),(nS,some (⟨ty,esz,cells'.map .p⟩:Ob))].lookup t=none:=by intro t h1 h2;simp[iU,beq_eq_false_iff_ne.2 h1,beq_eq_false_iff_ne.2 h2]
 have hup:∀t,t≠s->t≠nS->az g [(s,none),(nS,some ⟨ty,esz,cells'.map .p⟩)] t=g t:=by intro t h1 h2;unfold az;rw[hlk t h1 h2]
 have hups:az g [(s,none),(nS,some ⟨ty,esz,cells'.map .p⟩)] s=none:=by unfold az;simp[iU]
 have hold:∀k,k<w.heap.size->k≠b->w'.heap[k]? =w.heap[k]? :=λk h1 h2=>hG.block k h1 (by grind);have hmono:∀b' o' x,bC C0 B w ρ g b' o' x->bC C0 B w' ρ' (az g [(s,none),(nS,some ⟨ty,esz,cells'.map .p⟩)]) b' o' x:=by
  intro b' o' x ⟨e1,e2,e0⟩;have hne:b'≠b:=λe=>by grind
  refine⟨(je (hold b' (kO w ⟨b',o',none⟩ e1) hne)).trans e1,?_,e0⟩;intro t c2 e3;by_cases h1:t=nS
  .grind
  .grind
 refine⟨_,rfl,ρ',by grind,hmono,?_,by unfold aR;grind,⟨hG.os,hG.tape,hG.output,hG.size,by grind⟩⟩;refine hs.step (by grind) hext hmono ?_ ?_ λk es clock hk=>hold k (tk hk) (vm hk hO.blk)
 .intro t ob b' c2 e1 e2 e3;obtain⟨_,arr2,e4⟩:=hs.at e2 e3;refine hold b' e4.lt λe=> ?_;subst e;have:=hs.inj t s ob _ b' c2 c' e2 hgs e3 hρ;grind
 .intro t ob e1;have e2:t=nS:=by
   rcases p9 t nS with h1|h1
   .grind
   .exact h1
  subst e2;have e3:ob=⟨ty,esz,cells'.map .p⟩:=by simp[iU,beq_eq_false_iff_ne.2 (Ne.symm hsn)]at e1;exact e1.symm
  subst e3;obtain⟨r1,r2,r3⟩:=hO.row he;refine⟨some b,c',hρn,.inr ⟨b,arr',rfl,hBb,⟨hblk,by grind,by grind,λi x hi=> ?_⟩,?_⟩⟩
  .rw[gr]at hi;cases hc2:cells'[i]? with
   |none=>grind
   |some y=>
    rw[hc2]at hi;simp only[eJ,fg]at hi;subst hi;obtain⟨u,h1,h2,h3⟩:=hcells i y hc2;exact⟨u,h1,h2,by exact FC (by grind) h3⟩
  .intro t' ob' c2 hne hg' hr';rw[hρs t' hne]at hr';by_cases h2:t'=s
   .grind
   .rw[hup t' h2 hne]at hg';exact h2 (hs.inj t' s ob' _ b c2 c' hg' hgs hr' hρ)
def MA{c:Call}{f:Operand}{fid:FuncId}{s k ty esz:Nat}{rest:List AV}{A cells cells':List PV}(ho:o.op= .call c)(hc:c.callee= .value f)(hfv:E f= .p (.fn (.func fid) [] []))
  (hargs:c.args.toList.map E= .own s 0 k::rest) (hob:σ s=some ⟨ty,esz,cells.map .p⟩) (he:esz≠0) (hk:0<k) (hA:dr (iO 3 σ) rest=some A) (hns:s∉bQ (fo 3 σ) rest) (hfl:cells'.all flat1=true) (hS:nI P fid (some k) A ty esz cells cells'):
  bW P o E σ n .undef (s::bQ (fo 3 σ) rest) [(s,some ⟨ty,esz,cells'.map .p⟩)] :=by
 have hfm:f∈o.op.operands.toList:=by rw[ho];simp[ce,ju,hc]
 have ham:∀x∈c.args.toList,x∈o.op.operands.toList:=by intro x hx;rw[ho];simp[ce,ju];exact .inr (by grind)
 obtain⟨hok,hlen,hcall,_⟩:=hS;intro C0 ρ g V w B hs hB hR hn hgn hE;have hl:∀l:List Operand,(∀x∈l,x∈o.op.operands.toList)->bE ρ (bC C0 B w ρ g) (l.map E) (l.map (bJ V)):=by
  intro l;induction l with
  |nil=>intro _;rfl
  |cons x l ih=>
   unfold bE;grind
 have hall:=hl _ ham;rw[hargs]at hall;obtain⟨v,us,hvs,hv,hus⟩:=hall;have hvf:bJ V f= .func (.func fid) #[] #[] :=by have:=hE f hfm;rw[hfv]at this;unfold aR aY at this;obtain⟨v1,v2,h1,h2,h3⟩:=this;unfold bK at h2 h3;rw[h1,h2,h3]
 have hrun:(execOp (bJ V) o).run P w= .ok (.enter fid (v::us).toArray) w:=by
  unfold execOp;rw[ho];have e2: #[] ++uc (bJ V) c.args++ #[] =(v::us).toArray:=by rw[<-hvs];apply p8.1;simp
  simp only[resolve,hc,hvf,ud,cr,da,dB,invoke,l5 hok,e2]
 have hgs:g s=some ⟨ty,esz,cells.map .p⟩:=by grind
 obtain⟨q,cap,hρ,⟨_,_,hk0,_⟩|⟨b,o',c',rfl,rfl,h5,h6,h7⟩⟩:=hv
 .omega
 obtain⟨rfl,rfl⟩:=h7 rfl;obtain⟨hBb,arr,hO⟩:=hs.at hgs hρ;have hL:Lent (λb' o u=>w.cell? ⟨b',o,none⟩=some u/\b'≠b) w b c' ty esz cells arr:=by refine⟨hO.blk,λh=>by omega,λh=>by simpa using hO.row h,λi x hi=> ?_⟩;obtain⟨u,h1,h2,h3⟩:=hO.cells i (.p x) (by grind);unfold aR at h3;exact⟨u,h1,h2,aY.mono (λb' o v h=>⟨h.1,λe=>by subst e;have:=h.2.1 s c' hρ;grind⟩) x u h3⟩
 unfold cQ;rw[hrun];refine(hcall _ w b c' arr us (by grind) hL (by grind) (KH hs hgs hρ hA (by grind) hus)).mono ?_;rintro e w' ⟨arr',rfl,hL',hG⟩;have hlk:∀t,t≠s->[(s,some (⟨ty,esz,cells'.map .p⟩:Ob))].lookup t=none:=by intro t h1;simp[iU,beq_eq_false_iff_ne.2 h1]
 have hup:∀t,t≠s->az g [(s,some ⟨ty,esz,cells'.map .p⟩)] t=g t:=by intro t h1;unfold az;rw[hlk t h1]
 have hold:∀k,k<w.heap.size->k≠b->w'.heap[k]? =w.heap[k]? :=λk h1 h2=>hG.block k h1 (by grind);have hmono:∀b' o' x,bC C0 B w ρ g b' o' x->bC C0 B w' ρ (az g [(s,some ⟨ty,esz,cells'.map .p⟩)]) b' o' x:=by
  intro b' o' x ⟨e1,e2,e0⟩;have hne:b'≠b:=λe=>by grind
  refine⟨(je (hold b' (kO w ⟨b',o',none⟩ e1) hne)).trans e1,?_,e0⟩;intro t c2 e3;by_cases h2:t=s
  .grind
  .grind
 refine⟨_,rfl,ρ,λ_ _=>rfl,hmono,?_,by rfl,⟨hG.os,hG.tape,hG.output,hG.size,by grind⟩⟩;refine hs.step (by grind) (λ_ _ h=>h) hmono ?_ ?_ λk es clock hk=>hold k (tk hk) (vm hk hO.blk)
 .intro t ob b' c2 e1 e2 e3;obtain⟨_,arr2,e4⟩:=hs.at e2 e3;refine hold b' e4.lt λe=> ?_;subst e;have:=hs.inj t s ob _ b' c2 c' e2 hgs e3 hρ;grind
 .intro t ob e1;have e2:t=s:=by
   rcases p9 t s with h1|h1
   .grind
   .exact h1
  subst e2;have e3:ob=⟨ty,esz,cells'.map .p⟩:=by simp[iU]at e1;exact e1.symm
  subst e3;refine⟨some b,c',hρ,.inr ⟨b,arr',rfl,hBb,⟨hL'.blk,by grind,λh=>by simpa using hL'.row h,λi x hi=> ?_⟩,?_⟩⟩
  .rw[gr]at hi;cases hc2:cells'[i]? with
   |none=>grind
   |some y=>
    rw[hc2]at hi;simp only[eJ,fg]at hi;subst hi;obtain⟨u,h1,h2,h3⟩:=hL'.cells i y hc2;exact⟨u,h1,h2,by exact FC (by grind) h3⟩
  .intro t' ob' c2 hne hg' hr';rw[hup t' hne]at hg';exact hne (hs.inj t' t ob' _ b c2 c' hg' hgs hr' hρ)
end
def fE(x y:Int):Int:=if x<y then-1 else if y<x then 1 else 0
def aCn(ax ay bx b_y:Int)(w:World):gF bH (binOp .eql 44 (.agg #[.int .i64 ax,.int .i64 ay]) (.agg #[.int .i64 bx,.int .i64 b_y])) w= .ok (.bool (ax==bx&&ay==b_y)) w:=by
 have u3:=Tryz.underlying3;have a3:=Tryz.isAgg3;have z3:=Tryz.sizeOf3;have hS:bH.underlying 44=some (.struct (bH.fieldsOf 44)):=by kernel_rfl
 have hp:bH.stoodInHeld 44=false:=by kernel_rfl
 rw[run_eql_struct,show(10000:Nat)=9999+1 from rfl,run_equalIn_agg w 9999 44 _ _ hS hp];simp only[Program.fieldsOf,Tryz.underlying44]
 go_simp
 grind
section
def fy(r:List V):List PV:=r.flatMap λv=>[.int .i64 v.x,.int .i64 v.y]
def DD(l:List S):List PV:=l.flatMap λs=>[.int .i64 s.a.x,.int .i64 s.a.y,.int .i64 s.b.x,.int .i64 s.b.y]
def iP(r:List V):PV:= .sl r.length (fy r)
def Hq(l:List S):PV:= .sl l.length (DD l)
def qS(l:List aD):PV:= .sl l.length (l.map iP)
def lC(s:Shape):PV:= .agg [iP s.outer,qS s.holes]
def lM{α:Type}(m:Nat)(enc:List α->List PV)(e:α->List PV):Prop:=∀l,enc l=l.flatMap e/\∀x,(e x).length=m
section
variable {α:Type} {m:Nat} {enc:List α->List PV} {e:α->List PV}
def lM.length(h:lM m enc e)(l:List α):(enc l).length=l.length*m:=by
 rw[(h l).1];induction l with
 |nil=>simp
 |cons x l ih=>simp only[ff,List.length_append,ih,(h []).2 x,iE,zV];omega
def lM.append(h:lM m enc e)(l k:List α):enc (l++k)=enc l++enc k:=by rw[(h _).1,(h l).1,(h k).1,List.flatMap_append]
def lM.at(h:lM m enc e)(l:List α)(i:Nat)(hi:i<l.length):((enc l).drop (i*m)).take m=e l[i] :=by
 have h1:l=l.take i++l[i] ::l.drop (i+1):=by rw[List.getElem_cons_drop];simp
 have h2:enc l=enc (l.take i)++(e l[i] ++enc (l.drop (i+1))):=by
  conv=>lhs;rw[h1]
  rw[h.append,(h (l[i] ::_)).1,ff,<-(h _).1]
 have h3:=h.length (l.take i);rw[mX,JA (by omega)]at h3;rw[h2,<-h3,List.drop_left,<-(h []).2 l[i],Dc]
def lM.take(h:lM m enc e)(l:List α)(k:Nat):(enc l).take (k*m)=enc (l.take k):=by
 by_cases hk:k<=l.length
 .have h3:=h.length (l.take k);rw[mX,JA hk]at h3
  conv=>lhs;rw[<-uX k l,h.append,<-h3,Dc]
 .rw[iV (by rw[h.length];exact zW _ (by omega)),iV (by omega)]
def lM.drop(h:lM m enc e)(l:List α)(k:Nat):(enc l).drop (k*m)=enc (l.drop k):=by
 by_cases hk:k<=l.length
 .have h3:=h.length (l.take k);rw[mX,JA hk]at h3
  conv=>lhs;rw[<-uX k l,h.append,<-h3,List.drop_left]
 .have e1:l.drop k=[] :=TC (by omega);rw[e1,TC (by rw[h.length];exact zW _ (by omega)),(h []).1];rfl
end
def vw:lM 2 fy λv=>[.int .i64 v.x,.int .i64 v.y] :=λ_=>⟨rfl,λ_=>rfl⟩
def aB4:lM 4 DD λs=>[.int .i64 s.a.x,.int .i64 s.a.y,.int .i64 s.b.x,.int .i64 s.b.y] :=λ_=>⟨rfl,λ_=>rfl⟩
def nth_eq{v:List V}{i:Nat}(h:i<v.length):aFG v i=v[i] :=by unfold aFG;grind
def aAM{v:List V}{i:Nat}(h:i<v.length):((fy v).drop (i*2)).take 2=[.int .i64 (aFG v i).x,.int .i64 (aFG v i).y] :=by rw[nth_eq h];exact vw.at v i h
def ZP:yo bH 44 2:=by
 intro xs ys x y w hx hy;match xs,ys,hx,hy with
 |[a,b],[c,d],_,_=>
  have h1:=aCn a b c d w;refine⟨?_,?_⟩
  .simp[eqGuard,h1]
  .simp[eqGuard];rw[run_neq_struct];rw[run_eql_struct]at h1;revert h1;generalize gF bH (Op.equalIn 10000 44 (Value.agg #[cg jV a,cg jV b]) (Value.agg #[cg jV c,cg jV d])) w=R;intro h1;cases R with
   |ok q w'=>
    obtain⟨rfl,rfl⟩:=h1;simp[zY];grind
   |_=>simp_all
def aW(l:List S)(i:Nat):S:=l.getD i default
def aa(l:List (Nat×Nat))(i:Nat):Nat×Nat:=l.getD i default
def cu(l:List Int)(i:Nat):Int:=l.getD i 0
def aCK(l:List Bool)(i:Nat):Bool:=l.getD i false
def pC{α:Type}{l:List α}{i:Nat}{d:α}(h:i<l.length):l.getD i d=l[i] :=by grind
def jB{l:List S}{i:Nat}(h:i<l.length):aW l i=l[i] :=pC h
def kz{l:List aD}{i:Nat}(h:i<l.length):aC l i=l[i] :=pC h
def o8{l:List (Nat×Nat)}{i:Nat}(h:i<l.length):aa l i=l[i] :=pC h
def BM{l:List S}{i:Nat}(h:i<l.length):aW l i∈l:=by rw[jB h];grind
section
variable {α:Type} {m:Nat} {enc:List α->List PV} {e:α->List PV}
def lM.sub(h:lM m enc e)(l:List α){k:Nat}(hk:k<l.length)(j n:Nat)(hj:j+n<=m):((enc l).drop (k*m+j)).take n=((e l[k]).drop j).take n:=by
 have h1:=h.at l k hk;have h2:(((enc l).drop (k*m)).drop j).take n=((((enc l).drop (k*m)).take m).drop j).take n:=by
  rw[List.drop_take,List.take_take]
  congr 1;omega
 simp_all
end
section
variable {α:Type} {m:Nat} {enc:List α->List PV} {e:α->List PV}
end
def BI:(∀a b:Bool,((a&&b)=true)=(a=true/\b=true))/\(∀a b:Bool,((a||b)=true)=(a=true\/b=true))/\(∀a b:Bool,((a&&b)=false)=(a=false\/b=false))/\(∀a b:Bool,((a||b)=false)=(a=false/\b=false))/\(∀b:Bool,((!b)=true)=(b=false))/\(∀b:Bool,((!b)=false)=(b=true))/\(∀(p:Prop) [Decidable p],(decide p=true)=p)/\(∀(p:Prop) [Decidable p],(decide p=false)=¬p)/\(∀{α:Type} [BEq α] [LawfulBEq α] (a b:α),((a==b)=true)=(a=b))/\(∀{α:Type} [BEq α] [LawfulBEq α] (a b:α),((a==b)=false)=(a≠b))/\(∀{α:Type} [BEq α] [LawfulBEq α] (a b:α),((a !=b)=true)=(a≠b))/\(∀{α:Type} [BEq α] [LawfulBEq α] (a b:α),((a !=b)=false)=(a=b)):=
 ⟨by simp,by simp,by simp,by simp,by simp,by simp,by grind,by grind,λa b=>by simp,λa b=>by simp,λa b=>by simp,λa b=>by simp⟩
end
section
noncomputable section
inductive Fm:Type 1
 |tt
 |stuck (n:Nat)
 |need (p:Prop) (f:Fm)
 |imp (p:Prop) (f:Fm)
 |both (f g:Fm)
 |all (X:Type) (f:X->Fm)
 |ex (X:Type) (f:X->Fm)
def Fm.isTT:Fm->Bool
 | .tt=>true
 |_=>false
def Fm.holds:Fm->Prop
 | .tt=>True
 | .stuck _=>False
 | .need p f=>(match f.isTT with|true=>p|false=>p/\f.holds)
 | .imp p f=>p->f.holds
 | .both f g=>(match f.isTT,g.isTT with|true,_=>g.holds|false,true=>f.holds|false,false=>f.holds/\g.holds)
 | .all X f=>∀x:X,(f x).holds
 | .ex X f=>∃x:X,(f x).holds
def Fm.Hd{f:Fm}(h:f.isTT=true):f.holds:=by cases f<;>first|trivial|cases h
def Fm.Vc{p:Prop}{f:Fm}(h:(Fm.need p f).holds):p/\f.holds:=by
 unfold Fm.holds at h;split at h
 .rename_i e;exact⟨h,Fm.Hd e⟩
 .exact h
def Fm.ut{f g:Fm}(h:(Fm.both f g).holds):f.holds/\g.holds:=by
 unfold Fm.holds at h;split at h
 .rename_i e;exact⟨Fm.Hd e,h⟩
 .rename_i e;exact⟨h,Fm.Hd e⟩
 .exact h
def rq:List Prop->Fm->Fm
 |[],f=>f
 |p::l,f=> .need p (rq l f)
def ss:∀{l:List Prop} {f:Fm},(rq l f).holds->(∀p∈l,p)/\f.holds
 |[],f,h=>⟨by grind,h⟩
 |q::l,f,h=>by
  obtain⟨h1,h2⟩:=Fm.Vc h;obtain⟨h3,h4⟩:=ss h2;grind
def pi:List Prop->Prop
 |[] =>True
 |[p] =>p
 |p::l=>p/\pi l
def jz:∀{l:List Prop},pi l↔∀p∈l,p
 |[] =>⟨by grind,λ_=>trivial⟩
 |[p] =>⟨λh q hq=>(by rw[bn.1 hq];exact h),λh=>h p (by grind)⟩
 |p::q::l=>by
  show p/\pi (q::l)↔_;rw[jz];exact⟨by grind,λh=>⟨h p (by grind),by grind⟩⟩
def IR(l:List Prop)(f:Fm):Fm:=match l with
 |[] =>f
 |p::l=> .imp (pi (p::l)) f
def Ki{l:List Prop}{f:Fm}(h:(IR l f).holds)(hl:∀p∈l,p):f.holds:=by
 cases l with
 |nil=>exact h
 |cons p l=>exact(h:pi (p::l)->_) (jz.2 hl)
inductive LT where
 |V|S|R|I|B|P|Q
deriving DecidableEq
@[reducible] def LT.ty : LT → Type
  | .V => Geo.V
  | .S => Geo.S
  | .R => aD
  | .I => Int
  | .B => Bool
  | .P => Nat × Nat
  | .Q => List Int
def LT.w:LT->Nat
 | .V=>2
 | .S=>4
 | .R=>1
 | .I=>1
 | .B=>1
 | .P=>2
 | .Q=>1
def IY(l:List Int):List PV:=l.flatMap λn=>[.int .i64 n]
def aj(l:List (List Int))(i:Nat):List Int:=l.getD i []
def LT.rowP:(t:LT)->t.ty->List PV
 | .V=>λv=>[.int .i64 v.x,.int .i64 v.y]
 | .S=>λs=>[.int .i64 s.a.x,.int .i64 s.a.y,.int .i64 s.b.x,.int .i64 s.b.y]
 | .R=>λr=>[.sl r.length (fy r)]
 | .I=>λn=>[.int .i64 n]
 | .B=>λb=>[.bool b]
 | .P=>λp=>[.int .i64 p.1,.int .i64 p.2]
 | .Q=>λr=>[.sl r.length (IY r)]
def LT.enc(t:LT)(l:List t.ty):List PV:=l.flatMap t.rowP
def LT.wide(t:LT):lM t.w t.enc t.rowP:=λ_=>⟨rfl,λx=>by cases t<;>rfl⟩
def LT.lH(t:LT):0<t.w:=by cases t<;>decide
def LT.nth:(t:LT)->List t.ty->Nat->t.ty
 | .V=>aFG
 | .S=>aW
 | .R=>aC
 | .I=>cu
 | .B=>aCK
 | .P=>aa
 | .Q=>aj
def LT.nth_eq(t:LT)(l:List t.ty){i:Nat}(h:i<l.length):t.nth l i=l[i] :=by
 cases t
 .exact Go.Proofs.YthbofdolalagjaaGreat.nth_eq h
 .exact jB h
 .exact kz h
 .exact pC h
 .exact pC h
 .exact o8 h
 .exact pC h
inductive SV where
 |any|undef|nil
 |int (k:IntKind) (n:Int)
 |bool (b:Bool)
 |lit (b:Bool)
 |prop (p:Prop) (d:Decidable p)
 |str (s:ByteArray)
 |agg (l:List SV)
 |tup (l:List SV)
 |lst (t:LT) (l:List t.ty)
 |sl (n:Nat) (cells:List SV)
 |pe (t:LT) (l:List t.ty) (i off:Nat)
 |pro (cells:List SV) (off:Nat)
 |fn (f:Nat) (first caps:List SV)
 |fnp (f:Nat) (first caps:List SV)
 |clo1 (pv:PV) (t:LT) (q:t.ty->Bool) (dom:t.ty->Prop)
 |clo2 (pv:PV) (t:LT) (q:t.ty->t.ty->Int) (dom:t.ty->t.ty->Prop)
 |ptr (s off:Nat)
 |pte (s:Nat) (t:LT) (i off:Nat)
 |own (s:Nat) (t:LT) (n:Nat)
 |owns (s:Nat) (t:LT) (o n:Nat)
 |ownx (s n:Nat)
 |ptb (F:Nat->Bool) (n off:Nat)
 |ownf (x:Nat) (t:LT) (a n:Nat)
 |ptef (x:Nat) (t:LT) (a i off:Nat)
 |ptf (x a:Nat)
 |owF (x n:Nat)
 |junk
 |mp (s:Nat)
def NM:Nat:=1000000
def ncl(x:Nat):Nat:=x % NM
def idx(s:Nat):Nat:=(s/2^cls s-1)/2
def Gh(n i:Nat):idx (sit n i)=i:=by unfold idx;rw[iW];unfold sit;rw[Nat.mul_div_cancel_left _ (by grind)];omega
def OD(n i:Nat):0<sit n i:=Nat.mul_pos (by grind) (by omega)
structure Sites where
 inn:Nat->Nat->Nat
 nm:Nat->Nat
 sub:Nat->Nat
 h1:∀x a,nm (inn x a)=x
 h2:∀x a,sub (inn x a)=a
 h3:∀x a,cls (inn x a)=ncl x
 h4:∀x,x<NM->inn x 0=sit x 0
theorem VO:Nonempty Sites:=⟨⟨λx a=>sit (x % NM) (sit (x/NM) a-1),λs=>cls (idx s+1)*NM+cls s,λs=>idx (idx s+1),
 λx a=>by rw[Gh,iW,Io (OD _ _),iW];exact Nat.div_add_mod' x NM,
 λx a=>by rw[Gh,Io (OD _ _),Gh],
 λx a=>iW _ _,
 λx h=>by rw[dh h,Nat.div_eq_of_lt h];rfl⟩⟩
def sites:Sites:=Classical.choice VO
def inn(x a:Nat):Nat:=sites.inn x a
def aO(x:Nat):Nat:=inn x 0
def nm(s:Nat):Nat:=sites.nm s
def sub(s:Nat):Nat:=sites.sub s
def tj(x a:Nat):nm (inn x a)=x:=sites.h1 x a
def tc(x a:Nat):sub (inn x a)=a:=sites.h2 x a
def fO(x a:Nat):cls (inn x a)=ncl x:=sites.h3 x a
def fJ{x y a b:Nat}(h:inn x a=inn y b):x=y/\a=b:=⟨by rw[<-tj x a,h,tj],by rw[<-tc x a,h,tc]⟩
def l8{x y:Nat}(h:aO x=aO y):x=y:=(fJ h).1
def Ad{x:Nat}(h:x<NM):aO x=sit x 0:=sites.h4 x h
def Cr(n:Nat)(F:Nat->Bool):List PV:=(bM n).map λk=> .bool (F k)
def YE(F:Nat->Bool){n k:Nat}(h:k<n):(Cr n F)[k]? =some (.bool (F k)):=by unfold Cr;grind
def kW(l:List AV):AV:=match bT l with|some q=> .p (.tup q)|none=> .tup l
mutual
def SV.av:SV->AV
 | .any=> .any
 | .undef=> .undef
 | .nil=> .nil
 | .int k n=> .p (.int k n)
 | .bool b=> .p (.bool b)
 | .lit b=> .p (.bool b)
 | .prop p d=> .p (.bool (@decide p d))
 | .str s=> .p (.str s)
 | .agg l=>eO (avs l)
 | .tup l=>kW (avs l)
 | .lst t l=> .p (.sl l.length (t.enc l))
 | .sl n cs=>(match bT (avs cs)with|some q=> .p (.sl n q)|none=> .any)
 | .pe t l i off=> .p (.pro (t.enc l) (i*t.w+off))
 | .pro cs off=>(match bT (avs cs)with|some q=> .p (.pro q off)|none=> .any)
 | .fn f a b=> .fn (.func f) (avs a) (avs b)
 | .fnp f a b=>(match bT (avs a),bT (avs b)with|some x,some y=> .p (.fn (.func f) x y)|_,_=> .any)
 | .clo1 pv _ _ _=> .p pv
 | .clo2 pv _ _ _=> .p pv
 | .ptr s off=> .ptr (aO s) off
 | .pte s t i off=> .ptr (aO s) (i*t.w+off)
 | .own s _ n=> .own (aO s) 0 n
 | .owns s t o n=> .own (aO s) (o*t.w) n
 | .ownx s n=> .own (aO s) 0 n
 | .ptb F n off=> .p (.pro (Cr n F) off)
 | .ownf x _ a n=> .own (inn x (a+1)) 0 n
 | .ptef x t a i off=> .ptr (inn x (a+1)) (i*t.w+off)
 | .ptf x a=> .ptr (aO x) a
 | .owF x n=> .own (aO x) 0 n
 | .junk=> .p .junk
 | .mp s=> .mp (aO s)
def avs:List SV->List AV
 |[] =>[]
 |x::l=>x.av::avs l
end
def jY:∀l:List SV,avs l=l.map SV.av
 |[] =>rfl
 |x::l=>by rw[avs,jY l];rfl
def jv(l:List SV):(avs l).length=l.length:=by rw[jY,di]
def tI(l m:List SV):avs (l++m)=avs l++avs m:=by rw[jY,jY,jY,dM]
def GB(l:List SV)(k:Nat):avs (l.drop k)=(avs l).drop k:=by rw[jY,jY,Dd]
def GA(l:List SV)(k:Nat):avs (l.take k)=(avs l).take k:=by rw[jY,jY,De]
def yP(l:List SV)(k:Nat):(avs l)[k]? =(l[k]?).map SV.av:=by rw[jY,gr]
def PO(l:List SV)(k:Nat)(x:SV):avs (l.set k x)=(avs l).set k x.av:=by rw[jY,jY,List.map_set]
def LT.row:(t:LT)->t.ty->List SV
 | .V=>λv=>[.int .i64 v.x,.int .i64 v.y]
 | .S=>λs=>[.int .i64 s.a.x,.int .i64 s.a.y,.int .i64 s.b.x,.int .i64 s.b.y]
 | .R=>λr=>[.lst .V r]
 | .I=>λn=>[.int .i64 n]
 | .B=>λb=>[.bool b]
 | .P=>λp=>[.int .i64 p.1,.int .i64 p.2]
 | .Q=>λr=>[.lst .I r]
def LT.B5(t:LT)(x:t.ty):avs (t.row x)=(t.rowP x).map .p:=by cases t<;>rfl
def LT.dec:(t:LT)->List SV->Option t.ty
 | .V,[.int .i64 x,.int .i64 y] =>some ⟨x,y⟩
 | .S,[.int .i64 a,.int .i64 b,.int .i64 c,.int .i64 d] =>some ⟨⟨a,b⟩,⟨c,d⟩⟩
 | .R,[.lst .V r] =>some r
 | .R,[.nil] =>none
 | .I,[.int .i64 n] =>some n
 | .Q,[.lst .I r] =>some r
 | .B,[.bool b] =>some b
 | .B,[.lit b] =>some b
 | .B,[.prop p d] =>some (@decide p d)
 | .P,[.int .i64 (.ofNat a),.int .i64 (.ofNat b)] =>some (a,b)
 |_,_=>none
def LT.yk{t:LT}{cs:List SV}{x:t.ty}(h:t.dec cs=some x):avs cs=(t.rowP x).map .p:=by unfold LT.dec at h;split at h<;>first|(cases h;done)|(cases h;rfl)
def LT.decs(t:LT):Nat->List SV->Option (List t.ty)
 |0,[] =>some []
 |0,_=>none
 |n+1,cs=>match t.dec (cs.take t.w),t.decs n (cs.drop t.w)with
  |some x,some l=>some (x::l)
  |_,_=>none
def LT.vV{t:LT}:∀{n:Nat} {cs:List SV} {l:List t.ty},t.decs n cs=some l->l.length=n/\avs cs=(t.enc l).map .p
 |0,[],l,h=>by simp only[LT.decs,fg]at h;subst h;exact⟨rfl,rfl⟩
 |0,_::_,l,h=>by simp[LT.decs]at h
 |n+1,cs,l,h=>by
  unfold LT.decs at h;split at h
  .rename_i x l' h1 h2;cases h;obtain⟨h3,h4⟩:=LT.vV h2;have h5:=LT.yk h1;refine⟨by simp[h3],?_⟩;have h6:avs cs=avs (cs.take t.w)++avs (cs.drop t.w):=by rw[<-tI,uX]
   rw[h6,h5,h4];simp only[LT.enc,ff,dM]
  .cases h
def dV:∀l:List PV,bT (l.map .p)=some l
 |[] =>rfl
 |x::l=>by simp only[dX,bT,dV l,eJ]
def s9(l:List PV):eO (l.map .p)= .p (.agg l):=by unfold eO;rw[dV]
def LT.sub(t:LT)(l:List t.ty){i:Nat}(h:i<l.length)(off m:Nat)(hm:off+m<=t.w):
  ((t.enc l).drop (i*t.w+off)).take m=((t.rowP (t.nth l i)).drop off).take m:=by
 rw[LT.nth_eq t l h];exact t.wide.sub l h off m hm
def LT.get(t:LT)(l:List t.ty){i:Nat}(h:i<l.length)(off:Nat)(hm:off<t.w):
  (t.enc l)[i*t.w+off]? =(t.rowP (t.nth l i))[off]? :=by
 have h1:=congrArg (λl=>l[0]?) (LT.sub t l h off 1 (by omega));grind
def svK:Value->SV
 | .int k n=> .int k n
 | .bool b=> .lit b
 | .string s=> .str s
 | .slice none 0 0=> .nil
 |_=> .any
def PW(v:Value):(svK v).av=lF v:=by unfold svK;split<;>simp only[SV.av,lF]
def GM:∀vs:List Value,avs (vs.map svK)=vs.map lF
 |[] =>rfl
 |v::vs=>by simp only[dX,avs,PW,GM vs]
def svC:Value->SV
 | .agg cs=>if cs.toList.all (·.oneCell')=true then .agg (cs.toList.map svK)else .any
 | .tuple vs=>if vs.toList=[]then .undef else .any
 |v=>svK v
def aBg(v:Value):(svC v).av=td v:=by
 unfold svC;split
 .split<;>rename_i h<;>simp only[td,SV.av,GM,h] <;>rfl
 .split<;>rename_i h<;>simp only[td,SV.av,h,if_true,if_false]
 .rw[PW];unfold td;grind
abbrev Frm:=List (Nat×SV)
def Frm.at:Frm->Nat->SV
 |[],_=> .undef
 |(d,v)::F,t=>match bF t d with|true=>v|false=>Frm.at F t
def Frm.mF(d:Nat)(v:SV)(F:Frm)(t:Nat):Frm.at ((d,v)::F) t=if t=d then v else Frm.at F t:=by
 conv=>lhs;unfold Frm.at
 split
 .simp_all
 .rename_i h;rw[if_neg (mZ h)]
def Frm.av(n:Nat)(F:Frm):List AV:=(bM n).map λt=>(F.at t).av
def Frm.jj(n:Nat)(F:Frm):(F.av n).length=n:=by simp[Frm.av]
def Frm.mv{n:Nat}{F:Frm}{t:Nat}(h:t<n):(F.av n).getD t .any=(F.at t).av:=by unfold Frm.av;grind
def Frm.aBY{n:Nat}{F:Frm}{d:Nat}{v:SV}(h:d<n):eP (F.av n) (some d) v.av=Frm.av n ((d,v)::F):=by
 unfold eP;apply DY;intro i;rw[zT];by_cases hi:i<n
 .by_cases e:d=i
  .subst e;rw[if_pos rfl,if_pos (by rw[Frm.jj];exact h)];unfold Frm.av;rw[gr,I7 h,eJ,Frm.mF,if_pos rfl]
  .rw[if_neg e];unfold Frm.av;rw[gr,gr,I7 hi,eJ,eJ,Frm.mF,if_neg (by grind)]
 .have h1:(Frm.av n ((d,v)::F))[i]? =none:=mY (by rw[Frm.jj];omega);have h2:(F.av n)[i]? =none:=mY (by rw[Frm.jj];omega);grind
def uF(n:Nat)(F:Frm):Operand->SV
 | .tmp t=>(match i5 t n with|true=>F.at t|false=> .any)
 | .const v=>svC v
 | .func f=> .fnp f [] []
 | .global _=> .any
def F5{n:Nat}{F:Frm}(x:Operand):(uF n F x).av=kX (F.av n) x:=by
 cases x with
 |tmp t=>
  show(match i5 t n with|true=>F.at t|false=>SV.any).av=(F.av n).getD t .any;cases h:i5 t n with
  |true=>rw[Frm.mv (by simp_all)]
  |false=>
   have h2:¬(t+1<=n):=λhh=>by have:=Nat.ble_eq_true_of_le hh;rw[show i5 t n=nQ (t+1) n from rfl]at h;grind
   rw[eI,mY (by rw[Frm.jj];grind)];rfl
 |const v=>exact aBg v
 |func f=>rfl
 |global g=>rfl
inductive SOb where
 |box (ty:TypeId) (cells:List SV)
 |row (ty:TypeId) (t:LT) (l:List t.ty)
 |arr (ty esz:Nat) (cells:List SV)
 |fam (ty ity:TypeId) (t:LT) (L:List (List t.ty)) (ov:List (Nat×SV))
 |mp (ks:List (Nat×Nat))
def jJ(x:Nat){α:Type}(L:List (List α))(ov:List (Nat×SV))(i:Nat):AV:=match ov.lookup i with
 |some v=>v.av
 |none=> .own (inn x (i+1)) 0 (L.getD i []).length
def gv(ks:List (Nat×Nat)):List (List Int×AV):=ks.map λk=>([(k.1:Int),(k.2:Int)],.p (.bool true))
def tR:∀ks:List (Nat×Nat),gZ (gv ks)=(ks.flatMap λk=>[PV.agg (ll [(k.1:Int),(k.2:Int)]),.bool true]).map .p
 |[] =>rfl
 |k::ks=>by
  have:=tR ks;unfold gZ gv at*;grind
def SOb.ob(x:Nat):SOb->Ob
 | .box ty cs=>⟨ty,0,avs cs⟩
 | .row ty t l=>⟨ty,t.w,(t.enc l).map .p⟩
 | .arr ty esz cs=>⟨ty,esz,avs cs⟩
 | .fam ty _ _ L ov=>⟨ty,1,(bM L.length).map (jJ x L ov)⟩
 | .mp ks=>⟨1,0,gZ (gv ks)⟩
def SOb.inner(a:Nat):SOb->Option Ob
 | .fam _ ity t L ov=>(match ov.lookup a with|some _=>none|none=>(L[a]?).map λl=>⟨ity,t.w,(t.enc l).map .p⟩)
 |_=>none
def SOb.flat:SOb->Bool
 | .fam .. =>false
 |_=>true
def SOb.Af{ob:SOb}(h:ob.flat=true)(a:Nat):ob.inner a=none:=by cases ob<;>first|rfl|cases h
abbrev aP:=List (Nat×Option SOb)
def aP.at:aP->Nat->Option SOb
 |[],_=>none
 |(k,x)::L,s=>match bF s k with|true=>x|false=>aP.at L s
abbrev Sg:=Nat->Option SOb
open Classical in
def Sg.a(σ:Sg):Sto:=λs=>if inn (nm s) (sub s)=s then(match sub s with
 |0=>(σ (nm s)).map (SOb.ob (nm s))
 |a+1=>(σ (nm s)).bind (SOb.inner a))else none
def Sg.cP(σ:Sg)(x:Nat):σ.a (aO x)=(σ x).map (SOb.ob x):=by unfold Sg.a aO;rw[tc,tj,if_pos rfl]
def Sg.fX(σ:Sg)(x a:Nat):σ.a (inn x (a+1))=(σ x).bind (SOb.inner a):=by unfold Sg.a;rw[tc,tj,if_pos rfl]
def Sg.kI(σ:Sg){s:Nat}(h:∀x a,s≠inn x a):σ.a s=none:=by unfold Sg.a;grind
def kq(s:Nat):(∃x,s=aO x)\/(∃x a,s=inn x (a+1))\/∀x a,s≠inn x a:=by
 by_cases h:∃x a,s=inn x a
 .obtain⟨x,a,rfl⟩:=h;cases a with
  |zero=>exact .inl ⟨x,rfl⟩
  |succ a=>grind
 grind
def aP.up(W:aP)(σ:Sg):Sg:=λs=>match W.lookup s with|some x=>x|none=>σ s
def aP.CO(W L:aP):W.up L.at=(W++L).at:=by
 funext s
 unfold aP.up;induction W with
 |nil=>rfl
 |cons q W ih=>
  obtain⟨k,x⟩:=q;show _=(match bF s k with|true=>x|false=>aP.at (W++L) s);rw[dY];cases h:bF s k with
  |true=>simp_all
  |false=>rw[beq_eq_false_iff_ne.2 (mZ h)];exact ih
def bY(σ:Sg)(rd:List Nat)(W:aP)(R':List Nat)(W':List (Nat×Option Ob)):Prop:=
 inC R' (rd.map ncl)/\inC (W'.map (·.1)) (W.map λq=>ncl q.1)/\az σ.a W'=(W.up σ).a
def bY.read(σ:Sg)(rd:List Nat):bY σ rd [] (rd.map aO) [] :=by refine⟨λs hs=> ?_,λs hs=>by grind,rfl⟩;obtain⟨x,hx,rfl⟩:=bR.1 hs;rw[show cls (aO x)=ncl x from fO x 0];grind
def frs(σ:Sg)(n:Nat):Bool:=match i5 n NM,σ n with
 |true,none=>true
 |_,_=>false
def ms{σ:Sg}{n:Nat}(h:frs σ n=true):aO n=sit n 0/\σ n=none:=by
 unfold frs at h;split at h
 .rename_i h1 h2;exact⟨Ad (by simp_all),h2⟩
 .cases h
def ql:Option SOb->Bool
 |some ob=>ob.flat
 |none=>true
def aP.sto(W:aP):List (Nat×Option Ob):=W.map λq=>(aO q.1,q.2.map (SOb.ob q.1))
def Vf(W:aP)(x:Nat):W.sto.lookup (aO x)=(W.lookup x).map λo=>o.map (SOb.ob x):=by
 induction W with
 |nil=>rfl
 |cons q W ih=>
  obtain⟨k,o⟩:=q;show((aO k,o.map (SOb.ob k))::aP.sto W).lookup (aO x)=_;rw[dY,dY];by_cases h:x=k
  .subst h;simp
  .rw[beq_eq_false_iff_ne.2 h,beq_eq_false_iff_ne.2 λe=>h (l8 e)];exact ih
def KD{W:aP}{s:Nat}(h:∀x,s≠aO x):W.sto.lookup s=none:=by
 induction W with
 |nil=>rfl
 |cons q W ih=>
  show((aO q.1,q.2.map (SOb.ob q.1))::aP.sto W).lookup s=_;grind
def bY.flat{σ:Sg}{rd:List Nat}{W:aP}(h:∀q∈W,ql (σ q.1)=true/\ql q.2=true):bY σ rd W (rd.map aO) W.sto:=by
 refine⟨(bY.read σ rd).1,λs hs=> ?_,?_⟩
 .unfold aP.sto at hs;rw[dU]at hs;obtain⟨q,hq,rfl⟩:=bR.1 hs;show cls (aO q.1)∈_;rw[show cls (aO q.1)=ncl q.1 from fO q.1 0];grind
 .funext s
  unfold az;rcases kq s with⟨x,rfl⟩|⟨x,a,rfl⟩|hno
  .rw[Vf,Sg.cP,Sg.cP];unfold aP.up;grind
  .rw[KD λy e=>by have:=(fJ e).2;omega,Sg.fX,Sg.fX];unfold aP.up;cases hl:W.lookup x with
   |none=>rfl
   |some o=>
    have hm:(x,o)∈W:=by
     clear h;induction W with
     |nil=>cases hl
     |cons q W ih=>
      grind
    obtain⟨h1,h2⟩:=h _ hm;have nofam:∀p:Option SOb,ql p=true->p.bind (SOb.inner a)=none:=λp hp=>by
     cases p with
     |none=>rfl
     |some ob=>exact SOb.Af hp a
    grind
  .rw[KD λy e=>hno y 0 e,Sg.kI σ hno,Sg.kI _ hno]
end
end
noncomputable section
def aH(x:Int):Prop:= -9223372036854775808<=x/\x<=9223372036854775807
def uw{x:Int}(h:aH x):jV.wrap x=x:=by unfold aH at h;exact IntWalk.i64_in _ (by omega)
def ix(a:Int)(n:Nat):Prop:=0<=a/\a<(n:Int)
def fC{k n:Nat}(h:k<n):ix k n:=⟨by omega,by omega⟩
def gQ{k n:Nat}(h:0<n):ix (((k % n:Nat):Int)) n:=fC (Nat.mod_lt _ h)
abbrev SR:=Option (List Prop×SV×List Nat×aP)
abbrev SE:=Operand->SV
def SE.a(E:SE):Operand->AV:=λx=>(E x).av
def sH(P:Program)(n:Nat)(o:Oper)(E:SE)(σ:Sg)(R:SR):Prop:=
 ∀ps r rd W,R=some (ps,r,rd,W)->(∀p∈ps,p)->AOp P n o E.a σ.a λr' R' W'=>r'=r.av/\bY σ rd W R' W'
def SV.ok:SV->Prop
 | .pe _ l i _=>i<l.length
 |_=>True
def SV.ape:SV->Bool
 | .pe .. =>true
 |_=>false
def SV.oJ{v:SV}(h:v.ape=false):v.ok:=by cases v<;>first|trivial|cases h
def yl(x:SV):Option (List SV):=match x with
 | .agg l=>some l
 | .tup _=>none
 | .any=>none
 | .undef=>none
 | .sl n cs=>(match bT (avs cs)with|some _=>some [.sl n cs] |none=>none)
 | .pro cs o=>(match bT (avs cs)with|some _=>some [.pro cs o] |none=>none)
 | .fnp f a b=>(match bT (avs a),bT (avs b)with|some _,some _=>some [.fnp f a b] |_,_=>none)
 | .clo1 .. =>none
 | .clo2 .. =>none
 | .junk=>none
 |x=>some [x]
def UN(l:List AV):mJ (eO l)=some l:=by
 unfold eO;cases h:bT l with
 |some q=>rw[show mJ (.p (.agg q))=some (q.map .p)from rfl,<-jX h]
 |none=>rfl
def FK{x:SV}{l:List SV}(h:yl x=some l):mJ x.av=some (avs l):=by
 cases x<;>simp only[yl,reduceCtorEq,fg]at h<;>first|(subst h;rfl)|skip
 .subst h;exact UN _
 .rename_i n cs;cases hq:bT (avs cs)with
  |none=>grind
  |some q=>rw[hq]at h;cases h;simp only[avs,SV.av,hq,mJ]
 .rename_i cs o;cases hq:bT (avs cs)with
  |none=>grind
  |some q=>rw[hq]at h;cases h;simp only[avs,SV.av,hq,mJ]
 .rename_i f a b;cases ha:bT (avs a)<;>cases hb:bT (avs b)<;>rw[ha,hb]at h<;>simp only[reduceCtorEq,fg]at h;subst h;simp only[avs,SV.av,ha,hb,mJ]
def qu(cs:List SV)(off:Nat):List SV->List SV
 |[] =>cs
 |x::l=>qu (cs.set off x) (off+1) l
def yG:∀(l cs:List SV) (off:Nat),avs (qu cs off l)=iA (avs cs) off (avs l)
 |[],cs,off=>rfl
 |x::l,cs,off=>by rw[qu,yG l,PO];rfl
def wH(place:Nat->Option (Nat×Nat))(cells:List SV):List (Nat×SV)->Option (List SV)
 |[] =>some cells
 |(i,v)::rest=>match place i,yl v with
  |some (off,size),some l=>(match bF l.length size,nQ (off+size) cells.length with
   |true,true=>wH place (qu cells off l) rest
   |_,_=>none)
  |_,_=>none
def Fz{place:Nat->Option (Nat×Nat)}:∀(parts:List (Nat×SV)) {cells l:List SV},wH place cells parts=some l->oM place (avs cells) (parts.map λq=>(q.1,q.2.av))=some (avs l)
 |[],cells,l,h=>by simp only[wH,fg]at h;subst h;rfl
 |(i,v)::rest,cells,l,h=>by
  unfold wH at h;split at h
  .rename_i off size m h1 h2;split at h
   .have:=Fz rest h;show(match place i,mJ v.av with|some (off,size),some l=>if l.length=size/\off+size<=(avs cells).length then oM place (iA (avs cells) off l) (rest.map λ(q:Nat×SV)=>(q.1,q.2.av))else none|_,_=>none)=_;rw[h1,FK h2];dsimp only;rw[if_pos ⟨by rw[jv];simp_all,by rw[jv];simp_all⟩,<-yG];exact this
   .cases h
  .cases h
def pS(P:Program)(t:TypeId)(cs:List SV)(off:Nat):Option SV:=match tok P t,ir P t with
 |true,true=>(match bF ((cs.drop off).take (af P t)).length (af P t)with|true=>some (.agg ((cs.drop off).take (af P t)))|false=>none)
 |true,false=>cs[off]?
 |false,_=>none
def rO{P:Program}{t:TypeId}{cs:List SV}{off:Nat}{r:SV}(h:pS P t cs off=some r){K:AV->Prop}(hK:K r.av):ry P t (avs cs) off K:=by
 unfold pS at h;split at h
 .rename_i h1 h2;split at h
  .cases h;refine⟨h1,?_⟩;rw[if_pos h2];refine⟨_,rfl,?_,?_⟩
   .rw[<-GB,<-GA,jv];simp_all
   .rw[<-GB,<-GA];exact hK
  .cases h
 .rename_i h1 h2;refine⟨h1,?_⟩;rw[if_neg (by rw[h2];simp)];exact⟨r.av,by rw[yP,h];rfl,hK⟩
 .cases h
def Ft{P:Program}{t:TypeId}{cs:List PV}{off:Nat}{K:AV->Prop}(h:ry P t (cs.map .p) off K):Hz P t cs off λr=>K (.p r):=by
 obtain⟨h1,h2⟩:=h;refine⟨h1,?_⟩;split at h2
 .rename_i hg;rw[if_pos hg];obtain⟨l,h3,h4,h5⟩:=h2;refine⟨(cs.drop off).take (af P t),rfl,?_,?_⟩
  .grind
  .rw[<-h3,<-Dd,<-De,s9]at h5;exact h5
 grind
def Ez{P:Program}{t:TypeId}{lt:LT}{l:List lt.ty}{i off:Nat}(hi:i<l.length)(hoff:off+(match ir P t with|true=>af P t|false=>1)<=lt.w){f:List PV->List AV}(hf:f=List.map .p){K:AV->Prop}
  (h:ry P t (f (lt.rowP (lt.nth l i))) off K):ry P t (f (lt.enc l)) (i*lt.w+off) K:=by
 subst hf;obtain⟨h1,h2⟩:=h;refine⟨h1,?_⟩;split at h2
 .rename_i hg;rw[hg]at hoff;rw[if_pos hg];obtain⟨m,h3,h4,h5⟩:=h2;refine⟨m,?_,h4,h5⟩;rw[<-Dd,<-De,LT.sub lt l hi off _ hoff,<-h3,De,Dd]
 .rename_i hg;have hg':ir P t=false:=by simpa using hg
  rw[if_neg hg];obtain⟨x,h3,h4⟩:=h2;refine⟨x,?_,h4⟩;rw[gr]at h3|-;rw[LT.get lt l hi off (by grind)];exact h3
def nC:List (Nat×SV)->Nat->List Prop
 |[],_=>[]
 |q::l,a=>(a≠q.1)::nC l a
def tQ:∀{ov:List (Nat×SV)} {a:Nat},(∀p∈nC ov a,p)->ov.lookup a=none
 |[],_,_=>rfl
 |q::l,a,h=>by
  rw[dY,beq_eq_false_iff_ne.2 (h _ cI)];exact tQ λp hp=>h p (cG _ hp)
def bY.readI(σ:Sg)(x a:Nat):bY σ [x] [] [inn x (a+1)] [] :=by refine⟨λs hs=> ?_,λs hs=>by grind,rfl⟩;rw[bn.1 hs,fO];grind
def ZL(x:Nat){α:Type}(L:List (List α))(ov:List (Nat×SV)){a:Nat}(h:a<L.length):((bM L.length).map (jJ x L ov))[a]? =some (jJ x L ov a):=by grind
def E4{σ:Sg}{x a:Nat}{ty ity:TypeId}{lt:LT}{L:List (List lt.ty)}{ov:List (Nat×SV)}(hs:σ x=some (.fam ty ity lt L ov))(ha:a<L.length)(ho:ov.lookup a=none):σ.a (inn x (a+1))=some ⟨ity,lt.w,(lt.enc (L.getD a [])).map .p⟩:=by rw[Sg.fX,hs];show(match ov.lookup a with|some _=>none|none=>(L[a]?).map λl=>(⟨ity,lt.w,(lt.enc l).map .p⟩:Ob))=_;grind
def bY.cell{σ:Sg}{x:Nat}{ty ity:TypeId}{lt:LT}{L:List (List lt.ty)}{q:Nat×SV}{ov:List (Nat×SV)}{v:SV}(hs:σ x=some (.fam ty ity lt L (q::ov))):
  bY σ [x] [(x,some (.fam ty ity lt L ((q.1,v)::ov)))] [aO x] [(aO x,some ⟨ty,1,((bM L.length).map (jJ x L (q::ov))).set q.1 v.av⟩)] :=by
 refine⟨(bY.read σ [x]).1,λs hs=> ?_,?_⟩
 .rw[bn.1 hs];rw[show cls (aO x)=ncl x from fO x 0];grind
 .funext s
  unfold az;rcases kq s with⟨y,rfl⟩|⟨y,b,rfl⟩|hno
  .rw[Sg.cP,Sg.cP,dY];unfold aP.up;rw[dY];by_cases e:y=x
   .subst e;rw[beq_iff_eq.2 rfl,beq_iff_eq.2 rfl];dsimp only[eJ]
    congr 1
    congr 1
    refine uT (by simp) λi h1 h2=> ?_;rw[List.getElem_set];unfold jJ;grind
   .rw[beq_eq_false_iff_ne.2 e,beq_eq_false_iff_ne.2 λh=>e (l8 h)];rfl
  .rw[Sg.fX,Sg.fX,dY,beq_eq_false_iff_ne.2 λh=>by have:=(fJ h).2;omega];unfold aP.up;rw[dY];by_cases e:y=x
   .subst e;rw[beq_iff_eq.2 rfl,hs];unfold SOb.inner;grind
   grind
  .rw[Sg.kI _ hno,Sg.kI _ hno,dY,beq_eq_false_iff_ne.2 (show s≠aO x from λh=>hno x 0 h)];rfl
def Ho(P:Program)(t:TypeId)(x:SV)(σ:Sg):SR:=match x with
 | .pe lt l i off=>(match nQ (off+(match ir P t with|true=>af P t|false=>1)) lt.w,pS P t (lt.row (lt.nth l i)) off with
   |true,some r=>some ([],r,[],[])
   |_,_=>none)
 | .pro cs off=>(match bT (avs cs),pS P t cs off with
   |some _,some r=>some ([],r,[],[])
   |_,_=>none)
 | .ptb F n off=>(match tok P t,ir P t with
   |true,false=>some ([off<n],.bool (F off),[],[])
   |_,_=>none)
 | .ptr s off=>(match σ s with
   |some (.box _ cs)=>(match pS P t cs off with|some r=>some ([],r,[s],[])|none=>none)
   |some (.arr _ _ cs)=>(match pS P t cs off with|some r=>some ([],r,[s],[])|none=>none)
   |_=>none)
 | .pte s lt i off=>(match σ s with
   |some (.row _ lt' l)=>(match decEq lt' lt,nQ (off+(match ir P t with|true=>af P t|false=>1)) lt'.w,pS P t (lt'.row (lt'.nth l i)) off with
    | .isTrue _,true,some r=>some ([i<l.length],r,[s],[])
    |_,_,_=>none)
   |_=>none)
 | .ptf x a=>(match σ x with
   |some (.fam _ _ lt L ov)=>(match tok P t,ir P t with
    |true,false=>some ((a<L.length)::nC ov a,.ownf x lt a (L.getD a []).length,[x],[])
    |_,_=>none)
   |_=>none)
 | .ptef x lt a i off=>(match σ x with
   |some (.fam _ _ lt' L ov)=>(match decEq lt' lt,nQ (off+(match ir P t with|true=>af P t|false=>1)) lt'.w,pS P t (lt'.row (lt'.nth (L.getD a []) i)) off with
    | .isTrue _,true,some r=>some ((a<L.length)::(i<(L.getD a []).length)::nC ov a,r,[x],[])
    |_,_,_=>none)
   |_=>none)
 |_=>none
def YT{P:Program}{n:Nat}{o:Oper}{E:SE}{σ:Sg}{t:TypeId}{x:Operand}(ho:o.op= .load t x)(hx:(E x).ok):sH P n o E σ (Ho P t (E x) σ):=by
 intro ps r rd W h hp;unfold AOp;rw[ho];dsimp only;unfold Ho at h;split at h
 .rename_i lt l i off e;split at h<;>cases h;rename_i h1 h2;rw[e]at hx;rw[show E.a x= .p (.pro (lt.enc l) (i*lt.w+off)) by unfold SE.a;rw[e];rfl];refine Ft (K:=λr'=>r'=r.av/\_) ?_;refine Ez hx (qB h1) rfl ?_;rw[<-LT.B5];exact rO h2 ⟨rfl,bY.read σ []⟩
 .rename_i cs off e;split at h<;>cases h;rename_i q h1 h2;rw[show E.a x= .p (.pro q off) by unfold SE.a;rw[e];simp only[SV.av,h1]];refine Ft (K:=λr'=>r'=r.av/\_) ?_;rw[<-jX h1];exact rO h2 ⟨rfl,bY.read σ []⟩
 .rename_i F m off e;split at h<;>cases h;rename_i h1 h2;have hlt:off<m:=hp _ (by grind);rw[show E.a x= .p (.pro (Cr m F) off) by unfold SE.a;rw[e];rfl];refine Ft (K:=λr'=>r'=(SV.bool (F off)).av/\_) ?_;exact⟨h1,by rw[if_neg (by rw[h2];simp)];exact⟨.p (.bool (F off)),by rw[gr,YE F hlt];rfl,rfl,bY.read σ []⟩⟩
 .rename_i s off e;rw[show E.a x= .ptr (aO s) off by unfold SE.a;rw[e];rfl];split at h
  .rename_i ty cs hs;split at h<;>cases h;rename_i h2;refine⟨_,by rw[Sg.cP,hs];rfl,?_⟩;exact rO h2 ⟨rfl,bY.read σ [s]⟩
  .rename_i ty ez cs hs;split at h<;>cases h;rename_i h2;refine⟨_,by rw[Sg.cP,hs];rfl,?_⟩;exact rO h2 ⟨rfl,bY.read σ [s]⟩
  .cases h
 .rename_i s lt i off e;rw[show E.a x= .ptr (aO s) (i*lt.w+off) by unfold SE.a;rw[e];rfl];split at h
  .rename_i ty lt' l hs;split at h<;>cases h;rename_i he h1 h2 h3;subst he;refine⟨_,by rw[Sg.cP,hs];rfl,?_⟩;refine Ez (hp _ (by simp)) (qB h2) rfl ?_;rw[<-LT.B5];exact rO h3 ⟨rfl,bY.read σ [s]⟩
  .cases h
 .rename_i y a e;rw[show E.a x= .ptr (aO y) a by unfold SE.a;rw[e];rfl];split at h
  .rename_i ty ity lt L ov hs;split at h<;>cases h;rename_i h1 h2;have ha:a<L.length:=hp _ (by grind);have ho:ov.lookup a=none:=tQ (by grind);refine⟨_,by rw[Sg.cP,hs];rfl,h1,?_⟩;rw[if_neg (by rw[h2];simp)];refine⟨_,ZL y L ov ha,?_,bY.read σ [y]⟩;unfold jJ;rw[ho];rfl
  .cases h
 .rename_i y lt a i off e;rw[show E.a x= .ptr (inn y (a+1)) (i*lt.w+off) by unfold SE.a;rw[e];rfl];split at h
  .rename_i ty ity lt' L ov hs;split at h<;>cases h;rename_i he h1 h2 h3;subst he;have ha:a<L.length:=hp _ (by grind);have hi:i<(L.getD a []).length:=hp _ (by grind);have ho:ov.lookup a=none:=tQ (by grind);refine⟨_,E4 hs ha ho,?_⟩;refine Ez hi (qB h2) rfl ?_;rw[<-LT.B5];exact rO h3 ⟨rfl,bY.readI σ y a⟩
  .cases h
 .cases h
def By(P:Program)(t:TypeId)(a v:SV)(σ:Sg):SR:=match yl v,(P.info? t).isSome with
 |some l,true=>(match bF l.length (af P t)with
  |true=>(match a with
   | .ptr s off=>(match σ s with
     |some (.box ty cs)=>(match nQ (off+l.length) cs.length with|true=>some ([],.undef,[s],[(s,some (.box ty (qu cs off l)))])|false=>none)
     |some (.arr ty ez cs)=>(match nQ (off+l.length) cs.length with|true=>some ([],.undef,[s],[(s,some (.arr ty ez (qu cs off l)))])|false=>none)
     |_=>none)
   | .pte s lt i off=>(match σ s with
     |some (.row ty lt' m)=>(match decEq lt' lt,nQ (off+l.length) lt'.w,lt'.dec (qu (lt'.row (lt'.nth m i)) off l)with
      | .isTrue _,true,some e=>some ([i<m.length],.undef,[s],[(s,some (.row ty lt' (m.set i e)))])
      |_,_,_=>none)
     |_=>none)
   | .ptf x a=>(match l,σ x with
     |[v],some (.fam ty ity lt L (q::ov))=>some ([a=q.1,a<L.length],.undef,[x],[(x,some (.fam ty ity lt L ((q.1,v)::ov)))])
     |_,_=>none)
   |_=>none)
  |false=>none)
 |_,_=>none
def UZ{a b c l:List AV}{k off:Nat}(hk:k=a.length)(hoff:off+l.length<=b.length):iA (a++b++c) (k+off) l=a++iA b off l++c:=by
 induction l generalizing b off with
 |nil=>rfl
 |cons x l ih=>
  simp only[iE]at hoff;rw[iA,iA,jt,List.set_append_right _ _ (by omega),show k+off-a.length=off by omega,List.set_append_left _ _ (by omega),<-jt,show k+off+1=k+(off+1) by omega,ih (by simp;omega)]
def aAL(t:LT)(l:List t.ty){i:Nat}(h:i<l.length)(e:t.ty):t.enc l=t.enc (l.take i)++t.rowP l[i] ++t.enc (l.drop (i+1))/\t.enc (l.set i e)=t.enc (l.take i)++t.rowP e++t.enc (l.drop (i+1)):=by
 constructor
 .conv=>lhs;rw[<-uX i l,<-List.getElem_cons_drop h]
  unfold LT.enc;grind
 .rw[List.set_eq_take_append_cons_drop,if_pos h];unfold LT.enc;grind
def WW{P:Program}{n:Nat}{o:Oper}{E:SE}{σ:Sg}{t:TypeId}{a x:Operand}(ho:o.op= .store t a x):sH P n o E σ (By P t (E a) (E x) σ):=by
 intro ps r rd W h hp;unfold AOp;rw[ho];dsimp only;unfold By at h;split at h
 case h_2=>cases h
 rename_i l hl ht;split at h
 case h_2=>cases h
 rename_i hsz;have hl':mJ (E.a x)=some (avs l):=FK hl;have hsz':(avs l).length=af P t:=by rw[jv];exact dN hsz
 split at h
 .rename_i s off e;rw[show E.a a= .ptr (aO s) off by unfold SE.a;rw[e];rfl];unfold vZ;split at h
  .rename_i ty cs hs;split at h<;>cases h;refine⟨_,_,by rw[Sg.cP,hs];rfl,hl',hsz',ht,?_,rfl,?_⟩
   .show off+(avs l).length<=(avs cs).length;rw[jv,jv];simp_all
   .show bY _ _ _ _ [(aO s,some (⟨ty,0,iA (avs cs) off (avs l)⟩:Ob))];rw[<-yG];exact bY.flat (W:=[(s,some (.box ty (qu cs off l)))]) λq hq=>by rw[bn.1 hq,hs];exact⟨rfl,rfl⟩
  .rename_i ty ez cs hs;split at h<;>cases h;refine⟨_,_,by rw[Sg.cP,hs];rfl,hl',hsz',ht,?_,rfl,?_⟩
   .show off+(avs l).length<=(avs cs).length;rw[jv,jv];simp_all
   .show bY _ _ _ _ [(aO s,some (⟨ty,ez,iA (avs cs) off (avs l)⟩:Ob))];rw[<-yG];exact bY.flat (W:=[(s,some (.arr ty ez (qu cs off l)))]) λq hq=>by rw[bn.1 hq,hs];exact⟨rfl,rfl⟩
  .cases h
 .rename_i s lt i off e;rw[show E.a a= .ptr (aO s) (i*lt.w+off) by unfold SE.a;rw[e];rfl];unfold vZ;split at h
  .rename_i ty lt' m hs;split at h<;>cases h;rename_i he h1 _ h2 h3;subst he;have hi:i<m.length:=hp _ (by simp);obtain⟨e1,e2⟩:=aAL lt' m hi h1;have h2':=qB h2;have hlen:(lt'.enc (m.take i)).length=i*lt'.w:=by rw[lt'.wide.length,mX,JA (by omega)]
   refine⟨_,_,by rw[Sg.cP,hs];rfl,hl',hsz',ht,?_,rfl,?_⟩
   .show i*lt'.w+off+(avs l).length<=((lt'.enc m).map AV.p).length;rw[jv,di,lt'.wide.length];have:(i+1)*lt'.w<=m.length*lt'.w:=zW _ (by omega);grind
   .have e3:iA ((lt'.enc m).map AV.p) (i*lt'.w+off) (avs l)=(lt'.enc (m.set i h1)).map AV.p:=by
     rw[e2,dM,dM,<-LT.yk h3,yG,LT.B5,LT.nth_eq lt' m hi]
     conv=>lhs;rw[e1,dM,dM]
     rw[UZ (by grind) (by rw[jv,di,(lt'.wide []).2];exact h2')]
    show bY _ _ _ _ [(aO s,some (⟨ty,lt'.w,iA ((lt'.enc m).map AV.p) (i*lt'.w+off) (avs l)⟩:Ob))];rw[e3];exact bY.flat (W:=[(s,some (.row ty lt' (m.set i h1)))]) λq hq=>by rw[bn.1 hq,hs];exact⟨rfl,rfl⟩
  .cases h
 .rename_i y b e;rw[show E.a a= .ptr (aO y) b by unfold SE.a;rw[e];rfl];unfold vZ;split at h<;>cases h;rename_i v ty ity lt L q ov hs;have hb:b=q.1:=hp _ (by grind);have hL:b<L.length:=hp _ (by grind);refine⟨_,_,by rw[Sg.cP,hs];rfl,hl',hsz',ht,?_,rfl,?_⟩
  .show b+1<=((bM L.length).map (jJ y L (q::ov))).length;grind
  .subst hb;exact bY.cell hs
 .cases h
def v6(P:Program)(t:TypeId):Option (List SV):=match qY P t with
 |true=>(match P.info? t with
  |some i=>(match i.zero with|some z=>some (z.cells.toList.map svK)|none=>none)
  |none=>none)
 |false=>none
def vD{P:Program}{t:TypeId}{z:List SV}(h:v6 P t=some z):qZ P t=some (avs z)/\qY P t=true:=by
 unfold v6 at h;split at h
 .rename_i hz;split at h
  .rename_i i hi;split at h<;>cases h;rename_i zv hzv;refine⟨?_,hz⟩;unfold qZ;rw[hi,rC,hzv,eJ,GM]
  .cases h
 .cases h
def bY.new{σ:Sg}{n:Nat}{ob:SOb}(h:σ n=none)(hs:aO n=sit n 0)(hf:ob.flat=true):bY σ [] [(n,some ob)] [] [(sit n 0,some (ob.ob n))] :=by rw[<-hs];exact bY.flat (rd:=[]) (W:=[(n,some ob)]) λq hq=>by rw[bn.1 hq,h];exact⟨rfl,hf⟩
def B0(P:Program)(σ:Sg)(n:Nat)(t:TypeId):SR:=match v6 P t,frs σ n with
 |some z,true=>some ([],.ptr n 0,[],[(n,some (.box t z))])
 |_,_=>none
def Wl{P:Program}{n:Nat}{o:Oper}{E:SE}{σ:Sg}{t:TypeId}(ho:o.op= .alloc t):sH P n o E σ (B0 P σ n t):=by intro ps r rd W h hp;unfold AOp;rw[ho];unfold B0 at h;split at h<;>cases h;rename_i z hz hf;obtain⟨h1,h2⟩:=vD hz;obtain⟨f1,f2⟩:=ms hf;exact⟨_,h1,h2,by show _=AV.ptr (aO n) 0;rw[f1],bY.new f2 f1 rfl⟩
def Cu(σ:Sg)(n:Nat)(t:TypeId)(x:SV):SR:=match yl x,frs σ n with
 |some l,true=>some ([],.ptr n 0,[],[(n,some (.box t l))])
 |_,_=>none
def Z2{P:Program}{n:Nat}{o:Oper}{E:SE}{σ:Sg}{t:TypeId}{x:Operand}(ho:o.op= .box t x):sH P n o E σ (Cu σ n t (E x)):=by intro ps r rd W h hp;unfold AOp;rw[ho];unfold Cu at h;split at h<;>cases h;rename_i l hl hf;obtain⟨f1,f2⟩:=ms hf;exact⟨_,FK hl,by show _=AV.ptr (aO n) 0;rw[f1],bY.new f2 f1 rfl⟩
def Bz(P:Program)(t:TypeId)(parts:List (Nat×SV)):SR:=match v6 P t,Ga P t with
 |some z,true=>(match wH (HD P t) z parts with|some l=>some ([],.agg l,[],[])|none=>none)
 |_,_=>none
def Wh{P:Program}{n:Nat}{o:Oper}{E:SE}{σ:Sg}{t:TypeId}{parts:Array (Nat×Operand)}(ho:o.op= .build t parts):sH P n o E σ (Bz P t (parts.toList.map λq=>(q.1,E q.2))):=by
 intro ps r rd W h hp;unfold AOp;rw[ho];unfold Bz at h;split at h
 .rename_i z hz hk;split at h<;>cases h;rename_i l hl;obtain⟨h1,h2⟩:=vD hz;have:=Fz _ hl;rw[dU]at this;exact⟨_,h1,h2,hk,_,this,rfl,bY.read σ []⟩
 .cases h
def Cz:Nat->List SV->List SV
 |0,_=>[]
 |m+1,z=>z++Cz m z
def ON(z:List SV):∀m,avs (Cz m z)=nB m (avs z)
 |0=>rfl
 |m+1=>by rw[Cz,tI,ON z m];rfl
def Bh(P:Program)(σ:Sg)(n:Nat)(t:TypeId)(len:Nat)(parts:List (Nat×SV)):SR:=match dI P t with
 |some e=>(match v6 P e,nQ (len*af P e) 1000000,frs σ n with
  |some (z0::zs),true,true=>(match wH (λi=>some (i*af P e,af P e)) (Cz len (z0::zs)) parts with
   |some l=>some ([],.ownx n len,[],[(n,some (.arr e (af P e) l))])
   |none=>none)
  |_,_,_=>none)
 |none=>none
def VQ{P:Program}{n:Nat}{o:Oper}{E:SE}{σ:Sg}{t:TypeId}{len:Nat}{parts:Array (Nat×Operand)}(ho:o.op= .buildSlice t len parts):sH P n o E σ (Bh P σ n t len (parts.toList.map λq=>(q.1,E q.2))):=by
 intro ps r rd W h hp;unfold AOp;rw[ho];unfold Bh at h;split at h
 .rename_i e he;split at h
  .rename_i z0 zs hz hb hf;split at h<;>cases h;rename_i l hl;obtain⟨f1,f2⟩:=ms hf;obtain⟨h1,h2⟩:=vD hz;have:=Fz _ hl;rw[dU,ON]at this;exact⟨e,_,he,h1,h2,(by simp[avs]),qB hb,_,this,by show _=AV.own (aO n) 0 len;rw[f1],bY.new f2 f1 rfl⟩
  .cases h
 .cases h
def Hk(c a b:SV):Option SV:=match c with
 | .lit true=>some a
 | .lit false=>some b
 | .prop p d=>(match a,b with
   | .int .i64 x,.int .i64 y=>some (.int .i64 (@ite _ p d x y))
   | .bool x,.bool y=>some (.bool (@ite _ p d x y))
   | .prop q e,.lit y=>some (.bool (@ite _ p d (@decide q e) y))
   | .lit x,.prop q e=>some (.bool (@ite _ p d x (@decide q e)))
   | .bool x,.lit y=>some (.bool (@ite _ p d x y))
   | .lit x,.bool y=>some (.bool (@ite _ p d x y))
   |_,_=>none)
 | .bool c=>(match a,b with
   | .int .i64 x,.int .i64 y=>some (.int .i64 (if c=true then x else y))
   | .bool x,.bool y=>some (.bool (if c=true then x else y))
   | .bool x,.lit y=>some (.bool (if c=true then x else y))
   | .lit x,.bool y=>some (.bool (if c=true then x else y))
   |_,_=>none)
 |_=>none
def YM{c a b r:SV}(h:Hk c a b=some r){K:AV->Prop}(hK:K r.av):v8 c.av a.av b.av K:=by
 unfold Hk at h;split at h
 .cases h;exact hK
 .cases h;exact hK
 .rename_i p d;split at h<;>cases h<;>(simp only[SV.av,v8]at*;cases d<;>rename_i hp<;>simpa[hp]using hK)
 .rename_i c;split at h<;>cases h<;>(simp only[SV.av,v8]at*;cases c<;>simpa using hK)
 .cases h
def G8(P:Program)(t:TypeId)(x:SV)(f:Nat):Option SV:=match uL P t f with
 |some q=>(match x with
  | .ptr s off=>some (.ptr s (off+q.1))
  | .pe lt l i off=>some (.pe lt l i (off+q.1))
  | .pte s lt i off=>some (.pte s lt i (off+q.1))
  | .pro cs off=>(match bT (avs cs)with|some _=>some (.pro cs (off+q.1))|none=>none)
  |_=>none)
 |none=>none
def We{P:Program}{t:TypeId}{x:SV}{f:Nat}{r:SV}(h:G8 P t x f=some r){K:AV->Prop}(hK:K r.av):HW P t f x.av K/\(x.ok->r.ok):=by
 unfold G8 at h;split at h
 .rename_i q hq;split at h
  .cases h;exact⟨⟨q,hq,hK⟩,λ_=>trivial⟩
  .cases h;exact⟨⟨q,hq,by simpa[SV.av,sV]using hK⟩,λh=>h⟩
  .cases h;exact⟨⟨q,hq,by simpa[SV.av,sV]using hK⟩,λ_=>trivial⟩
  .split at h<;>cases h;rename_i m hm;refine⟨⟨q,hq,?_⟩,λ_=>trivial⟩;simp only[SV.av,hm]at hK|-;exact hK
  .cases h
 .cases h
def G7(P:Program)(t:TypeId)(x:SV)(f:Nat):Option SV:=match uL P t f,x with
 |some q,.agg l=>(match tok P q.2,ir P q.2 with
  |true,true=>some (.agg ((l.drop q.1).take (af P q.2)))
  |true,false=>l[q.1]?
  |false,_=>none)
 |_,_=>none
def Wd{P:Program}{t:TypeId}{x:SV}{f:Nat}{r:SV}(h:G7 P t x f=some r){K:AV->Prop}(hK:K r.av):HR P t f x.av K:=by
 unfold G7 at h;split at h
 .rename_i q l hq;refine⟨q,hq,?_⟩;have key:tz P q.2 (avs l) q.1 K:=by
   split at h
   .rename_i h1 h2;cases h;refine⟨h1,?_⟩;rw[if_pos h2];exact⟨_,rfl,by rw[<-GB,<-GA];exact hK⟩
   .rename_i h1 h2;refine⟨h1,?_⟩;rw[if_neg (by rw[h2];simp)];exact⟨r.av,by rw[yP,h];rfl,hK⟩
   .cases h
  show(match eO (avs l)with| .agg l=>tz P q.2 l q.1 K| .p (.agg l)=>tz P q.2 (l.map .p) q.1 K|_=>False);unfold eO;cases hq:bT (avs l)with
  |none=>exact key
  |some m=>dsimp only;rw[<-jX hq];exact key
 .cases h
def G6(P:Program)(t:TypeId)(x i:SV):Option (List Prop×SV):=match i with
 | .int _ a=>(match x with
   | .lst lt l=>(match dI P t with
     |some e=>(match(P.info? e).isSome,bF (af P e) lt.w with|true,true=>some ([ix a l.length],.pe lt l a.toNat 0)|_,_=>none)
     |none=>none)
   | .own s lt n=>(match dI P t with
     |some e=>(match(P.info? e).isSome,bF (af P e) lt.w with|true,true=>some ([ix a n],.pte s lt a.toNat 0)|_,_=>none)
     |none=>none)
   | .owns s lt o n=>(match dI P t with
     |some e=>(match(P.info? e).isSome,bF (af P e) lt.w with|true,true=>some ([ix a n],.pte s lt (o+a.toNat) 0)|_,_=>none)
     |none=>none)
   | .ownx s n=>(match dI P t with
     |some e=>(match(P.info? e).isSome with|true=>some ([ix a n],.ptr s (a.toNat*af P e))|_=>none)
     |none=>none)
   | .owF x n=>(match dI P t with
     |some e=>(match(P.info? e).isSome,bF (af P e) 1 with|true,true=>some ([ix a n],.ptf x a.toNat)|_,_=>none)
     |none=>none)
   | .ownf x lt b n=>(match dI P t with
     |some e=>(match(P.info? e).isSome,bF (af P e) lt.w with|true,true=>some ([ix a n],.ptef x lt b a.toNat 0)|_,_=>none)
     |none=>none)
   | .sl n cs=>(match dI P t,bT (avs cs)with
     |some e,some _=>(match(P.info? e).isSome with|true=>some ([ix a n],.pro cs (a.toNat*af P e))|_=>none)
     |_,_=>none)
   | .ptr s off=>(match sK P t with
     |some q=>(match(P.info? q.2).isSome with|true=>some ([ix a q.1],.ptr s (off+a.toNat*af P q.2))|_=>none)
     |none=>none)
   | .pe lt l j off=>(match sK P t with
     |some q=>(match(P.info? q.2).isSome with|true=>some ([ix a q.1,j<l.length],.pe lt l j (off+a.toNat*af P q.2))|_=>none)
     |none=>none)
   | .ptb F m off=>(match sK P t with
     |some q=>(match(P.info? q.2).isSome with|true=>some ([ix a q.1],.ptb F m (off+a.toNat*af P q.2))|_=>none)
     |none=>none)
   | .pro cs off=>(match sK P t,bT (avs cs)with
     |some q,some _=>(match(P.info? q.2).isSome with|true=>some ([ix a q.1],.pro cs (off+a.toNat*af P q.2))|_=>none)
     |_,_=>none)
   |_=>none)
 |_=>none
def Wb{P:Program}{t:TypeId}{x i:SV}{ps:List Prop}{r:SV}(h:G6 P t x i=some (ps,r))(hp:∀p∈ps,p){K:AV->Prop}(hK:K r.av):CG P t x.av i.av K/\r.ok:=by
 unfold G6 at h;split at h
 case h_2=>cases h
 rename_i k a;split at h
 .rename_i lt l;split at h
  .rename_i e he;split at h<;>cases h;rename_i h1 h2;have hb:=hp _ (bn.2 rfl);unfold ix at hb;refine⟨⟨e,he,h1,hb.1,hb.2,?_⟩,show a.toNat<l.length by omega⟩;rw[dN h2];exact hK
  .cases h
 .split at h
  .rename_i e he;split at h<;>cases h;rename_i h1 h2;have hb:=hp _ (bn.2 rfl);refine⟨⟨e,he,h1,hb.1,hb.2,?_⟩,trivial⟩;rw[dN h2,kN];exact hK
  .cases h
 .split at h
  .rename_i e he;split at h<;>cases h;rename_i h1 h2;have hb:=hp _ (bn.2 rfl);refine⟨⟨e,he,h1,hb.1,hb.2,?_⟩,trivial⟩;rw[dN h2,<-zV];exact hK
  .cases h
 .split at h
  .rename_i e he;split at h<;>cases h;rename_i h1;have hb:=hp _ (bn.2 rfl);refine⟨⟨e,he,h1,hb.1,hb.2,?_⟩,trivial⟩;rw[kN];exact hK
  .cases h
 .split at h
  .rename_i e he;split at h<;>cases h;rename_i h1 h2;have hb:=hp _ (bn.2 rfl);refine⟨⟨e,he,h1,hb.1,hb.2,?_⟩,trivial⟩;rw[dN h2,kN,Nat.mul_one];exact hK
  .cases h
 .split at h
  .rename_i e he;split at h<;>cases h;rename_i h1 h2;have hb:=hp _ (bn.2 rfl);refine⟨⟨e,he,h1,hb.1,hb.2,?_⟩,trivial⟩;rw[dN h2,kN];exact hK
  .cases h
 .split at h
  .rename_i e m he hm;split at h<;>cases h;rename_i h1;have hb:=hp _ (bn.2 rfl);refine⟨?_,trivial⟩;simp only[SV.av,hm]at hK|-;exact⟨e,he,h1,hb.1,hb.2,hK⟩
  .cases h
 .split at h
  .rename_i q hq;split at h<;>cases h;rename_i h1;have hb:=hp _ (bn.2 rfl);exact⟨⟨q,hq,h1,hb.1,hb.2,hK⟩,trivial⟩
  .cases h
 .rename_i lt l j off;split at h
  .rename_i q hq;split at h<;>cases h;rename_i h1;have hb:=hp _ (cI);refine⟨⟨q,hq,h1,hb.1,hb.2,?_⟩,hp (j<l.length) (by grind)⟩;rw[sV];exact hK
  .cases h
 .split at h
  .rename_i q hq;split at h<;>cases h;rename_i h1;have hb:=hp _ (bn.2 rfl);exact⟨⟨q,hq,h1,hb.1,hb.2,hK⟩,trivial⟩
  .cases h
 .split at h
  .rename_i q m hq hm;split at h<;>cases h;rename_i h1;have hb:=hp _ (bn.2 rfl);refine⟨?_,trivial⟩;simp only[SV.av,hm]at hK|-;exact⟨q,hq,h1,hb.1,hb.2,hK⟩
  .cases h
 .cases h
def bY.newF{σ:Sg}{n m:Nat}{e ie:TypeId}{lt:LT}(h:σ n=none)(hs:aO n=sit n 0):
  bY σ [] [(n,some (.fam e ie lt (cl m []) []))] [] ((sit n 0,some ⟨e,1,(bM m).map λj=> .own (inn n (j+1)) 0 0⟩)::(bM m).map λj=>(inn n (j+1),some ⟨ie,lt.w,[]⟩)):=by
 rw[<-hs];refine⟨λs hm=>by grind,λs hm=> ?_,?_⟩
 .have hc:cls s=ncl n:=by
   rcases bI.1 hm with rfl|hm
   .exact fO n 0
   .rw[dU]at hm;obtain⟨j,_,rfl⟩:=bR.1 hm;exact fO n (j+1)
  grind
 .funext s
  unfold az;rw[dY,Dx (λj=>inn n (j+1))];rcases kq s with⟨y,rfl⟩|⟨y,b,rfl⟩|hno
  .rw[if_neg (show¬aO y∈(bM m).map λj=>inn n (j+1)from λhm=>by obtain⟨j,_,hj⟩:=bR.1 hm;have:=(fJ hj).2;omega)]
   rw[Sg.cP,Sg.cP];unfold aP.up;rw[dY];by_cases e1:y=n
   .subst e1;rw[beq_iff_eq.2 rfl,beq_iff_eq.2 rfl];show some (⟨e,1,_⟩:Ob)=some ⟨e,1,(bM (cl m ([] :List lt.ty)).length).map (jJ y (cl m ([] :List lt.ty)) [])⟩;rw[List.length_replicate]
    congr 2
    refine mU λi hi=> ?_;show _=AV.own (inn y (i+1)) 0 ((cl m ([] :List lt.ty)).getD i []).length;grind
   .rw[beq_eq_false_iff_ne.2 e1,beq_eq_false_iff_ne.2 (show aO y≠aO n from λh=>e1 (l8 h))];rfl
  .rw[beq_eq_false_iff_ne.2 (show inn y (b+1)≠aO n from λh=>by have:=(fJ h).2;omega),Sg.fX,Sg.fX];unfold aP.up;rw[dY];by_cases e1:y=n
   .subst e1;rw[beq_iff_eq.2 rfl];show _=(((cl m ([] :List lt.ty))[b]?).map λl=>(⟨ie,lt.w,(lt.enc l).map .p⟩:Ob));rw[Db];by_cases hb:b<m
    .rw[if_pos (by grind),if_pos hb];rfl
    .rw[if_neg (show¬inn y (b+1)∈(bM m).map λj=>inn y (j+1)from λhm=>by obtain⟨j,h1,hj⟩:=bR.1 hm;have:=(fJ hj).2;grind),if_neg hb,h];rfl
   .rw[if_neg (show¬inn y (b+1)∈(bM m).map λj=>inn n (j+1)from λhm=>by obtain⟨j,h1,hj⟩:=bR.1 hm;exact e1 (fJ hj).1.symm),beq_eq_false_iff_ne.2 e1];rfl
  .rw[if_neg (by grind),beq_eq_false_iff_ne.2 (show s≠aO n from λh=>hno n 0 h),Sg.kI _ hno,Sg.kI _ hno]
def Fe(x:PV):∀m,nB m [.p x] =(cl m x).map .p
 |0=>rfl
 |m+1=>by rw[nB,Fe x m,xE];rfl
def NU:∀m,LT.I.enc (cl m (0:Int))=cl m (.int .i64 0)
 |0=>rfl
 |m+1=>by rw[xE,xE,<-NU m];rfl
def NV:∀m,LT.B.enc (cl m false)=cl m (.bool false)
 |0=>rfl
 |m+1=>by rw[xE,xE,<-NV m];rfl
def Hm(P:Program)(ltOf:TypeId->Option LT)(σ:Sg)(n:Nat)(t:TypeId)(x y:SV):SR:=match x,y with
 | .int _ a,.int _ b=>(match dI P t,frs σ n with
   |some e,true=>(match P.info? e,v6 P e,bF (af P e) 1 with
    |some i,some [.int .i64 (.ofNat 0)],true=>some ([0<=a,b=a,a<=1000000,a.toNat*i.bytes<=1000000000],.own n .I a.toNat,[],[(n,some (.row e .I (cl a.toNat (0:Int))))])
    |some i,some [.lit false],true=>some ([0<=a,b=a,a<=1000000,a.toNat*i.bytes<=1000000000],.own n .B a.toNat,[],[(n,some (.row e .B (cl a.toNat false)))])
    |some i,some [.nil],true=>(match dI P e with
     |some ie=>(match ltOf ie with
      |some lt=>some ([0<=a,b=a,a<=1000000,a.toNat*i.bytes<=1000000000],.owF n a.toNat,[],[(n,some (.fam e ie lt (cl a.toNat []) []))])
      |none=>none)
     |none=>none)
    |_,_,_=>none)
   |_,_=>none)
 |_,_=>none
def YR{P:Program}{ltOf:TypeId->Option LT}{n:Nat}{o:Oper}{E:SE}{σ:Sg}{t:TypeId}{x y:Operand}(ho:o.op= .makeSlice t x y):sH P n o E σ (Hm P ltOf σ n t (E x) (E y)):=by
 intro ps r rd W h hp;unfold AOp;rw[ho];dsimp only;unfold Hm at h;split at h
 case h_2=>cases h
 rename_i k1 a k2 b ea eb;rw[show E.a x= .p (.int k1 a) by unfold SE.a;rw[ea];rfl,show E.a y= .p (.int k2 b) by unfold SE.a;rw[eb];rfl];split at h
 case h_2=>cases h
 rename_i e he hf;obtain⟨f1,f2⟩:=ms hf;split at h
 .cases h;rename_i i hi hz hw;obtain⟨z1,z2⟩:=vD hz;have q1:0<=a:=hp _ (by simp);have q2:b=a:=hp _ (by simp);have q3:a<=1000000:=hp _ (by simp);have q4:a.toNat*i.bytes<=1000000000:=hp _ (by simp);have hw:=dN hw;subst q2;refine .inl ⟨k1,k2,b.toNat,e,_,i,by grind,by grind,he,hi,z1,z2,by simp[avs],by grind,q4,?_,?_⟩
  .show _=AV.own (aO n) 0 _;rw[f1]
  .rw[hw,show avs [SV.int .i64 (.ofNat 0)] =[.p (.int .i64 0)]from rfl,Fe,<-NU];exact bY.new (ob:= .row e .I (cl b.toNat (0:Int))) f2 f1 rfl
 .cases h;rename_i i hi hz hw;obtain⟨z1,z2⟩:=vD hz;have q1:0<=a:=hp _ (by simp);have q2:b=a:=hp _ (by simp);have q3:a<=1000000:=hp _ (by simp);have q4:a.toNat*i.bytes<=1000000000:=hp _ (by simp);have hw:=dN hw;subst q2;refine .inl ⟨k1,k2,b.toNat,e,_,i,by grind,by grind,he,hi,z1,z2,by simp[avs],by grind,q4,?_,?_⟩
  .show _=AV.own (aO n) 0 _;rw[f1]
  .rw[hw,show avs [SV.lit false] =[.p (.bool false)]from rfl,Fe,<-NV];exact bY.new (ob:= .row e .B (cl b.toNat false)) f2 f1 rfl
 .rename_i i hi hz hw;split at h
  case h_2=>cases h
  rename_i ie hie;split at h<;>cases h;rename_i lt hlt;obtain⟨z1,z2⟩:=vD hz;have q1:0<=a:=hp _ (by simp);have q2:b=a:=hp _ (by simp);have q3:a<=1000000:=hp _ (by simp);have q4:a.toNat*i.bytes<=1000000000:=hp _ (by simp);subst q2;have hcl:ncl n=n:=by have h1:cls (aO n)=ncl n:=fO n 0;rw[f1,iW]at h1;exact h1.symm
  refine .inr ⟨λj=>inn n (j+1),ie,lt.w,k1,k2,b.toNat,e,i,by grind,by grind,he,hi,z1,z2,by have:=lt.lH;omega,λj=>(fO n (j+1)).trans hcl,λj hj=> ?_,by omega,q4,?_,bY.newF f2 f1⟩
  .rw[<-f1]at hj;have:=(fJ hj).2;omega
  .show _=AV.own (aO n) 0 _;rw[f1]
 .cases h
def Hp(x:SV)(i:Nat):Option SV:=match x with
 | .tup l=>l[i]?
 |_=>none
def YU{x:SV}{i:Nat}{r:SV}(h:Hp x i=some r){K:AV->Prop}(hK:K r.av):y5 x.av i K:=by
 unfold Hp at h;split at h
 .rename_i l;have h1:(avs l)[i]? =some r.av:=by rw[yP,h];rfl
  show y5 (kW (avs l)) i K;unfold kW;cases hq:bT (avs l)with
  |none=>exact⟨_,h1,hK⟩
  |some q=>
   rw[jX hq,gr]at h1;cases hc:q[i]? with
   |none=>grind
   |some y=>exact⟨y,hc,by grind⟩
 .cases h
end
noncomputable section
def pc(raw:Bool)(k:IntKind)(x:Int):List Prop×SV:=match raw,k with
 |false,.i64=>([aH x],.int .i64 x)
 |_,k=>([],.int k (k.wrap x))
def vS{raw:Bool}{k:IntKind}{x:Int}(h:∀p∈(pc raw k x).1,p):(pc raw k x).2.av= .p (.int k (k.wrap x)):=by
 unfold pc at h|-;split
 .rw[uw (h _ (by grind))];rfl
 .rfl
def y6:SV->Option Bool
 | .bool b=>some b
 | .lit b=>some b
 | .prop p d=>some (@decide p d)
 |_=>none
def x9{x:SV}{b:Bool}(h:y6 x=some b):x.av= .p (.bool b):=by cases x<;>simp only[y6,reduceCtorEq,fg]at h<;>subst h<;>rfl
def G9(raw:Bool)(op:BinOp)(k:IntKind)(a b:Int):Option (List Prop×SV):=match op with
 | .add=>some (pc raw k (a+b))
 | .sub=>some (pc raw k (a-b))
 | .mul=>some (pc raw k (a*b))
 | .quo=>some ((b≠0)::(pc raw k (a.tdiv b)).1,(pc raw k (a.tdiv b)).2)
 | .rem=>some ([b≠0],.int k (a.tmod b))
 | .eql=>some ([],.prop (a=b) inferInstance)
 | .neq=>some ([],.prop (¬a=b) inferInstance)
 | .lss=>some ([],.prop (a<b) inferInstance)
 | .leq=>some ([],.prop (a<=b) inferInstance)
 | .gtr=>some ([],.prop (b<a) inferInstance)
 | .geq=>some ([],.prop (b<=a) inferInstance)
 |_=>none
def Wk{raw:Bool}{op:BinOp}{k:IntKind}{a b:Int}{ps:List Prop}{r:SV}(h:G9 raw op k a b=some (ps,r))(hp:∀p∈ps,p){K:AV->Prop}(hK:K r.av):vu op k a b K:=by
 unfold G9 at h;split at h<;>simp only[fg,uZ,reduceCtorEq]at h
 .have e:=vS (raw:=raw) (k:=k) (x:=a+b) (by grind);unfold vu;grind
 .have e:=vS (raw:=raw) (k:=k) (x:=a-b) (by grind);unfold vu;grind
 .have e:=vS (raw:=raw) (k:=k) (x:=a*b) (by grind);unfold vu;grind
 .obtain⟨rfl,rfl⟩:=h;have e:=vS (raw:=raw) (k:=k) (x:=a.tdiv b) (by grind);exact⟨hp _ (by grind),by grind⟩
 .obtain⟨rfl,rfl⟩:=h;exact⟨hp _ (by grind),hK⟩
 .obtain⟨rfl,rfl⟩:=h;exact hK
 .obtain⟨rfl,rfl⟩:=h;show K (.p (.bool (a !=b)));have:(a !=b)=decide (¬a=b):=by by_cases e:a=b<;>simp[e]
  rw[this];exact hK
 .obtain⟨rfl,rfl⟩:=h;exact hK
 .obtain⟨rfl,rfl⟩:=h;exact hK
 .obtain⟨rfl,rfl⟩:=h;exact hK
 .obtain⟨rfl,rfl⟩:=h;exact hK
def wC:List SV->Option (List Int)
 |[] =>some []
 | .int .i64 a::l=>(match wC l with|some m=>some (a::m)|none=>none)
 |_::_=>none
def Fw:∀{l:List SV} {m:List Int},wC l=some m->avs l=(ll m).map .p
 |[],m,h=>by simp only[wC,fg]at h;subst h;rfl
 |x::l,m,h=>by
  unfold wC at h;split at h
  .grind
  .rename_i a l' e;cases e;split at h<;>cases h;rename_i m' hm;rw[avs,Fw hm];rfl
  .cases h
def xU:∀m:List Int,pJ (ll m)=some m
 |[] =>rfl
 |x::m=>by
  have:=xU m;unfold ll at*;simp only[dX,pJ,this,eJ]
def eqP(xs ys:List Int):SV:=match xs,ys with
 |[a,b],[c,d] => .prop ((⟨a,b⟩:V)=⟨c,d⟩) inferInstance
 |[a,b,c,d],[e,f,g,h] => .prop ((⟨⟨a,b⟩,⟨c,d⟩⟩:S)=⟨⟨e,f⟩,⟨g,h⟩⟩) inferInstance
 |xs,ys=> .prop (xs=ys) inferInstance
def Px(xs ys:List Int):(eqP xs ys).av= .p (.bool (xs==ys)):=by
 unfold eqP;split
 .show AV.p (.bool (decide _))=_
  congr 2
  grind
 .show AV.p (.bool (decide _))=_
  congr 2
  grind
 .show AV.p (.bool (decide _))=_;grind
def C2:SV->Option SV
 | .prop p d=>some (.prop (¬p) (@instDecidableNot p d))
 | .bool b=>some (.bool (!b))
 | .lit true=>some (.lit false)
 | .lit false=>some (.lit true)
 |_=>none
def Oj{x r:SV}(h:C2 x=some r):∃b,x.av= .p (.bool b)/\r.av= .p (.bool (!b)):=by
 cases x<;>simp only[C2,reduceCtorEq,fg]at h
 .subst h;exact⟨_,rfl,rfl⟩
 .rename_i b;cases b<;>simp only[fg]at h<;>subst h<;>exact⟨_,rfl,rfl⟩
 .subst h;refine⟨_,rfl,?_⟩;show AV.p (.bool (decide _))=_;grind
abbrev EqT:=List (TypeId×Nat)
def EqT.Ok(P:Program)(q:EqT):Prop:=∀t m,(t,m)∈q->yo P t m
def EqT.has:EqT->TypeId->Nat->Bool
 |[],_,_=>false
 |(a,b)::l,t,m=>(bF a t&&bF b m)||EqT.has l t m
def EqT.Gj:∀{q:EqT} {t m:Nat},q.has t m=true->(t,m)∈q
 |[],t,m,h=>by cases h
 |(a,b)::l,t,m,h=>by
  simp only[EqT.has,Bool.or_eq_true,bj]at h;rcases h with⟨h1,h2⟩|h
  .simp_all
  .exact cG _ (EqT.Gj h)
def IH(P:Program)(q:EqT)(raw:Bool)(op:BinOp)(t:TypeId)(x y:SV):Option (List Prop×SV):=match x,y with
 | .int k a,.int k' b=>(match decEq k' k with| .isTrue _=>G9 raw op k a b| .isFalse _=>none)
 | .agg l,.agg m=>(match wC l,wC m with
   |some xs,some ys=>(match bF xs.length ys.length,q.has t xs.length,op with
    |true,true,.eql=>some ([],eqP xs ys)
    |true,true,.neq=>(match C2 (eqP xs ys)with|some r=>some ([],r)|none=>none)
    |_,_,_=>none)
   |_,_=>none)
 | .lst _ l,.nil=>(match(dI P t).isSome,op with
   |true,.eql=>some ([0<l.length],.lit false)
   |_,_=>none)
 |x,y=>(match y6 x,y6 y,Hf P t,op with
  |some a,some b,true,.eql=>some ([],.bool (a==b))
  |some a,some b,true,.neq=>some ([],.bool (a !=b))
  |_,_,_,_=>none)
def Z3{P:Program}{q:EqT}(hq:q.Ok P){raw:Bool}{op:BinOp}{t:TypeId}{x y:SV}{ps:List Prop}{r:SV}(h:IH P q raw op t x y=some (ps,r))(hp:∀p∈ps,p){K:AV->Prop}(hK:K r.av):wY P op t x.av y.av K:=by
 unfold IH at h;split at h
 .split at h
  .rename_i e _;exact⟨e,Wk h hp hK⟩
  .cases h
 .rename_i l m;split at h
  .rename_i xs ys hx hy;have key:∀(op:BinOp),(∃xs' ys',pJ (ll xs)=some xs'/\pJ (ll ys)=some ys'/\xs'.length=ys'.length/\yo P t xs'.length/\(match op with| .eql=>K (.p (.bool (xs'==ys')))| .neq=>K (.p (.bool (xs' !=ys')))|_=>False))->wY P op t (SV.agg l).av (SV.agg m).av K:=by intro op h;show wY P op t (eO (avs l)) (eO (avs m)) K;rw[Fw hx,Fw hy,s9,s9];exact h
   split at h
   .rename_i h1 h2;cases h;refine key _ ⟨xs,ys,xU _,xU _,dN h1,hq _ _ (EqT.Gj h2),?_⟩;rw[Px]at hK;exact hK
   .rename_i h1 h2;split at h<;>cases h;rename_i hr;obtain⟨b,e1,e2⟩:=Oj hr;rw[Px]at e1;refine key _ ⟨xs,ys,xU _,xU _,dN h1,hq _ _ (EqT.Gj h2),?_⟩;grind
   .cases h
  .cases h
 .rename_i t' l;split at h<;>cases h;rename_i ht;have hl:0<l.length:=hp _ (by grind);refine⟨ht,λe=> ?_,rfl,hK⟩;have e2:=congrArg eQ e;rw[t'.wide.length,List.length_nil]at e2;have:=Nat.mul_pos hl t'.lH;omega
 .split at h
  .rename_i a b h1 h2 h3;cases h;rw[x9 h1,x9 h2];exact⟨h3,hK⟩
  .rename_i a b h1 h2 h3;cases h;rw[x9 h1,x9 h2];exact⟨h3,hK⟩
  .cases h
def sun(raw:Bool)(op:UnOp)(x:SV):Option (List Prop×SV):=match op with
 | .not=>(match C2 x with|some r=>some ([],r)|none=>none)
 | .neg=>(match x with| .int k a=>some (pc raw k (0-a))|_=>none)
 |_=>none
def aBh{raw:Bool}{op:UnOp}{x:SV}{ps:List Prop}{r:SV}(h:sun raw op x=some (ps,r))(hp:∀p∈ps,p){K:AV->Prop}(hK:K r.av):unA op x.av K:=by
 unfold sun at h;split at h
 .split at h<;>cases h;rename_i hr;obtain⟨b,e1,e2⟩:=Oj hr;rw[e1];rw[e2]at hK;exact hK
 .split at h
  .rename_i k a;simp only[fg]at h;have e:=vS (raw:=raw) (k:=k) (x:=0-a) (by grind);show K _;grind
  .cases h
 .cases h
def Hr(P:Program)(raw:Bool)(s d:TypeId)(x:SV):Option (List Prop×SV):=match x with
 | .int _ a=>(match(P.underlying s).isSome,IC P d with
   |true,some k=>some (pc raw k a)
   |_,_=>none)
 |_=>none
def YW{P:Program}{raw:Bool}{s d:TypeId}{x:SV}{ps:List Prop}{r:SV}(h:Hr P raw s d x=some (ps,r))(hp:∀p∈ps,p){K:AV->Prop}(hK:K r.av):Cj P s d x.av K:=by
 unfold Hr at h;split at h
 .rename_i k0 a;split at h
  .rename_i k h1 h2;simp only[fg]at h;have e:=vS (raw:=raw) (k:=k) (x:=a) (by grind);exact⟨h1,k,h2,by grind⟩
  .cases h
 .cases h
def IN:SV->Option Int
 | .int _ n=>some n
 |_=>none
def aAB{x:SV}{n:Int}(h:IN x=some n):C7 x.av=some n:=by cases x<;>simp only[IN,reduceCtorEq,fg]at h;subst h;rfl
def C9(E:SE):Option Operand->Option (Option Int)
 |none=>some none
 |some x=>(match IN (E x)with|some n=>some (some n)|none=>none)
def G4(P:Program)(t:TypeId)(x:SV)(lo hi:Option Int):Option (List Prop×SV):=match dI P t with
 |some e=>(match(P.info? e).isSome,bF (af P e) 0 with
  |true,false=>(match x,lo,hi with
   | .lst lt l,lo,hi=>(match bF (af P e) lt.w with
     |true=>(match lo,hi with
      |none,none=>some ([],.lst lt l)
      |some a,none=>some ([0<=a/\a<=(l.length:Int)],.lst lt (l.drop a.toNat))
      |none,some b=>some ([0<=b/\b<=(l.length:Int)],.lst lt (l.take b.toNat))
      |some a,some b=>some ([0<=a/\a<=b/\b<=(l.length:Int)],.lst lt ((l.take b.toNat).drop a.toNat)))
     |false=>none)
   | .own s lt n,lo,hi=>(match bF (af P e) lt.w with
     |true=>(match lo,hi with
      |none,none=>some ([],.own s lt n)
      |none,some b=>some ([0<=b/\b<=(n:Int)],.owns s lt 0 b.toNat)
      |some a,none=>some ([0<=a/\a<=(n:Int)],.owns s lt a.toNat (n-a.toNat))
      |some a,some b=>some ([0<=a/\a<=b/\b<=(n:Int)],.owns s lt a.toNat (b.toNat-a.toNat)))
     |false=>none)
   | .owns s lt o n,lo,hi=>(match bF (af P e) lt.w with
     |true=>(match lo,hi with
      |none,none=>some ([],.owns s lt o n)
      |none,some b=>some ([0<=b/\b<=(n:Int)],.owns s lt o b.toNat)
      |some a,none=>some ([0<=a/\a<=(n:Int)],.owns s lt (o+a.toNat) (n-a.toNat))
      |some a,some b=>some ([0<=a/\a<=b/\b<=(n:Int)],.owns s lt (o+a.toNat) (b.toNat-a.toNat)))
     |false=>none)
   | .ownx s n,none,none=>some ([],.ownx s n)
   |_,_,_=>none)
  |_,_=>none)
 |none=>none
def WX{P:Program}{t:TypeId}{x:SV}{lo hi:Option Int}{ps:List Prop}{r:SV}(h:G4 P t x lo hi=some (ps,r))(hp:∀p∈ps,p){K:AV->Prop}(hK:K r.av):
  vf P t x.av (some (lo.getD 0)) (some (hi.getD (CC x.av))) K:=by
 unfold G4 at h;split at h
 case h_2=>cases h
 rename_i e he;split at h
 case h_2=>cases h
 rename_i h1 h2;have h2':af P e≠0:=mZ h2;split at h
 .rename_i lt l;split at h
  case h_2=>cases h
  rename_i hw;have hw:=dN hw;have key:∀a b:Int,0<=a->a<=b->b<=l.length->K (.p (.sl ((l.take b.toNat).drop a.toNat).length (lt.enc ((l.take b.toNat).drop a.toNat))))->vf P t (SV.lst lt l).av (some a) (some b) K:=by
   intro a b ha hb hc hK;refine⟨e,a,b,he,h1,h2',rfl,rfl,ha,hb,hc,?_⟩;rw[hw,lt.wide.take,lt.wide.drop];have:((l.take b.toNat).drop a.toNat).length=b.toNat-a.toNat:=by simp only[List.length_drop,mX];omega
   rw[<-this];exact hK
  split at h<;>cases h
  .refine key 0 (l.length:Int) (by omega) (by omega) (by omega) ?_;rw[jf,si];exact hK
  .rename_i a;have hb:=hp _ (bn.2 rfl);refine key a (l.length:Int) hb.1 hb.2 (by omega) ?_;rw[jf,si];exact hK
  .rename_i b;have hb:=hp _ (bn.2 rfl);exact key 0 b (by omega) hb.1 hb.2 hK
  .rename_i a b;have hb:=hp _ (bn.2 rfl);exact key a b hb.1 hb.2.1 hb.2.2 hK
 .rename_i s lt n;split at h
  case h_2=>cases h
  rename_i hw;have hw:=dN hw;have key:∀a b:Int,0<=a->a<=b->b<=n->K (.own (aO s) (a.toNat*lt.w) (b.toNat-a.toNat))->vf P t (SV.own s lt n).av (some a) (some b) K:=by intro a b ha hb hc hK;refine⟨e,a,b,he,h1,h2',rfl,rfl,ha,hb,hc,?_⟩;rw[hw,kN];exact hK
  split at h<;>cases h
  .refine key 0 (n:Int) (by omega) (by omega) (by omega) ?_;simpa[SV.av]using hK
  .rename_i b;have hb:=hp _ (bn.2 rfl);refine key 0 b (by omega) hb.1 hb.2 ?_;simpa[SV.av]using hK
  .rename_i a;have hb:=hp _ (bn.2 rfl);exact key a (n:Int) hb.1 hb.2 (by omega) (by simpa[SV.av]using hK)
  .rename_i a b;have hb:=hp _ (bn.2 rfl);exact key a b hb.1 hb.2.1 hb.2.2 hK
 .rename_i s lt o n;split at h
  case h_2=>cases h
  rename_i hw;have hw:=dN hw;have key:∀a b:Int,0<=a->a<=b->b<=n->K (.own (aO s) ((o+a.toNat)*lt.w) (b.toNat-a.toNat))->vf P t (SV.owns s lt o n).av (some a) (some b) K:=by intro a b ha hb hc hK;refine⟨e,a,b,he,h1,h2',rfl,rfl,ha,hb,hc,?_⟩;rw[hw,<-zV];exact hK
  split at h<;>cases h
  .refine key 0 (n:Int) (by omega) (by omega) (by omega) ?_;simpa[SV.av]using hK
  .rename_i b;have hb:=hp _ (bn.2 rfl);refine key 0 b (by omega) hb.1 hb.2 ?_;simpa[SV.av]using hK
  .rename_i a;have hb:=hp _ (bn.2 rfl);exact key a (n:Int) hb.1 hb.2 (by omega) (by simpa[SV.av]using hK)
  .rename_i a b;have hb:=hp _ (bn.2 rfl);exact key a b hb.1 hb.2.1 hb.2.2 hK
 .rename_i s n;cases h;refine⟨e,0,(n:Int),he,h1,h2',rfl,rfl,kk _,by grind,kk _,?_⟩;simpa[SV.av]using hK
 .cases h
def IG(P:Program)(t:TypeId)(x:SV):Option SV:=match x with
 | .lst _ l=>(match(dI P t).isSome with|true=>some (.int .i64 (l.length:Int))|false=>none)
 | .own _ _ n=>(match(dI P t).isSome with|true=>some (.int .i64 (n:Int))|false=>none)
 | .owns _ _ _ n=>(match(dI P t).isSome with|true=>some (.int .i64 (n:Int))|false=>none)
 | .ownx _ n=>(match(dI P t).isSome with|true=>some (.int .i64 (n:Int))|false=>none)
 | .owF _ n=>(match(dI P t).isSome with|true=>some (.int .i64 (n:Int))|false=>none)
 | .ownf _ _ _ n=>(match(dI P t).isSome with|true=>some (.int .i64 (n:Int))|false=>none)
 | .sl n cs=>(match(dI P t).isSome,bT (avs cs)with|true,some _=>some (.int .i64 (n:Int))|_,_=>none)
 | .nil=>(match(dI P t).isSome with|true=>some (.int .i64 0)|false=>none)
 |_=>none
def Zz{P:Program}{t:TypeId}{x r:SV}(h:IG P t x=some r){K:AV->Prop}(hK:K r.av):C6 P t x.av K:=by
 unfold IG at h;split at h
 .split at h<;>cases h;rename_i h1;exact⟨h1,hK⟩
 .split at h<;>cases h;rename_i h1;exact⟨h1,hK⟩
 .split at h<;>cases h;rename_i h1;exact⟨h1,hK⟩
 .split at h<;>cases h;rename_i h1;exact⟨h1,hK⟩
 .split at h<;>cases h;rename_i h1;exact⟨h1,hK⟩
 .split at h<;>cases h;rename_i h1;exact⟨h1,hK⟩
 .split at h<;>cases h;rename_i q h1 h2;simp only[SV.av,h2];exact⟨h1,hK⟩
 .split at h<;>cases h;rename_i h1;exact⟨h1,hK⟩
 .cases h
def yz(σ:Sg)(e:TypeId)(lt:LT)(x:SV):Option (List Prop×List lt.ty×List Nat):=match x with
 | .nil=>some ([],[],[])
 | .own s _ k=>(match σ s with
   |some (.row ty lt' l)=>(match decEq lt' lt,bF ty e with
    | .isTrue h,true=>some ([k=l.length],h▸l,[s])
    |_,_=>none)
   |_=>none)
 | .ownx s k=>(match σ s with
   |some (.arr ty ez cs)=>(match bF ty e,bF ez lt.w,lt.decs k cs with
    |true,true,some l=>some ([],l,[s])
    |_,_,_=>none)
   |_=>none)
 |_=>none
def CS(σ:Sg)(lt:LT)(x:SV):Option (List Prop×List lt.ty×List Nat):=match x with
 | .nil=>some ([],[],[])
 | .lst lt' l=>(match decEq lt' lt with
   | .isTrue h=>some ([],h▸l,[])
   | .isFalse _=>none)
 | .own s _ k=>(match σ s with
   |some (.row _ lt' l)=>(match decEq lt' lt with
    | .isTrue h=>some ([k=l.length],h▸l,[s])
    | .isFalse _=>none)
   |_=>none)
 | .owns s lt2 o k=>(match σ s with
   |some (.row _ lt' l)=>(match decEq lt' lt,decEq lt2 lt with
    | .isTrue h,.isTrue _=>some ([o+k<=l.length],(h▸l:List lt.ty).drop o|>.take k,[s])
    |_,_=>none)
   |_=>none)
 | .ownx s k=>(match σ s with
   |some (.arr _ ez cs)=>(match bF ez lt.w,lt.decs k cs with
    |true,some l=>some ([],l,[s])
    |_,_=>none)
   |_=>none)
 |_=>none
def CZ(P:Program)(ltOf:TypeId->Option LT)(n:Nat)(t t':TypeId)(σ:Sg)(x y:SV):SR:=match dI P t,(dI P t').isSome with
 |some e,true=>(match ltOf e,Cp P e,frs σ n with
  |some lt,true,true=>(match bF (af P e) lt.w,yz σ e lt x,CS σ lt y with
   |true,some (p1,l,r1),some (p2,m,r2)=>some (p1++p2++[l.length+m.length<=1000000],.own n lt (l++m).length,r1++r2,r1.map (·,none)++[(n,some (.row e lt (l++m)))])
   |_,_,_=>none)
  |_,_,_=>none)
 |_,_=>none
def ZE{σ:Sg}{e:TypeId}{lt:LT}{x:SV}{ps:List Prop}{l:List lt.ty}{r:List Nat}(h:yz σ e lt x=some (ps,l,r))(hp:∀p∈ps,p){K:Nat->List AV->List Nat->Prop}(hK:K l.length ((lt.enc l).map .p) (r.map aO)):H4 σ.a e lt.w x.av K:=by
 unfold yz at h;split at h
 .cases h;exact hK
 .rename_i s _ k;split at h
  .rename_i ty lt' l' hs;split at h
   .rename_i he _ hty;subst he;cases h;have hk:k=l'.length:=hp _ (by grind);refine⟨_,by rw[Sg.cP,hs];rfl,dN hty,rfl,?_,by rw[hk];exact hK⟩;show((lt'.enc l').map AV.p).length=_;rw[di,lt'.wide.length,hk]
   .cases h
  .cases h
 .rename_i s k;split at h
  .rename_i ty ez cs hs;split at h<;>cases h;rename_i h1 h2 h3;obtain⟨e1,e2⟩:=LT.vV h3;have h2:=dN h2;refine⟨_,by rw[Sg.cP,hs];rfl,dN h1,h2,?_,?_⟩
   .show(avs cs).length=_;rw[e2,di,lt.wide.length,e1]
   .show K k (avs cs) [aO s];grind
  .cases h
 .cases h
def MQ{σ:Sg}{lt:LT}{x:SV}{ps:List Prop}{l:List lt.ty}{r:List Nat}(h:CS σ lt x=some (ps,l,r))(hp:∀p∈ps,p){K:Nat->List AV->List Nat->Prop}(hK:K l.length ((lt.enc l).map .p) (r.map aO)):CT σ.a lt.w x.av K:=by
 unfold CS at h;split at h
 .cases h;exact hK
 .rename_i lt' l';split at h
  .rename_i he _;subst he;cases h;exact⟨lt'.wide.length _,hK⟩
  .cases h
 .rename_i s _ k;split at h
  .rename_i ty lt' l' hs;split at h
   .rename_i he _;subst he;cases h;have hk:k=l'.length:=hp _ (by grind);refine⟨_,(lt'.enc l').map .p,by rw[Sg.cP,hs];rfl,?_,?_,by grind⟩
    .show(((lt'.enc l').map AV.p).drop 0).take (k*lt'.w)=_;rw[Df,iV (by rw[di,lt'.wide.length,hk];omega)]
    .rw[di,lt'.wide.length,hk]
   .cases h
  .cases h
 .rename_i s lt2 o k;split at h
  .rename_i ty lt' l' hs;split at h
   .rename_i he he2 _ _;subst he;subst he2;cases h;have hk:o+k<=l'.length:=hp _ (by grind);have hlen:((l'.drop o).take k).length=k:=by simp;omega
    refine⟨_,(lt2.enc ((l'.drop o).take k)).map .p,by rw[Sg.cP,hs];rfl,?_,?_,by grind⟩
    .show(((lt2.enc l').map AV.p).drop (o*lt2.w)).take (k*lt2.w)=_;rw[<-Dd,<-De,lt2.wide.drop,lt2.wide.take]
    .rw[di,lt2.wide.length,hlen]
   .cases h
  .cases h
 .rename_i s k;split at h
  .rename_i ty ez cs hs;split at h<;>cases h;rename_i h1 h3;obtain⟨e1,e2⟩:=LT.vV h3;have hl:(avs cs).length=k*lt.w:=by rw[e2,di,lt.wide.length,e1]
   refine⟨_,avs cs,by rw[Sg.cP,hs];rfl,?_,hl,by grind⟩;show((avs cs).drop 0).take (k*lt.w)=_;grind
  .cases h
 .cases h
def Vu{σ:Sg}{e:TypeId}{lt:LT}{x:SV}{ps:List Prop}{l:List lt.ty}{r:List Nat}(h:yz σ e lt x=some (ps,l,r)):∀s∈r,ql (σ s)=true:=by
 unfold yz at h;split at h
 .grind
 .split at h
  .rename_i hs;split at h
   .cases h;exact λs' hs'=>by rw[bn.1 hs',hs];rfl
   .cases h
  .cases h
 .split at h
  .rename_i hs;split at h<;>cases h;exact λs' hs'=>by rw[bn.1 hs',hs];rfl
  .cases h
 .cases h
def YZ{P:Program}{ltOf:TypeId->Option LT}{n:Nat}{t t':TypeId}{σ:Sg}{x y:SV}{ps:List Prop}{r:SV}{rd:List Nat}{W:aP}(h:CZ P ltOf n t t' σ x y=some (ps,r,rd,W))(hp:∀p∈ps,p):
  (dI P t').isSome=true/\zH P n t σ.a x.av y.av λr' R' W'=>r'=r.av/\bY σ rd W R' W':=by
 unfold CZ at h;split at h
 case h_2=>cases h
 rename_i e he ht';split at h
 case h_2=>cases h
 rename_i lt hlt htapp hf;split at h
 case h_2=>cases h
 rename_i p1 l r1 p2 m r2 hw h1 h2;cases h;refine⟨ht',e,he,htapp,?_⟩;rw[dN hw];obtain⟨f1,f2⟩:=ms hf;have hfl:=Vu h1;refine ZE h1 (λp hpp=>hp p (by simp[hpp])) (MQ h2 (λp hpp=>hp p (by simp[hpp])) ⟨hp _ (by simp),?_,?_⟩)
 .show _=AV.own (aO n) 0 _;grind
 .have e1:(r1.map aO).map (·,(none:Option Ob))++[(sit n 0,some (⟨e,lt.w,(lt.enc l).map AV.p++(lt.enc m).map AV.p⟩:Ob))] =aP.sto (r1.map (·,none)++[(n,some (.row e lt (l++m)))]):=by unfold aP.sto;rw[dM,dU,dU,<-f1];show _++_=_++[(aO n,some (⟨e,lt.w,(lt.enc (l++m)).map AV.p⟩:Ob))];rw[lt.wide.append,dM];rfl
  rw[e1,<-dM];refine bY.flat λq hq=> ?_;rcases bl.1 hq with hq|hq
  .obtain⟨s,hs,rfl⟩:=bR.1 hq;exact⟨hfl s hs,rfl⟩
  .rw[bn.1 hq,f2];exact⟨rfl,rfl⟩
def bY.take{σ:Sg}{z n a k:Nat}{ty ity:TypeId}{lt:LT}{L:List (List lt.ty)}{ov:List (Nat×SV)}{ob:SOb}{rd R:List Nat}(hs:σ z=some (.fam ty ity lt L ov))(ho:ov.lookup a=none)(hk:k=(L.getD a []).length)(hn:σ n=none)(hf:ob.flat=true)(hR:inC R (rd.map ncl)):
  bY σ rd [(z,some (.fam ty ity lt L ((a,.ownf z lt a k)::ov))),(n,some ob)] R [(inn z (a+1),none),(aO n,some (ob.ob n))] :=by
 have hzn:z≠n:=λe=>by grind
 refine⟨hR,λs hm=> ?_,?_⟩
 .have hm:s=inn z (a+1)\/s=aO n:=by simpa using hm
  rcases hm with rfl|rfl
  .rw[fO];grind
  .rw[show cls (aO n)=ncl n from fO n 0];grind
 .funext s
  unfold az;rcases kq s with⟨y,rfl⟩|⟨y,b,rfl⟩|hno
  .rw[Sg.cP,Sg.cP,dY,beq_eq_false_iff_ne.2 (show aO y≠inn z (a+1)from λh=>by have:=(fJ h).2;omega)];unfold aP.up;rw[dY,dY,dY];by_cases e:y=z
   .subst e;rw[beq_iff_eq.2 rfl,beq_eq_false_iff_ne.2 (show aO y≠aO n from λh=>hzn (l8 h)),hs];show some (⟨ty,1,_⟩:Ob)=some ⟨ty,1,_⟩
    congr 2
    refine mU λi hi=> ?_;unfold jJ;rw[dY];by_cases hi:i=a
    .subst hi;rw[beq_iff_eq.2 rfl,ho,hk];rfl
    grind
   .rw[beq_eq_false_iff_ne.2 e];by_cases e2:y=n
    .grind
    .rw[beq_eq_false_iff_ne.2 e2,beq_eq_false_iff_ne.2 (show aO y≠aO n from λh=>e2 (l8 h))];rfl
  .rw[Sg.fX,Sg.fX,dY,dY,beq_eq_false_iff_ne.2 (show inn y (b+1)≠aO n from λh=>by have:=(fJ h).2;omega)];unfold aP.up;rw[dY,dY];by_cases e:y=z
   .subst e;rw[beq_iff_eq.2 rfl,hs];by_cases hb:b=a
    .subst hb;rw[beq_iff_eq.2 rfl];unfold SOb.inner;grind
    .rw[beq_eq_false_iff_ne.2 (show inn y (b+1)≠inn y (a+1)from λh=>hb (by have:=(fJ h).2;omega))];unfold SOb.inner;grind
   .rw[beq_eq_false_iff_ne.2 e,beq_eq_false_iff_ne.2 (show inn y (b+1)≠inn z (a+1)from λh=>e (fJ h).1)];by_cases e2:y=n
    .subst e2;rw[beq_iff_eq.2 rfl,hn];show none=SOb.inner b ob;rw[SOb.Af hf]
    grind
  .rw[Sg.kI _ hno,Sg.kI _ hno,dY,dY,beq_eq_false_iff_ne.2 (hno z (a+1)),beq_eq_false_iff_ne.2 (show s≠aO n from λh=>hno n 0 h)];rfl
def CY(P:Program)(n:Nat)(t t':TypeId)(σ:Sg)(z:Nat)(lt2:LT)(a k:Nat)(y:SV):SR:=match dI P t,(dI P t').isSome,σ z with
 |some e,true,some (.fam ty ity lt L ov)=>(match decEq lt2 lt,Cp P e,frs σ n,bF ity e,bF (af P e) lt.w,CS σ lt y with
  | .isTrue _,true,true,true,true,some (p2,m,r2)=>some ((a<L.length)::(k=(L.getD a []).length)::(nC ov a++p2++[(L.getD a []).length+m.length<=1000000]),.own n lt (L.getD a [] ++m).length,z::r2,[(z,some (.fam ty ity lt L ((a,.ownf z lt a k)::ov))),(n,some (.row e lt (L.getD a [] ++m)))])
  |_,_,_,_,_,_=>none)
 |_,_,_=>none
def YY{P:Program}{n:Nat}{t t':TypeId}{σ:Sg}{z:Nat}{lt2:LT}{a k:Nat}{y:SV}{ps:List Prop}{r:SV}{rd:List Nat}{W:aP}(h:CY P n t t' σ z lt2 a k y=some (ps,r,rd,W))(hp:∀p∈ps,p):
  (dI P t').isSome=true/\zH P n t σ.a (SV.ownf z lt2 a k).av y.av λr' R' W'=>r'=r.av/\bY σ rd W R' W':=by
 unfold CY at h;split at h
 case h_2=>cases h
 rename_i e ty ity lt L ov he ht' hs;split at h
 case h_2=>cases h
 rename_i hlt p2 m r2 _ htapp hf hi hw h2;subst hlt;cases h;have ha:a<L.length:=hp _ (by grind);have hk:k=(L.getD a []).length:=hp _ (by grind);have ho:ov.lookup a=none:=tQ λp hq=>hp p (by simp[hq]);refine⟨ht',e,he,htapp,?_⟩;rw[dN hw];obtain⟨f1,f2⟩:=ms hf;refine⟨_,E4 hs ha ho,dN hi,rfl,?_,?_⟩
 .rw[di,lt2.wide.length,hk]
 .subst hk;refine MQ h2 (λp hpp=>hp p (by simp[hpp])) ⟨hp _ (by simp),?_,?_⟩
  .show _=AV.own (aO n) 0 _;grind
  .rw[<-f1];have e1:(⟨e,lt2.w,(lt2.enc (L.getD a [])).map AV.p++(lt2.enc m).map AV.p⟩:Ob)=SOb.ob n (.row e lt2 (L.getD a [] ++m)):=by show _=(⟨e,lt2.w,(lt2.enc (L.getD a [] ++m)).map AV.p⟩:Ob);rw[lt2.wide.append,dM]
   rw[e1];refine bY.take hs ho rfl f2 rfl λs hm=> ?_;rcases bI.1 hm with rfl|hm
   .rw[fO];grind
   .exact cG _ ((bY.read σ r2).1 s hm)
def Cv(P:Program)(ltOf:TypeId->Option LT)(n:Nat)(t t':TypeId)(σ:Sg)(x y:SV):SR:=match x with
 | .ownf z lt a k=>CY P n t t' σ z lt a k y
 |_=>CZ P ltOf n t t' σ x y
def Z4{P:Program}{ltOf:TypeId->Option LT}{n:Nat}{t t':TypeId}{σ:Sg}{x y:SV}{ps:List Prop}{r:SV}{rd:List Nat}{W:aP}(h:Cv P ltOf n t t' σ x y=some (ps,r,rd,W))(hp:∀p∈ps,p):
  (dI P t').isSome=true/\zH P n t σ.a x.av y.av λr' R' W'=>r'=r.av/\bY σ rd W R' W':=by
 unfold Cv at h;split at h
 .exact YY h hp
 .exact YZ h hp
def smm(f:Int->Int->Int)(x y:SV):Option SV:=match x,y with
 | .int .i64 a,.int .i64 b=>some (.int .i64 (f a b))
 |_,_=>none
def Pb{f:Int->Int->Int}{x y r:SV}(h:smm f x y=some r){K:AV->Prop}(hK:K r.av):mmA f x.av y.av K:=by unfold smm at h;split at h<;>cases h;exact hK
end
noncomputable section
def kc(f:SV->Option (List Prop×SV)):List SV->Option (List Prop×List SV)
 |[] =>some ([],[])
 |x::l=>match f x,kc f l with
  |some (p,y),some (q,m)=>some (p++q,y::m)
  |_,_=>none
def CV(d:Nat)(σ:Sg)(x n:Nat):Option (List Prop×SV):=match d,σ x with
 |_+1,some (.fam _ _ .I L [])=>some ([n=L.length],.lst .Q L)
 |_+1,some (.fam _ _ .V L [])=>some ([n=L.length],.lst .R L)
 |_,_=>none
def lJ:Nat->Sg->SV->Option (List Prop×SV)
 |_,_,.nil=>some ([],.sl 0 [])
 |_+1,σ,.own s _ n=>(match σ s with
  |some (.row _ lt l)=>some ([n=l.length],.lst lt l)
  |_=>none)
 |_+1,σ,.owns s lt2 o n=>(match σ s with
  |some (.row _ lt l)=>(match bF lt2.w lt.w with|true=>some ([o+n<=l.length],.lst lt ((l.drop o).take n))|false=>none)
  |_=>none)
 |d+1,σ,.ownx s n=>(match σ s with
  |some (.arr _ ez cs)=>(match bF cs.length (n*ez),kc (lJ d σ) cs with|true,some (ps,m)=>some (ps,.sl n m)|_,_=>none)
  |_=>none)
 |d+1,σ,.ptr s off=>(match σ s with
  |some (.box _ cs)=>(match kc (lJ d σ) cs with|some (ps,m)=>some (ps,.pro m off)|none=>none)
  |_=>none)
 |_+1,σ,.ownf x _ a n=>(match σ x with
  |some (.fam _ _ lt L ov)=>some ((a<L.length)::(n=(L.getD a []).length)::nC ov a,.lst lt (L.getD a []))
  |_=>none)
 |d+1,σ,.owF x n=>CV d σ x n
 |d+1,σ,.agg l=>(match kc (lJ d σ) l with|some (ps,m)=>some (ps,.agg m)|none=>none)
 |d+1,σ,.fn f a b=>(match kc (lJ d σ) a,kc (lJ d σ) b with|some (p,x),some (q,y)=>some (p++q,.fnp f x y)|_,_=>none)
 |_,_,x=>(match x.av with| .p _=>some ([],x)|_=>none)
def yK{d:Nat}{σ:Sg}{f:SV->Option (List Prop×SV)}(hf:∀x ps y,f x=some (ps,y)->(∀p∈ps,p)->∃q,dL d σ.a x.av=some q/\y.av= .p q):
  ∀{l:List SV} {ps:List Prop} {m:List SV},kc f l=some (ps,m)->(∀p∈ps,p)->∃q,dr (dL d σ.a) (avs l)=some q/\avs m=q.map .p
 |[],ps,m,h,_=>by obtain⟨rfl,rfl⟩:=h;exact⟨[],rfl,rfl⟩
 |x::l,ps,m,h,hp=>by
  unfold kc at h;split at h
  .rename_i p y q m' h1 h2;cases h;obtain⟨u,e1,e2⟩:=hf x p y h1 (λr hr=>hp r (by grind));obtain⟨v,e3,e4⟩:=yK hf h2 (λr hr=>hp r (by grind));refine⟨u::v,?_,by rw[avs,e2,e4];rfl⟩;rw[avs,dr,e1,e3]
  .cases h
def KF{d:Nat}{σ:Sg}{x:SV}{ps:List Prop}{y:SV}(h:(match x.av with| .p _=>some (([] :List Prop),x)|_=>none)=some (ps,y)):∃q,dL d σ.a x.av=some q/\y.av= .p q:=by split at h<;>cases h;rename_i q hq;exact⟨q,by rw[hq,G5],hq⟩
def KG{σ:Sg}{x a n d:Nat}{ty ity:TypeId}{lt:LT}{L:List (List lt.ty)}{ov:List (Nat×SV)}(hs:σ x=some (.fam ty ity lt L ov))(ha:a<L.length)(hn:n=(L.getD a []).length)(ho:ov.lookup a=none):
  dL (d+1) σ.a (.own (inn x (a+1)) 0 n)=some (.sl (L.getD a []).length (lt.enc (L.getD a []))):=by
 unfold dL;rw[E4 hs ha ho];simp only[rC,th,eJ,Df];rw[iV (by rw[lt.wide.length,hn];omega),hn]
def Mw{d:Nat}{g:Nat->Option Ob}{f:Nat->AV}{h:Nat->PV}:∀(l:List Nat),(∀i∈l,dL d g (f i)=some (h i))->dr (dL d g) (l.map f)=some (l.map h)
 |[],_=>rfl
 |i::l,H=>by
  rw[dX,dr,H i (by grind),Mw l λj hj=>H j (cG _ hj)];rfl
def E9{α β:Type}(f:α->β):∀l:List α,(l.flatMap λr=>[f r])=l.map f
 |[] =>rfl
 |a::l=>by rw[ff,dX,E9 f l];rfl
def MS{σ:Sg}{x n d:Nat}{ty ity:TypeId}{lt:LT}{L:List (List lt.ty)}(hs:σ x=some (.fam ty ity lt L []))(hn:n=L.length):
  dL (d+2) σ.a (.own (aO x) 0 n)=some (.sl n (L.flatMap λr=>[PV.sl r.length (lt.enc r)])):=by
 have e1:Sg.a σ (aO x)=some ⟨ty,1,(bM L.length).map (jJ x L [])⟩:=by rw[Sg.cP,hs];rfl
 have e2:dr (dL (d+1) σ.a) ((bM L.length).map (jJ x L []))=some ((bM L.length).map λi=>PV.sl (L.getD i []).length (lt.enc (L.getD i []))):=
  Mw _ λi hi=>KG (ov:=[]) hs (by grind) rfl rfl
 have e3:((bM L.length).map λi=>PV.sl (L.getD i []).length (lt.enc (L.getD i [])))=L.flatMap λr=>[PV.sl r.length (lt.enc r)] :=by
  rw[E9 (λr:List lt.ty=>PV.sl r.length (lt.enc r))];refine uT (by simp) λi h1 h2=> ?_;have h3:i<L.length:=by simpa using h2
  rw[kJ,kJ,List.getElem_range,eI,dw h3];rfl
 unfold dL;rw[e1];simp only[rC,e2,e3,eJ,Df];rw[iV];grind
def YQ{σ:Sg}{d x n:Nat}{ps:List Prop}{y:SV}(h:CV d σ x n=some (ps,y))(hp:∀p∈ps,p):∃q,dL (d+1) σ.a (SV.owF x n).av=some q/\y.av= .p q:=by
 unfold CV at h;split at h
 .rename_i d ty ity L hs;cases h;have hn:n=L.length:=hp _ (by grind);exact⟨_,MS hs hn,by rw[hn];rfl⟩
 .rename_i d ty ity L hs;cases h;have hn:n=L.length:=hp _ (by grind);exact⟨_,MS hs hn,by rw[hn];rfl⟩
 .cases h
def FX{σ:Sg}:∀{d:Nat} {x:SV} {ps:List Prop} {y:SV},lJ d σ x=some (ps,y)->(∀p∈ps,p)->∃q,dL d σ.a x.av=some q/\y.av= .p q:=by
 intro d;induction d with
 |zero=>
  intro x ps y h hp;cases x<;>first
   |(change some ([],SV.sl 0 [])=some (ps,y)at h;cases h;exact⟨.sl 0 [],rfl,rfl⟩)
   |exact KF h
 |succ d ih=>
  intro x ps y h hp;have ihl:= @yK d σ (lJ d σ) (by grind);cases x with
  |nil=>cases h;exact⟨.sl 0 [],rfl,rfl⟩
  |own s t n=>
   change (match σ s with|some (.row _ lt l)=>some ([n=l.length],SV.lst lt l)|_=>none)=_ at h;split at h<;>cases h;rename_i ty lt l hs;have hn:n=l.length:=hp _ (by grind);refine⟨_,?_,rfl⟩;show dL (d+1) (Sg.a σ) (.own (aO s) 0 n)=_;unfold dL;have:Sg.a σ (aO s)=some ⟨ty,lt.w,(lt.enc l).map .p⟩:=by rw[Sg.cP,hs];rfl
   rw[this];simp only[rC,th,eJ,Df];rw[iV (by rw[lt.wide.length,hn];omega),hn]
  |owns s lt2 o n=>
   change (match σ s with|some (.row _ lt l)=>(match bF lt2.w lt.w with|true=>some ([o+n<=l.length],SV.lst lt ((l.drop o).take n))|false=>none)|_=>none)=_ at h;split at h
   case h_2=>cases h
   rename_i ty lt l hs;split at h<;>cases h;rename_i hw;have hw:=dN hw;have hn:o+n<=l.length:=hp _ (by grind);refine⟨_,?_,rfl⟩;show dL (d+1) (Sg.a σ) (.own (aO s) (o*lt2.w) n)=_;unfold dL;have:Sg.a σ (aO s)=some ⟨ty,lt.w,(lt.enc l).map .p⟩:=by rw[Sg.cP,hs];rfl
   rw[this];simp only[rC,th,eJ];rw[hw,lt.wide.drop,lt.wide.take];grind
  |ownx s n=>
   change (match σ s with|some (.arr _ ez cs)=>(match bF cs.length (n*ez),kc (lJ d σ) cs with|true,some (ps,m)=>some (ps,SV.sl n m)|_,_=>none)|_=>none)=_ at h;split at h
   case h_2=>cases h
   rename_i ty ez cs hs;split at h<;>cases h;rename_i m hl hm;obtain⟨q,e1,e2⟩:=ihl hm hp;refine⟨.sl n q,?_,by show(match bT (avs m)with|some q=>AV.p (.sl n q)|none=> .any)=_;rw[e2,dV]⟩;show dL (d+1) (Sg.a σ) (.own (aO s) 0 n)=_;unfold dL;have:Sg.a σ (aO s)=some ⟨ty,ez,avs cs⟩:=by rw[Sg.cP,hs];rfl
   rw[this];simp only[rC,e1,eJ,Df];rw[iV (by rw[<-(o6 e1).1,jv,dN hl];omega)]
  |ptr s off=>
   change (match σ s with|some (.box _ cs)=>(match kc (lJ d σ) cs with|some (ps,m)=>some (ps,SV.pro m off)|none=>none)|_=>none)=_ at h;split at h
   case h_2=>cases h
   rename_i ty cs hs;split at h<;>cases h;rename_i m hm;obtain⟨q,e1,e2⟩:=ihl hm hp;refine⟨.pro q off,?_,by show(match bT (avs m)with|some q=>AV.p (.pro q off)|none=> .any)=_;rw[e2,dV]⟩;show dL (d+1) (Sg.a σ) (.ptr (aO s) off)=_;unfold dL;have:Sg.a σ (aO s)=some ⟨ty,0,avs cs⟩:=by rw[Sg.cP,hs];rfl
   grind
  |ownf x t a n=>
   change (match σ x with|some (.fam _ _ lt L ov)=>some ((a<L.length)::(n=(L.getD a []).length)::nC ov a,SV.lst lt (L.getD a []))|_=>none)=_ at h;split at h<;>cases h;rename_i ty ity lt L ov hs;have ha:a<L.length:=hp _ (by grind);have hn:n=(L.getD a []).length:=hp _ (by grind);have ho:ov.lookup a=none:=tQ (by grind);exact⟨_,KG hs ha hn ho,rfl⟩
  |owF x n=>exact YQ (show CV d σ x n=_ from h) hp
  |agg l=>
   change (match kc (lJ d σ) l with|some (ps,m)=>some (ps,SV.agg m)|none=>none)=_ at h;split at h<;>cases h;rename_i m hm;obtain⟨q,e1,e2⟩:=ihl hm hp;refine⟨.agg q,?_,by show eO (avs m)=_;rw[e2,s9]⟩;show dL (d+1) (Sg.a σ) (eO (avs l))=_;unfold eO;cases hq:bT (avs l)with
   |some q'=>
    rw[jX hq,th]at e1;cases e1;exact G5 _ _ _
   |none=>unfold dL;rw[e1];rfl
  |fn f a b=>
   change (match kc (lJ d σ) a,kc (lJ d σ) b with|some (p,x),some (q,y)=>some (p++q,SV.fnp f x y)|_,_=>none)=_ at h;split at h<;>cases h;rename_i p x q y h1 h2;obtain⟨u,e1,e2⟩:=ihl h1 (λr hr=>hp r (by grind));obtain⟨v,e3,e4⟩:=ihl h2 (λr hr=>hp r (by grind));refine⟨.fn (.func f) u v,?_,by show(match bT (avs x),bT (avs y)with|some x,some y=>AV.p (.fn (.func f) x y)|_,_=> .any)=_;rw[e2,e4,dV,dV]⟩;show dL (d+1) (Sg.a σ) (.fn (.func f) (avs a) (avs b))=_;unfold dL;grind
  |_=>exact KF h
def dR:Nat->Sg->SV->List Nat
 |0,_,_=>[]
 |d+1,σ,x=>
  let O:Nat->List Nat:=λs=>match σ s with
   |some (.box _ cs)=>bQ (dR d σ) cs
   |some (.arr _ _ cs)=>bQ (dR d σ) cs
   |some (.fam _ _ _ _ ov)=>bQ (λq:Nat×SV=>dR d σ q.2) ov
   |_=>[]
  match x with
  | .own s _ _=>s::O s
  | .owns s _ _ _=>s::O s
  | .ownx s _=>s::O s
  | .ptr s _=>s::O s
  | .pte s _ _ _=>s::O s
  | .ptf s _=>s::O s
  | .owF s _=>s::O s
  | .ownf s _ _ _=>[s]
  | .ptef s _ _ _ _=>[s]
  | .agg l=>bQ (dR d σ) l
  | .fn _ a b=>bQ (dR d σ) a++bQ (dR d σ) b
  |_=>[]
def mL:Nat->Sg->SV->Bool
 |0,_,_=>true
 |d+1,σ,x=>
  let O:Nat->Bool:=λs=>match σ s with
   |some (.box _ cs)=>cs.all (mL d σ)
   |some (.arr _ _ cs)=>cs.all (mL d σ)
   |some (.fam ..)=>false
   |_=>true
  match x with
  | .own s _ _=>O s
  | .owns s _ _ _=>O s
  | .ownx s _=>O s
  | .ptr s _=>O s
  | .pte s _ _ _=>O s
  | .ptf s _=>O s
  | .owF s _=>O s
  | .ownf .. =>false
  | .ptef .. =>false
  | .agg l=>l.all (mL d σ)
  | .fn _ a b=>a.all (mL d σ)&&b.all (mL d σ)
  |_=>true
def rI{d:Nat}{g:Nat->Option Ob}{y:AV}(h:(∃q,y= .p q)\/y= .any\/(∃l,y= .tup l)):cR (d+1) g y=[] :=by rcases h with⟨q,rfl⟩|rfl|⟨l,rfl⟩<;>rfl
def rV(x:SV):(match x with| .tup _| .sl .. | .pro .. | .fnp .. =>True|_=>False)->(∃q,x.av= .p q)\/x.av= .any\/(∃l,x.av= .tup l):=by
 intro h;cases x<;>first|exact h.elim|skip
 .show(∃q,kW _= .p q)\/kW _= .any\/∃m,kW _= .tup m;unfold kW;grind
 all_goals
  simp only[SV.av];split
  .exact .inl ⟨_,rfl⟩
  .exact .inr (.inl rfl)
def Mm{d:Nat}{g:Nat->Option Ob}(l:List SV):cR (d+1) g (eO (avs l))=bQ (cR d g) (avs l):=by
 unfold eO;cases hq:bT (avs l)with
 |none=>rfl
 |some q=>rw[jX hq,qO];rfl
def O3{A B Ac Bc:List Nat}(h1:inC A Ac)(h2:inC B Bc):inC (A++B) (Ac++Bc):=λs hs=>by
 rcases bl.1 hs with h|h
 .exact ig _ (h1 s h)
 .exact gq _ (h2 s h)
def rP{d:Nat}{σ:Sg}(ih:∀x:SV,inC (cR d σ.a x.av) ((dR d σ x).map ncl)):∀l:List SV,inC (bQ (cR d σ.a) (avs l)) ((bQ (dR d σ) l).map ncl)
 |[] =>λs hs=>(cq hs).elim
 |x::l=>by rw[avs,bQ,bQ,dM];exact O3 (ih x) (rP ih l)
def Yg{σ:Sg}{d:Nat}(ih:∀x:SV,inC (cR d σ.a x.av) ((dR d σ x).map ncl)):∀s:Nat,inC (aO s::(match σ.a (aO s)with|some ob=>bQ (cR d σ.a) ob.cells|none=>[])) ((s::(match σ s with|some (.box _ cs)=>bQ (dR d σ) cs|some (.arr _ _ cs)=>bQ (dR d σ) cs|some (.fam _ _ _ _ ov)=>bQ (λq:Nat×SV=>dR d σ q.2) ov|_=>[])).map ncl):=by
 intro s t ht;rw[Sg.cP]at ht;rcases bI.1 ht with rfl|ht
 .rw[show cls (aO s)=ncl s from fO s 0];grind
 cases hs:σ s with
 |none=>grind
 |some ob=>
  rw[hs]at ht;cases ob with
  |box ty cs=>exact cG _ (rP ih cs t ht)
  |row ty lt l=>
   have ht:t∈bQ (cR d σ.a) ((lt.enc l).map .p):=ht;rw[qO]at ht;grind
  |arr ty ez cs=>exact cG _ (rP ih cs t ht)
  |mp ks=>
   have ht:t∈bQ (cR d σ.a) (gZ (gv ks)):=ht;rw[tR,qO]at ht;grind
  |fam ty ity lt L ov=>
   have ht:t∈bQ (cR d σ.a) ((bM L.length).map (jJ s L ov)):=ht;have:∀l:List Nat,t∈bQ (cR d σ.a) (l.map (jJ s L ov))->cls t∈ncl s::((bQ (λq:Nat×SV=>dR d σ q.2) ov).map ncl):=λl=>by
    induction l with
    |nil=>intro h;exact(cq h).elim
    |cons i l ihl=>
     intro h;rcases bl.1 h with h|h
     .unfold jJ at h;split at h
      .rename_i v hv;obtain⟨y,hy,e⟩:=bR.1 (ih v t h);refine cG _ (bR.2 ⟨y,ol (x:=(i,v)) ?_ hy,e⟩);have key:∀ov:List (Nat×SV),ov.lookup i=some v->(i,v)∈ov:=λov hv=>by
        induction ov with
        |nil=>cases hv
        |cons q ov ihv=>
         grind
       grind
      .cases d with
       |zero=>exact(cq h).elim
       |succ d=>
        rcases bI.1 h with rfl|h
        .rw[fO];grind
        .rw[Sg.fX,hs]at h;have h:t∈(match(match ov.lookup i with|some _=>none|none=>(L[i]?).map λl=>(⟨ity,lt.w,(lt.enc l).map .p⟩:Ob))with|some ob=>bQ (cR d σ.a) ob.cells|none=>[]):=h;split at h
         .rename_i ob hob;split at hob
          .cases hob
          .cases hL:L[i]? with
           |none=>grind
           |some l=>rw[hL]at hob;cases hob;rw[qO]at h;grind
         grind
     grind
   grind
def VX{σ:Sg}{d:Nat}:∀s a:Nat,inC (inn s (a+1)::(match σ.a (inn s (a+1))with|some ob=>bQ (cR d σ.a) ob.cells|none=>[])) ([s].map ncl):=by
 intro s a t ht;rcases bI.1 ht with rfl|ht
 .rw[fO];grind
 .rw[Sg.fX]at ht;cases hs:σ s with
  |none=>grind
  |some ob=>
   rw[hs]at ht;cases ob with
   |fam ty ity lt L ov=>
    have ht:t∈(match(match ov.lookup a with|some _=>none|none=>(L[a]?).map λl=>(⟨ity,lt.w,(lt.enc l).map .p⟩:Ob))with|some ob=>bQ (cR d σ.a) ob.cells|none=>[]):=ht;split at ht
    .rename_i ob hob;split at hob
     .cases hob
     .cases hL:L[a]? with
      |none=>grind
      |some l=>rw[hL]at hob;cases hob;rw[qO]at ht;grind
    grind
   |_=>exact(cq ht).elim
def OP{σ:Sg}:∀(d:Nat) (x:SV),inC (cR d σ.a x.av) ((dR d σ x).map ncl):=by
 intro d;induction d with
 |zero=>intro x s hs;exact(cq hs).elim
 |succ d ih=>
  intro x;have obs:=Yg ih;have inner:=VX (σ:=σ) (d:=d);have non:∀{y:SV} {l:List Nat},cR (d+1) σ.a y.av=[]->inC (cR (d+1) σ.a y.av) l:=λh=>by rw[h];exact λs hs=>by grind
  cases x with
  |own s t n=>exact obs s
  |owns s t o n=>exact obs s
  |ownx s n=>exact obs s
  |ptr s off=>exact obs s
  |pte s t i off=>exact obs s
  |ptf s a=>exact obs s
  |owF s n=>exact obs s
  |ownf s t a n=>exact inner s a
  |ptef s t a i off=>exact inner s a
  |agg l=>
   show inC (cR (d+1) σ.a (eO (avs l))) _;rw[Mm];exact rP ih l
  |fn f a b=>
   show inC (bQ (cR d σ.a) (avs a)++bQ (cR d σ.a) (avs b)) ((bQ (dR d σ) a++bQ (dR d σ) b).map ncl);rw[dM];exact O3 (rP ih a) (rP ih b)
  |tup l=>exact non (rI (rV _ trivial))
  |sl n cs=>exact non (rI (rV _ trivial))
  |pro cs off=>exact non (rI (rV _ trivial))
  |fnp f a b=>exact non (rI (rV _ trivial))
  |_=>exact non rfl
def tU{d:Nat}{σ:Sg}(ih:∀x:SV,mL d σ x=true->cR d σ.a x.av=(dR d σ x).map aO/\∀y∈dR d σ x,ql (σ y)=true):∀l:List SV,l.all (mL d σ)=true->bQ (cR d σ.a) (avs l)=(bQ (dR d σ) l).map aO/\∀y∈bQ (dR d σ) l,ql (σ y)=true
 |[],_=>⟨rfl,λy hy=>(cq hy).elim⟩
 |x::l,h=>by
  rw[List.all_cons,bj]at h;obtain⟨a1,a2⟩:=ih x h.1;obtain⟨b1,b2⟩:=tU ih l h.2;rw[avs,bQ,bQ,dM,a1,b1];grind
def Ww{σ:Sg}:∀(d:Nat) (x:SV),mL d σ x=true->cR d σ.a x.av=(dR d σ x).map aO/\∀y∈dR d σ x,ql (σ y)=true:=by
 intro d;induction d with
 |zero=>intro x _;exact⟨rfl,λy hy=>(cq hy).elim⟩
 |succ d ih=>
  intro x hx;have obs:∀s:Nat,(match σ s with|some (.box _ cs)=>cs.all (mL d σ)|some (.arr _ _ cs)=>cs.all (mL d σ)|some (.fam ..)=>false|_=>true)=true->
    (aO s::(match σ.a (aO s)with|some ob=>bQ (cR d σ.a) ob.cells|none=>[]))=(s::(match σ s with|some (.box _ cs)=>bQ (dR d σ) cs|some (.arr _ _ cs)=>bQ (dR d σ) cs|some (.fam _ _ _ _ ov)=>bQ (λq:Nat×SV=>dR d σ q.2) ov|_=>[])).map aO/\
    ∀y∈(s::(match σ s with|some (.box _ cs)=>bQ (dR d σ) cs|some (.arr _ _ cs)=>bQ (dR d σ) cs|some (.fam _ _ _ _ ov)=>bQ (λq:Nat×SV=>dR d σ q.2) ov|_=>[])),ql (σ y)=true:=by
   intro s h;rw[Sg.cP,dX];cases hs:σ s with
   |none=>exact⟨rfl,λy hy=>by rw[bn.1 hy,hs];rfl⟩
   |some ob=>
    rw[hs]at h;cases ob with
    |box ty cs=>
     obtain⟨a1,a2⟩:=tU ih cs h;refine⟨congrArg (aO s:: ·) a1,λy hy=> ?_⟩;rcases bI.1 hy with rfl|hy
     .rw[hs];rfl
     grind
    |row ty lt l=>exact⟨congrArg (aO s:: ·) (qO _ _ _),λy hy=>by rw[bn.1 hy,hs];rfl⟩
    |arr ty ez cs=>
     obtain⟨a1,a2⟩:=tU ih cs h;refine⟨congrArg (aO s:: ·) a1,λy hy=> ?_⟩;rcases bI.1 hy with rfl|hy
     .rw[hs];rfl
     grind
    |mp ks=>
     refine⟨congrArg (aO s:: ·) ?_,λy hy=>by rw[bn.1 hy,hs];rfl⟩;show bQ (cR d σ.a) (gZ (gv ks))=_;rw[tR];exact qO _ _ _
    |fam=>cases h
  have non:∀{y:SV},cR (d+1) σ.a y.av=[]->dR (d+1) σ y=[]->cR (d+1) σ.a y.av=(dR (d+1) σ y).map aO/\∀z∈dR (d+1) σ y,ql (σ z)=true:=by grind
  cases x with
  |own s t n=>exact obs s hx
  |owns s t o n=>exact obs s hx
  |ownx s n=>exact obs s hx
  |ptr s off=>exact obs s hx
  |pte s t i off=>exact obs s hx
  |ptf s a=>exact obs s hx
  |owF s n=>exact obs s hx
  |ownf s t a n=>cases hx
  |ptef s t a i off=>cases hx
  |agg l=>
   show cR (d+1) σ.a (eO (avs l))=_/\_;rw[Mm];exact tU ih l hx
  |fn f a b=>
   have hx:(a.all (mL d σ)&&b.all (mL d σ))=true:=hx;rw[bj]at hx;obtain⟨a1,a2⟩:=tU ih a hx.1;obtain⟨b1,b2⟩:=tU ih b hx.2;show bQ (cR d σ.a) (avs a)++bQ (cR d σ.a) (avs b)=(bQ (dR d σ) a++bQ (dR d σ) b).map aO/\∀y∈bQ (dR d σ) a++bQ (dR d σ) b,_;grind
  |tup l=>exact non (rI (rV _ trivial)) rfl
  |sl n cs=>exact non (rI (rV _ trivial)) rfl
  |pro cs off=>exact non (rI (rV _ trivial)) rfl
  |fnp f a b=>exact non (rI (rV _ trivial)) rfl
  |_=>exact non rfl rfl
inductive RK(X:Type) where
 |val (fr:Bool) (res:X->SV)
 |own (ty:TypeId) (t:LT) (l:X->List t.ty) (ys:X->List SV)
 |ownN (ty:TypeId) (t:LT) (l:X->List t.ty)
 |mutR (t:LT) (ty:TypeId) (l':X->List t.ty)
 |mutB (ty:TypeId) (cells':X->List SV)
 |tree (res:X->SV) (obs:X->aP)
 |rowB (t:LT) (ty:TypeId) (l':X->List t.ty)
structure Con where
 X:Type
 dec:List SV->Option X
 pre:X->List Prop
 rk:RK X
def aCA(P:Program)(f:Nat){X:Type}(dec:List SV->Option X)(pre:X->List Prop):RK X->Prop
 | .val fr res=>∀xs x,dec xs=some x->(∀p∈pre x,p)->∃A r,avs xs=A.map .p/\(res x).av= .p r/\Sat P fr f A r
 | .own ty t l ys=>∀xs x,dec xs=some x->(∀p∈pre x,p)->∃A Y,avs xs=A.map .p/\avs (ys x)=Y.map .p/\wg P f A ty t.w (t.enc (l x)) (l x).length Y
 | .ownN ty t l=>∀xs x,dec xs=some x->(∀p∈pre x,p)->∃A,avs xs= .nil::A.map .p/\Ih P f A ty t.w (t.enc (l x)) (l x).length []
 | .mutR t ty l'=>∀l rest x,dec (.lst t l::rest)=some x->(∀p∈pre x,p)->∃A,avs rest=A.map .p/\nI P f (some l.length) A ty t.w (t.enc l) (t.enc (l' x))
 | .mutB ty cells'=>∀cs rest x,dec (.agg cs::rest)=some x->(∀p∈pre x,p)->∃A q q',avs rest=A.map .p/\avs cs=q.map .p/\avs (cells' x)=q'.map .p/\nI P f none A ty 0 q q'
 | .tree res obs=>∀xs x,dec xs=some x->(∀p∈pre x,p)->∃A,avs xs=A.map .p/\Ig P f A (res x).av (Sg.a (aP.at (obs x)))
 | .rowB t ty l'=>∀l rest x,dec (.lst t l::rest)=some x->(∀p∈pre x,p)->∃A,avs rest=A.map .p/\Ii P f l.length A ty t.w (t.enc l) (t.enc (l' x)) (l' x).length
def Con.Ok(P:Program)(f:Nat)(c:Con):Prop:=aCA P f c.dec c.pre c.rk
abbrev Tab:=Nat->Option Con
def Tab.Ok(P:Program)(T:Tab):Prop:=∀f c,T f=some c->c.Ok P f
def LT.argP:(t:LT)->t.ty->PV
 | .V=>λv=> .agg [.int .i64 v.x,.int .i64 v.y]
 | .S=>λs=> .agg [.int .i64 s.a.x,.int .i64 s.a.y,.int .i64 s.b.x,.int .i64 s.b.y]
 | .R=>λr=> .sl r.length (fy r)
 | .I=>λn=> .int .i64 n
 | .B=>λb=> .bool b
 | .P=>λp=> .agg [.int .i64 p.1,.int .i64 p.2]
 | .Q=>λr=> .sl r.length (IY r)
def LT.one:LT->Bool
 | .V=>false
 | .S=>false
 | .P=>false
 |_=>true
def zG(t:LT)(v:SV):Option t.ty:=match t.one with
 |true=>t.dec [v]
 |false=>(match v with| .agg l=>t.dec l|_=>none)
def Gt{t:LT}{v:SV}{x:t.ty}(h:zG t v=some x):v.av= .p (t.argP x):=by
 have agg:∀l:List SV,v= .agg l->t.dec l=some x->v.av= .p (.agg (t.rowP x)):=by intro l e hd;subst e;show eO (avs l)=_;rw[LT.yk hd,s9]
 have one:t.dec [v] =some x->∀c,t.rowP x=[c]->v.av= .p c:=by intro hd c hc;have:=LT.yk hd;rw[hc]at this;simp only[avs,dX,po,qA,and_true]at this;exact this
 unfold zG at h;cases t<;>simp only[LT.one]at h<;>first
  |exact one h _ rfl
  |(split at h<;>first|exact agg _ rfl h|cases h)
def aB2(P:Program)(pv:PV)(t:LT)(q:t.ty->Bool)(dom:t.ty->Prop):Prop:=∃f first caps,pv= .fn (.func f) first caps/\∀x,dom x->∃fr,Sat P fr f (first++[t.argP x] ++caps) (.bool (q x))
def aB1(P:Program)(pv:PV)(t:LT)(q:t.ty->t.ty->Int)(dom:t.ty->t.ty->Prop):Prop:=∃f first caps,pv= .fn (.func f) first caps/\∀x y,dom x y->∃fr,Sat P fr f (first++[t.argP x,t.argP y] ++caps) (.int .i64 (q x y))
def H5(x:SV):Bool:=match x.av with
 | .p r=>r.flat
 |_=>false
def CW(T:Tab)(n:Nat)(σ:Sg)(f:Nat)(xs:List SV):SR:=match T f with
 |none=>none
 |some ⟨_,dec,pre,rk⟩=>(match rk with
  | .val fr res=>(match kc (lJ 3 σ) xs with
    |some (ps,bs)=>(match dec bs with
     |some x=>(match(res x).ape,bT (avs xs)with
      |false,some _=>some (ps++pre x,res x,[],[])
      |false,none=>(match fr,H5 (res x)with
       |false,false=>(match xs.all (mL 3 σ)with|true=>some (ps++pre x,res x,bQ (dR 3 σ) xs,(bQ (dR 3 σ) xs).map (·,none))|false=>none)
       |_,_=>some (ps++pre x,res x,bQ (dR 3 σ) xs,[]))
      |_,_=>none)
     |none=>none)
    |none=>none)
  | .own ty t l ys=>(match bT (avs xs),dec xs,frs σ n with
    |some _,some x,true=>(match ys x with
     |[] =>some (pre x,.own n t (l x).length,[],[(n,some (.row ty t (l x)))])
     |y::r=>(match bF (y::r).length 0 with|_=>some (pre x,.tup (.own n t (l x).length::y::r),[],[(n,some (.row ty t (l x)))])))
    |_,_,_=>none)
  | .ownN ty t l=>(match xs with
    | .nil::rest=>(match bT (avs rest),dec (.nil::rest),frs σ n with
      |some _,some x,true=>some (pre x,.own n t (l x).length,[],[(n,some (.row ty t (l x)))])
      |_,_,_=>none)
    |_=>none)
  | .mutR t ty l'=>(match xs with
    | .own s _ m::rest=>(match σ s,bT (avs rest)with
      |some (.row ty' t' l),some _=>(match decEq t' t,bF ty' ty with
       | .isTrue h,true=>(match dec (.lst t (h▸l)::rest)with
         |some x=>some ((m=l.length)::pre x,.undef,[s],[(s,some (.row ty t (l' x)))])
         |none=>none)
       |_,_=>none)
      |_,_=>none)
    |_=>none)
  | .mutB ty cells'=>(match xs with
    | .ptr s 0::rest=>(match σ s,bT (avs rest)with
      |some (.box ty' cs),some _=>(match bF ty' ty,dec (.agg cs::rest)with
       |true,some x=>some (pre x,.undef,[s],[(s,some (.box ty (cells' x)))])
       |_,_=>none)
      |_,_=>none)
    |_=>none)
  | .tree .. =>none
  | .rowB .. =>none)
def Mc{P:Program}{T:Tab}(hT:T.Ok P){n:Nat}{σ:Sg}{f:Nat}{xs:List SV}{ps:List Prop}{r:SV}{rd:List Nat}{W:aP}(h:CW T n σ f xs=some (ps,r,rd,W))(hp:∀p∈ps,p):
  (qU P σ.a f (avs xs) (λr' R' W'=>r'=r.av/\bY σ rd W R' W')\/Bj P n f (avs xs) (λr' R' W'=>r'=r.av/\bY σ rd W R' W'))/\r.ok:=by
 unfold CW at h;split at h
 .cases h
 rename_i X dec pre rk hTf;have hc:=hT f _ hTf;unfold Con.Ok at hc;split at h
 .rename_i fr res;split at h
  case h_2=>cases h
  rename_i qs bs hb;split at h
  case h_2=>cases h
  rename_i x hx;have fin:(∀p∈qs++pre x,p)->∃A r,dr (dL 3 σ.a) (avs xs)=some A/\(res x).av= .p r/\Sat P fr f A r:=by
   intro hp;obtain⟨A,r,h1,h2,h3⟩:=hc bs x hx (λp h=>hp p (by grind));obtain⟨q,h4,h5⟩:=yK (λx ps y=>FX) hb (λp h=>hp p (by grind));rw[h1]at h5;have:A=q:=by have:=congrArg bT h5;rw[dV,dV]at this;cases this;rfl
   subst this;grind
  have hR:bY σ (bQ (dR 3 σ) xs) [] (bQ (cR 3 σ.a) (avs xs)) [] :=⟨rP (OP 3) xs,λs hs=>by grind,rfl⟩;split at h
  .rename_i A' hape hA';cases h;obtain⟨A,r,h1,h2,h3⟩:=fin hp;refine⟨.inl ?_,SV.oJ hape⟩;rw[h2];rw[jX hA',th]at h1;cases h1;exact EF h3 hA' ⟨rfl,bY.read σ []⟩
  .rename_i hape hA';cases hfr:fr with
   |true=>
    rw[hfr]at h;cases h;obtain⟨A,r,h1,h2,h3⟩:=fin hp;refine⟨.inl ?_,SV.oJ hape⟩;rw[h2];rw[hfr]at h3;exact Jc h3 h1 rfl ⟨rfl,hR⟩
   |false=>
    cases hfl:H5 (res x)with
    |true=>
     rw[hfr,hfl]at h;cases h;obtain⟨A,r,h1,h2,h3⟩:=fin hp;refine⟨.inl ?_,SV.oJ hape⟩;unfold H5 at hfl;rw[h2]at hfl|-;exact Jc (h3.fresh hfl) h1 rfl ⟨rfl,hR⟩
    |false=>
     rw[hfr,hfl]at h;dsimp only at h;split at h<;>cases h;rename_i hall;obtain⟨A,r,h1,h2,h3⟩:=fin hp;refine⟨.inl ?_,SV.oJ hape⟩;rw[h2];obtain⟨e1,e2⟩:=tU (Ww 3) xs hall;refine Uq h3 h1 e1 ⟨rfl,?_⟩;have e3:((bQ (dR 3 σ) xs).map aO).map (·,(none:Option Ob))=aP.sto ((bQ (dR 3 σ) xs).map (·,none)):=by unfold aP.sto;rw[dU,dU];rfl
     rw[e3];exact bY.flat λq hq=>by obtain⟨y,hy,rfl⟩:=bR.1 hq;exact⟨e2 y hy,rfl⟩
  .cases h
 .rename_i ty t l ys;split at h
  case h_2=>cases h
  rename_i A' x hA' hx hfr;obtain⟨f1,f2⟩:=ms hfr;have fin:(∀p∈pre x,p)->∃Y,avs (ys x)=Y.map .p/\wg P f A' ty t.w (t.enc (l x)) (l x).length Y:=by intro hp;obtain⟨A,Y,h1,h2,h3⟩:=hc xs x hx hp;rw[h1,dV]at hA';cases hA';exact⟨Y,h2,h3⟩
  split at h
  .rename_i hy;cases h;obtain⟨Y,h1,h2⟩:=fin hp;rw[hy]at h1;have hY:Y=[] :=by have:=congrArg eQ h1;simp[avs]at this;grind
   subst hY;exact⟨.inr ⟨A',ty,t.w,t.enc (l x),(l x).length,[],by grind,by show _=AV.own (aO n) 0 _;rw[f1];rfl,bY.new (ob:= .row ty t (l x)) f2 f1 rfl⟩,trivial⟩
  .rename_i y r' hy;cases h;obtain⟨Y,h1,h2⟩:=fin hp;rw[hy]at h1;refine⟨.inr ⟨A',ty,t.w,t.enc (l x),(l x).length,Y,by grind,?_,bY.new (ob:= .row ty t (l x)) f2 f1 rfl⟩,trivial⟩;show Cw n (l x).length Y=kW (avs (.own n t (l x).length::y::r'));cases Y with
   |nil=>simp[avs]at h1
   |cons y0 Y=>
    rw[avs,h1];unfold Cw kW;rw[<-f1];rfl
 .rename_i ty t l;split at h
  case h_2=>cases h
  rename_i rest;split at h<;>cases h;rename_i A' x hA' hx hfr;obtain⟨f1,f2⟩:=ms hfr;obtain⟨A,h1,h2⟩:=hc _ x hx hp;have hA2:A'=A:=by have h1:AV.nil::avs rest= .nil::A.map .p:=h1;rw[qA]at h1;rw[h1.2,dV]at hA';cases hA';rfl
  subst hA2;exact⟨.inr ⟨A',ty,t.w,t.enc (l x),(l x).length,[],.inr ⟨avs rest,rfl,hA',h2⟩,by show _=AV.own (aO n) 0 _;rw[f1];rfl,bY.new (ob:= .row ty t (l x)) f2 f1 rfl⟩,trivial⟩
 .rename_i t ty l';split at h
  case h_2=>cases h
  rename_i s t2 m rest;split at h
  case h_2=>cases h
  rename_i ty' t' l A' hs hA';split at h
  case h_2=>cases h
  rename_i he _ hty;subst he;split at h<;>cases h;rename_i x hx;have hm:m=l.length:=hp _ (by simp);obtain⟨A,h1,h2⟩:=hc l rest x hx (by grind);have hty:=dN hty;refine⟨.inl (.inr ?_),trivial⟩;refine⟨ty,t'.w,t'.enc l,by rw[Sg.cP,hs,hty];rfl,oh t'.lH,A,t'.enc (l' x),by rw[h1,dV],by grind,rfl,?_⟩;exact bY.flat (rd:=[s]) (W:=[(s,some (.row ty t' (l' x)))]) λq hq=>by rw[bn.1 hq,hs];exact⟨rfl,rfl⟩
 .rename_i ty cells';split at h
  case h_2=>cases h
  rename_i s rest;split at h
  case h_2=>cases h
  rename_i ty' cs A' hs hA';split at h<;>cases h;rename_i x hty hx;obtain⟨A,q,q',h1,h2,h3,h4⟩:=hc cs rest x hx hp;have hty:=dN hty;refine⟨.inl (.inr ?_),trivial⟩;refine⟨ty,q,by rw[Sg.cP,hs,hty];show some (⟨ty,0,avs cs⟩:Ob)=_;rw[h2],A,q',by rw[h1,dV],h4,rfl,?_⟩;rw[<-h3];exact bY.flat (rd:=[s]) (W:=[(s,some (.box ty (cells' x)))]) λq hq=>by rw[bn.1 hq,hs];exact⟨rfl,rfl⟩
 .cases h
 .cases h
def GP(P:Program)(T:Tab)(n:Nat)(σ:Sg)(fv:SV)(xs:List SV):SR:=match fv with
 | .fn g a b=>CW T n σ g (a++xs++b)
 | .fnp g a b=>(match bT (avs a),bT (avs b)with|some _,some _=>CW T n σ g (a++xs++b)|_,_=>none)
 | .clo1 pv t q dom=>(match xs with
   |[v] =>(match zG t v with|some x=>some ([dom x/\aB2 P pv t q dom],.bool (q x),[],[])|none=>none)
   |_=>none)
 | .clo2 pv t q dom=>(match xs with
   |[v,u] =>(match zG t v,zG t u with|some x,some y=>some ([dom x y/\aB1 P pv t q dom],.int .i64 (q x y),[],[])|_,_=>none)
   |_=>none)
 |_=>none
def VP{P:Program}{T:Tab}(hT:T.Ok P){n:Nat}{σ:Sg}{fv:SV}{xs:List SV}{ps:List Prop}{r:SV}{rd:List Nat}{W:aP}(h:GP P T n σ fv xs=some (ps,r,rd,W))(hp:∀p∈ps,p):
  (Cn P σ.a fv.av (avs xs) (λr' R' W'=>r'=r.av/\bY σ rd W R' W')\/Cm P n fv.av (avs xs) (λr' R' W'=>r'=r.av/\bY σ rd W R' W'))/\r.ok:=by
 unfold GP at h;split at h
 .have:=Mc hT h hp;rw[tI,tI]at this;exact this
 .rename_i g a b;split at h
  case h_2=>cases h
  rename_i x y h1 h2;have:=Mc hT h hp;rw[tI,tI,jX h1,jX h2]at this;have e:(SV.fnp g a b).av= .p (.fn (.func g) x y):=by simp only[SV.av,h1,h2]
  rw[e];exact this
 .rename_i pv t q dom;split at h
  case h_2=>cases h
  rename_i v;split at h<;>cases h;rename_i x hx;obtain⟨h1,f,first,caps,rfl,h2⟩:=hp _ (bn.2 rfl);obtain⟨fr,h3⟩:=h2 x h1;refine⟨.inl ?_,trivial⟩;show qU P σ.a f (first.map .p++[v.av] ++caps.map .p) _;have e:first.map AV.p++[v.av] ++caps.map AV.p=(first++[t.argP x] ++caps).map .p:=by rw[Gt hx,dM,dM];rfl
  rw[e];exact EF h3 (dV _) ⟨rfl,bY.read σ []⟩
 .rename_i pv t q dom;split at h
  case h_2=>cases h
  rename_i v u;split at h<;>cases h;rename_i x y hx hy;obtain⟨h1,f,first,caps,rfl,h2⟩:=hp _ (bn.2 rfl);obtain⟨fr,h3⟩:=h2 x y h1;refine⟨.inl ?_,trivial⟩;show qU P σ.a f (first.map .p++[v.av,u.av] ++caps.map .p) _;have e:first.map AV.p++[v.av,u.av] ++caps.map AV.p=(first++[t.argP x,t.argP y] ++caps).map .p:=by rw[Gt hx,Gt hy,dM,dM];rfl
  rw[e];exact EF h3 (dV _) ⟨rfl,bY.read σ []⟩
 .cases h
structure Cx where
 P:Program
 T:Tab
 lt:TypeId->Option LT
 q:EqT
 mt:TypeId->Bool
 inl:Nat->Bool
def Sx(P:Program)(t:TypeId):Prop:=∃k e,P.underlying t=some (.map k e)/\MKey P k 2/\∀w,(zeroValue e).run P w= .ok (.bool false) w
def Cx.Ok(X:Cx):Prop:=X.T.Ok X.P/\X.q.Ok X.P/\∀t,X.mt t=true->Sx X.P t
def sQ:Option SV->SR
 |some r=>(match r.ape with|false=>some ([],r,[],[])|true=>none)
 |none=>none
def u9{o:Option SV}{ps:List Prop}{r:SV}{rd:List Nat}{W:aP}(h:sQ o=some (ps,r,rd,W)):o=some r/\r.ok/\ps=[]/\rd=[]/\W=[] :=by
 unfold sQ at h;split at h
 .split at h<;>cases h;rename_i hh;exact⟨rfl,SV.oJ hh,rfl,rfl,rfl⟩
 .cases h
def wG:Option (List Prop×SV)->SR
 |some (ps,r)=>(match r.ape with|false=>some (ps,r,[],[])|true=>none)
 |none=>none
def Ag{o:Option (List Prop×SV)}{ps:List Prop}{r:SV}{rd:List Nat}{W:aP}(h:wG o=some (ps,r,rd,W)):o=some (ps,r)/\r.ok/\rd=[]/\W=[] :=by
 unfold wG at h;split at h
 .split at h<;>cases h;rename_i hh;exact⟨rfl,SV.oJ hh,rfl,rfl⟩
 .cases h
def wF:SR->SR
 |some (ps,r,rd,W)=>(match r.ape with|false=>some (ps,r,rd,W)|true=>none)
 |none=>none
def EX{o:SR}{ps:List Prop}{r:SV}{rd:List Nat}{W:aP}(h:wF o=some (ps,r,rd,W)):o=some (ps,r,rd,W)/\r.ok:=by
 unfold wF at h;split at h
 .split at h<;>cases h;rename_i hh;exact⟨rfl,SV.oJ hh⟩
 .cases h
def SY(raw:Bool)(x:SV):SV:=match raw with
 |true=>(match x with| .nil=> .sl 0 [] |y=>y)
 |false=>x
def sop(X:Cx)(raw:Bool)(n:Nat)(o:Op)(E:SE)(σ:Sg):SR:=match o with
 | .move x=>some ([],E x,[],[])
 | .assign x=>some ([],SY raw (E x),[],[])
 | .pick c a b=>sQ (Hk (E c) (E a) (E b))
 | .alloc t=>B0 X.P σ n t
 | .box t x=>Cu σ n t (E x)
 | .build t parts=>Bz X.P t (parts.toList.map λq=>(q.1,E q.2))
 | .buildSlice t len parts=>Bh X.P σ n t len (parts.toList.map λq=>(q.1,E q.2))
 | .load t x=>wF (Ho X.P t (E x) σ)
 | .store t a x=>By X.P t (E a) (E x) σ
 | .nilCheck x=>(match C4 (E x).av with|true=>some ([],E x,[],[])|false=>none)
 | .binOp op t x y _=>wG (IH X.P X.q raw op t (E x) (E y))
 | .unOp op _ x=>wG (sun raw op (E x))
 | .convert s d x=>wG (Hr X.P raw s d (E x))
 | .makeFunc (.func f) first caps=>some ([],.fn f (first.toList.map E) (caps.toList.map E),[],[])
 | .slice t x lo hi none=>(match C9 E lo,C9 E hi with|some a,some b=>wG (G4 X.P t (E x) a b)|_,_=>none)
 | .fieldAddr t x f=>(match G8 X.P t (E x) f with|some r=>some ([],r,[],[])|none=>none)
 | .field t x f=>sQ (G7 X.P t (E x) f)
 | .indexAddr t x i=>(match G6 X.P t (E x) (E i)with|some (ps,r)=>some (ps,r,[],[])|none=>none)
 | .extract x i=>sQ (Hp (E x) i)
 | .call {callee:= .value f,args, .. }=>GP X.P X.T n σ (E f) (args.toList.map E)
 | .call {callee:= .builtin .len,args:=⟨[x]⟩,argTypes:=⟨[t]⟩}=>sQ (IG X.P t (E x))
 | .call {callee:= .builtin .append,args:=⟨[x,y]⟩,argTypes:=⟨[t,t']⟩}=>Cv X.P X.lt n t t' σ (E x) (E y)
 | .call {callee:= .builtin .min,args:=⟨[x,y]⟩, .. }=>sQ (smm min (E x) (E y))
 | .call {callee:= .builtin .max,args:=⟨[x,y]⟩, .. }=>sQ (smm max (E x) (E y))
 | .makeSlice t a b=>wF (Hm X.P X.lt σ n t (E a) (E b))
 |_=>none
def aBj{X:Cx}(hX:X.Ok){raw:Bool}{n:Nat}{o:Oper}{E:SE}{σ:Sg}(hE:∀x,(E x).ok){ps:List Prop}{r:SV}{rd:List Nat}{W:aP}(h:sop X raw n o.op E σ=some (ps,r,rd,W))(hp:∀p∈ps,p):
  AOp X.P n o E.a σ.a (λr' R' W'=>r'=r.av/\bY σ rd W R' W')/\r.ok:=by
 obtain⟨hT,hq,_⟩:=hX;generalize ho:o.op=op at h;have A:∀{R:SR},sH X.P n o E σ R->R=some (ps,r,rd,W)->AOp X.P n o E.a σ.a (λr' R' W'=>r'=r.av/\bY σ rd W R' W'):=λhs e=>hs _ _ _ _ e hp;have avl:∀l:List Operand,avs (l.map E)=l.map E.a:=λl=>by rw[jY,dU];rfl
 unfold sop at h;split at h
 .rename_i x;cases h;exact⟨by unfold AOp;rw[ho];exact⟨rfl,bY.read σ []⟩,hE x⟩
 .rename_i x;cases h;unfold SY;split
  .split
   .rename_i hx;exact⟨by unfold AOp;rw[ho];exact .inr ⟨by show(E x).av= .nil;rw[hx];rfl,rfl,bY.read σ []⟩,trivial⟩
   .exact⟨by unfold AOp;rw[ho];exact .inl ⟨rfl,bY.read σ []⟩,hE x⟩
  .exact⟨by unfold AOp;rw[ho];exact .inl ⟨rfl,bY.read σ []⟩,hE x⟩
 .obtain⟨h1,h2,rfl,rfl,rfl⟩:=u9 h;exact⟨by unfold AOp;rw[ho];exact YM h1 ⟨rfl,bY.read σ []⟩,h2⟩
 .refine⟨A (Wl ho) h,?_⟩;unfold B0 at h;split at h<;>cases h;trivial
 .refine⟨A (Z2 ho) h,?_⟩;unfold Cu at h;split at h<;>cases h;trivial
 .refine⟨A (Wh ho) h,?_⟩;unfold Bz at h;split at h
  .split at h<;>cases h;trivial
  .cases h
 .refine⟨A (VQ ho) h,?_⟩;unfold Bh at h;split at h
  .split at h
   .split at h<;>cases h;trivial
   .cases h
  .cases h
 .rename_i t x;obtain⟨h1,h2⟩:=EX h;exact⟨A (YT ho (hE x)) h1,h2⟩
 .refine⟨A (WW ho) h,?_⟩;unfold By at h;split at h
  .split at h
   .split at h
    .split at h
     .split at h<;>cases h;trivial
     .split at h<;>cases h;trivial
     .cases h
    .split at h
     .split at h<;>cases h;trivial
     .cases h
    .split at h<;>cases h;trivial
    .cases h
   .cases h
  .cases h
 .rename_i x;split at h<;>cases h;rename_i hn;exact⟨by unfold AOp;rw[ho];exact⟨hn,rfl,bY.read σ []⟩,hE x⟩
 .obtain⟨h1,h2,rfl,rfl⟩:=Ag h;exact⟨by unfold AOp;rw[ho];exact Z3 hq h1 hp ⟨rfl,bY.read σ []⟩,h2⟩
 .obtain⟨h1,h2,rfl,rfl⟩:=Ag h;exact⟨by unfold AOp;rw[ho];exact aBh h1 hp ⟨rfl,bY.read σ []⟩,h2⟩
 .obtain⟨h1,h2,rfl,rfl⟩:=Ag h;exact⟨by unfold AOp;rw[ho];exact YW h1 hp ⟨rfl,bY.read σ []⟩,h2⟩
 .cases h;refine⟨?_,trivial⟩;unfold AOp;rw[ho];refine⟨?_,bY.read σ []⟩;show _=AV.fn _ (avs _) (avs _);rw[avl,avl]
 .rename_i t x lo hi;split at h
  case h_2=>cases h
  rename_i a b ha hb;obtain⟨h1,h2,rfl,rfl⟩:=Ag h;refine⟨?_,h2⟩;unfold AOp;rw[ho];dsimp only;have key:∀(z:Option Operand) (c:Option Int) (d:Int),C9 E z=some c->loA E.a z d=some (c.getD d):=by
   intro z c d hz;cases z with
   |none=>cases hz;rfl
   |some z=>
    unfold C9 at hz;dsimp only at hz;split at hz<;>cases hz;rename_i k hk;exact aAB hk
  rw[key lo a 0 ha,key hi b _ hb];exact WX h1 hp ⟨rfl,bY.read σ []⟩
 .rename_i t x f;split at h<;>cases h;rename_i h1;have:=We h1 (K:=λr'=>r'=r.av/\bY σ [] [] [] []) ⟨rfl,bY.read σ []⟩;exact⟨by unfold AOp;rw[ho];exact this.1,this.2 (hE x)⟩
 .obtain⟨h1,h2,rfl,rfl,rfl⟩:=u9 h;exact⟨by unfold AOp;rw[ho];exact Wd h1 ⟨rfl,bY.read σ []⟩,h2⟩
 .split at h<;>cases h;rename_i h1;have:=Wb h1 hp (K:=λr'=>r'=r.av/\bY σ [] [] [] []) ⟨rfl,bY.read σ []⟩;exact⟨by unfold AOp;rw[ho];exact this.1,this.2⟩
 .obtain⟨h1,h2,rfl,rfl,rfl⟩:=u9 h;exact⟨by unfold AOp;rw[ho];exact YU h1 ⟨rfl,bY.read σ []⟩,h2⟩
 .have:=VP hT h hp;rw[avl]at this;exact⟨by unfold AOp;rw[ho];exact this.1,this.2⟩
 .obtain⟨h1,h2,rfl,rfl,rfl⟩:=u9 h;exact⟨by unfold AOp;rw[ho];exact Zz h1 ⟨rfl,bY.read σ []⟩,h2⟩
 .have:=Z4 h hp;refine⟨by unfold AOp;rw[ho];exact this,?_⟩;unfold Cv at h;split at h
  .unfold CY at h;split at h
   .split at h<;>cases h;trivial
   .cases h
  .unfold CZ at h;split at h
   .split at h
    .split at h<;>cases h;trivial
    .cases h
   .cases h
 .obtain⟨h1,h2,rfl,rfl,rfl⟩:=u9 h;exact⟨by unfold AOp;rw[ho];exact Pb h1 ⟨rfl,bY.read σ []⟩,h2⟩
 .obtain⟨h1,h2,rfl,rfl,rfl⟩:=u9 h;exact⟨by unfold AOp;rw[ho];exact Pb h1 ⟨rfl,bY.read σ []⟩,h2⟩
 .obtain⟨h1,h2⟩:=EX h;exact⟨A (YR ho) h1,h2⟩
 .cases h
end
section
variable {P:Program} {o:Oper} {E:Operand->AV} {σ:Nat->Option Ob} {n:Nat}
def Xp{c:Call}{f:Operand}{fid:FuncId}{A cells:List PV}{m ty esz:Nat}(ho:o.op= .call c)(hc:c.callee= .value f)(hfv:E f= .p (.fn (.func fid) [] []))
  (hA:dr (dL 3 σ) (c.args.toList.map E)=some A) (hfl:cells.all flat1=true) (hS:wg P fid A ty esz cells m []):bW P o E σ n (.own (sit n 0) 0 m) (bQ (cR 3 σ) (c.args.toList.map E)) [(sit n 0,some ⟨ty,esz,cells.map .p⟩)] :=by
 have hfm:f∈o.op.operands.toList:=by rw[ho];simp[ce,ju,hc]
 have ham:∀x∈c.args.toList,x∈o.op.operands.toList:=by intro x hx;rw[ho];simp[ce,ju];exact .inr (by grind)
 obtain⟨hok,he,hcalls⟩:=hS;intro C0 ρ g V w B hs hB hR hn hgn hE;have hn:=hn _ (iW n 0);have hgn:=hgn _ (iW n 0);have hcl:∀s,cls s≠n->s≠sit n 0:=λs h e=>h (by rw[e];exact iW n 0);have hargs:∀l:List Operand,(∀x∈l,x∈o.op.operands.toList)->bE ρ (bC C0 B w ρ g) (l.map E) (l.map (bJ V)):=by
  intro l;induction l with
  |nil=>intro _;simp only[po];unfold bE;rfl
  |cons x l ih=>
   intro hx;simp only[dX];unfold bE;grind
 have hall:=hargs _ ham;have hsnap:bK (λb o v=>w.cell? ⟨b,o,none⟩=some v) A (c.args.toList.map (bJ V)):=by
  obtain⟨g1,g2⟩:=o6 hA;refine bK.of _ _ (by grind) λi y hi=> ?_;have hlt:i<(c.args.toList.map E).length:=by rw[g1];exact(zZ.1 hi).1
  obtain⟨y',h5,h6⟩:=g2 i _ (dw hlt);rw[hi]at h5;cases h5;obtain⟨v,k1,k2⟩:=hall.get _ _ i _ (dw hlt);exact⟨v,k1,FW hs _ (λ_=>True) (λb o v h=>h.1) (λs ob b c _ _ _ _ o v h=>h) 3 _ _ v h6 (λs hs'=>⟨trivial,hR s (ol (List.getElem_mem hlt) hs')⟩) k2⟩
 have hvf:bJ V f= .func (.func fid) #[] #[] :=by have:=hE f hfm;rw[hfv]at this;unfold aR aY at this;obtain⟨v1,v2,h1,h2,h3⟩:=this;unfold bK at h2 h3;rw[h1,h2,h3]
 have hrun:(execOp (bJ V) o).run P w= .ok (.enter fid (c.args.toList.map (bJ V)).toArray) w:=by
  unfold execOp;rw[ho];have e2: #[] ++uc (bJ V) c.args++ #[] =(c.args.toList.map (bJ V)).toArray:=by apply p8.1;simp
  simp only[resolve,hc,hvf,ud,cr,da,dB,invoke,l5 hok,e2]
 have hlive:∀s ob b c,g s=some ob->ρ s=some (some b,c)->b<w.heap.size:=by intro s ob b c e1 e2;obtain⟨_,arr,e3⟩:=hs.at e1 e2;exact e3.lt
 unfold cQ;rw[hrun];dsimp only;refine(hcalls _ w _ (λb o v h=>h) hsnap).mono ?_;rintro e w' ⟨v,us,q,c,rfl,hbel,hys,hrow⟩;have hus:us=[] :=by have:=hys.length;simpa using this
 subst hus;have hqb:∀b,q=some b->w.heap.size<=b:=by
  intro b hb;rcases hrow with⟨h1,_⟩|⟨b',arr,h1,_,_,h4,_⟩
  .grind
  .grind
 have hold:∀b,b<w.heap.size->w'.heap[b]? =w.heap[b]? :=λb hb=>hbel.block b hb;generalize hnS:sit n 0=nS at*
 let ρ':Ren:=λs=>if s=nS then some (q,c)else ρ s
 have hρn:ρ' nS=some (q,c):=if_pos rfl;have hρs:∀s,s≠nS->ρ' s=ρ s:=λs h=>if_neg h;have hup:∀s,s≠nS->az g [(nS,some ⟨ty,esz,cells.map .p⟩)] s=g s:=by intro s h;unfold az;simp[iU,beq_eq_false_iff_ne.2 h]
 have hmono:∀b o' x,bC C0 B w ρ g b o' x->bC C0 B w' ρ' (az g [(nS,some ⟨ty,esz,cells.map .p⟩)]) b o' x:=by
  intro b o' x ⟨e1,e2,e0⟩;have hlt:=kO w ⟨b,o',none⟩ e1;refine⟨(je (hold b hlt)).trans e1,λs c' e3=> ?_,e0⟩;by_cases hsn:s=nS
  .grind
  .grind
 refine⟨_,rfl,ρ',λs hs=>hρs s (hcl s hs),hmono,?_,?_,hbel.mono hB⟩
 .refine hs.step (λs o' _ hgs=>hρs s (λh=>by grind)) (λs q' hq=>by grind) hmono ?_ ?_ λk es clock hk=>hold k (tk hk)
  .grind
  .intro s o' hso;have hsn:s=nS:=by
    rcases p9 s nS with h|h
    .grind
    .exact h
   subst hsn;simp[iU]at hso;subst hso;refine⟨q,c,hρn,?_⟩;rcases hrow with⟨h1,h2,h3,h4,h5⟩|⟨b,arr,h1,h2,h3,h4,h5,h6,h7,h8,h9⟩
   .grind
   .refine .inr ⟨b,arr,h1,cL hB h4,⟨h5,λh=>absurd h he,λ_=>⟨h6,by grind,h8⟩,λi x hi=> ?_⟩,λs' o2 c' hne hg' hr'=> ?_⟩
    .have hi:(cells.map AV.p)[i]? =some x:=hi;rw[gr]at hi;cases hci:cells[i]? with
     |none=>grind
     |some y=>
      rw[hci]at hi;simp only[eJ,fg]at hi;subst hi;obtain⟨u,k1,k2,k3⟩:=h9 i y hci;exact⟨u,k1,k2,by unfold aR;exact FC (bh.1 hfl y (List.mem_of_getElem? hci)) k3⟩
    grind
 .unfold aR;refine⟨q,c,hρn,?_⟩;rcases hrow with⟨h1,h2,h3,_⟩|⟨b,arr,h1,h2,h3,_⟩
  .exact .inl ⟨h1,h2,h3,rfl⟩
  .exact .inr ⟨b,0,c,h1,h2,h3,λ_=>rfl,λ_=>⟨rfl,rfl⟩⟩
end
noncomputable section
def As{m:Rf}{l r:List AV}(h:fm m l r):fw m (eO l) (eO r):=by
 unfold eO;cases hl:bT l with
 |some q=>
  have e:=jX hl;subst e;have:∀(q:List PV) (r:List AV),fm m (q.map .p) r->r=q.map .p:=by
   intro q;induction q with
   |nil=>intro r h;exact h
   |cons x q ih=>intro r h;obtain⟨y,r',rfl,h1,h2⟩:=h;unfold fw at h1;grind
  rw[this q r h,dV];rfl
 |none=>
  unfold fw;cases hr:bT r with
  |some q=>exact⟨r,.inr ⟨q,rfl,jX hr⟩,h⟩
  |none=>grind
def Ep{m:Rf}{l r:List AV}(h:fm m l r):fw m (kW l) (kW r):=by
 unfold kW;cases hl:bT l with
 |some q=>
  have e:=jX hl;subst e;have:∀(q:List PV) (r:List AV),fm m (q.map .p) r->r=q.map .p:=by
   intro q;induction q with
   |nil=>intro r h;exact h
   |cons x q ih=>intro r h;obtain⟨y,r',rfl,h1,h2⟩:=h;unfold fw at h1;grind
  rw[this q r h,dV];rfl
 |none=>
  unfold fw;cases hr:bT r with
  |some q=>exact⟨r,.inr ⟨q,rfl,jX hr⟩,h⟩
  |none=>grind
def eM{m:Rf}{x:PV}{y:AV}(h:y= .p x):fw m (.p x) y:=by exact h
def kQ(m:Rf):∀q:List PV,fm m (q.map .p) (q.map .p)
 |[] =>by rfl
 |x::q=>by exact⟨_,_,rfl,eM rfl,kQ m q⟩
def vF{m:Rf}{α:Type}(f g:α->AV):∀l:List α,(∀x∈l,fw m (f x) (g x))->fm m (l.map f) (l.map g)
 |[],_=>by rfl
 |x::l,h=>by
  exact⟨_,_,rfl,by grind,vF f g l (by grind)⟩
mutual
def SV.ren(f:Nat->Nat):SV->SV
 | .agg l=> .agg (sO f l)
 | .tup l=> .tup (sO f l)
 | .fn g a b=> .fn g (sO f a) (sO f b)
 | .ptr s o=> .ptr (f s) o
 | .pte s t i o=> .pte (f s) t i o
 | .own s t n=> .own (f s) t n
 | .owns s t o n=> .owns (f s) t o n
 | .ownx s n=> .ownx (f s) n
 | .ownf s t a n=> .ownf (f s) t a n
 | .ptef s t a i o=> .ptef (f s) t a i o
 | .ptf s a=> .ptf (f s) a
 | .owF s n=> .owF (f s) n
 | .mp s=> .mp (f s)
 | .any=> .any
 | .undef=> .undef
 | .nil=> .nil
 | .int k n=> .int k n
 | .bool b=> .bool b
 | .lit b=> .lit b
 | .prop p d=> .prop p d
 | .str s=> .str s
 | .lst t l=> .lst t l
 | .sl n cs=> .sl n cs
 | .pe t l i o=> .pe t l i o
 | .pro cs o=> .pro cs o
 | .fnp g a b=> .fnp g a b
 | .clo1 pv t q dom=> .clo1 pv t q dom
 | .clo2 pv t q dom=> .clo2 pv t q dom
 | .ptb F n o=> .ptb F n o
 | .junk=> .junk
def sO(f:Nat->Nat):List SV->List SV
 |[] =>[]
 |x::l=>x.ren f::sO f l
end
def wO(m:Rf)(f:Nat->Nat):Prop:=∀y a,m (inn (f y) a)=some (some (inn y a))
def wO.n{m:Rf}{f:Nat->Nat}(h:wO m f)(y:Nat):m (aO (f y))=some (some (aO y)):=h y 0
mutual
theorem OO{m:Rf}{f:Nat->Nat}(hm:wO m f):∀v:SV,fw m (v.ren f).av v.av
 | .any=>by trivial
 | .undef=>by rfl
 | .nil=>by rfl
 | .int _ _=>eM rfl
 | .bool _=>eM rfl
 | .lit _=>eM rfl
 | .prop _ _=>eM rfl
 | .str _=>eM rfl
 | .lst _ _=>eM rfl
 | .pe _ _ _ _=>eM rfl
 | .clo1 _ _ _ _=>eM rfl
 | .clo2 _ _ _ _=>eM rfl
 | .ptb _ _ _=>eM rfl
 | .junk=>eM rfl
 | .sl n cs=>by
   simp only[SV.ren,SV.av];split
   .exact eM rfl
   .trivial
 | .pro cs off=>by
   simp only[SV.ren,SV.av];split
   .exact eM rfl
   .trivial
 | .fnp g a b=>by
   simp only[SV.ren,SV.av];split
   .exact eM rfl
   .trivial
 | .agg l=>by exact As (tX hm l)
 | .tup l=>by exact Ep (tX hm l)
 | .fn g a b=>by exact⟨_,_,rfl,tX hm a,tX hm b⟩
 | .ptr s off=>by exact⟨_,hm.n s,rfl⟩
 | .pte s t i off=>by exact⟨_,hm.n s,rfl⟩
 | .ptf s a=>by exact⟨_,hm.n s,rfl⟩
 | .ptef s t a i off=>by exact⟨_,hm s (a+1),rfl⟩
 | .own s t n=>by exact .inl ⟨_,hm.n s,rfl⟩
 | .owns s t o n=>by exact .inl ⟨_,hm.n s,rfl⟩
 | .ownx s n=>by exact .inl ⟨_,hm.n s,rfl⟩
 | .owF s n=>by exact .inl ⟨_,hm.n s,rfl⟩
 | .ownf s t a n=>by exact .inl ⟨_,hm s (a+1),rfl⟩
 | .mp s=>by exact⟨_,hm.n s,rfl⟩
theorem tX{m:Rf}{f:Nat->Nat}(hm:wO m f):∀l:List SV,fm m (avs (sO f l)) (avs l)
 |[] =>by rfl
 |x::l=>by exact⟨_,_,rfl,OO hm x,tX hm l⟩
end
def SOb.ren(f:Nat->Nat):SOb->SOb
 | .box ty cs=> .box ty (sO f cs)
 | .arr ty ez cs=> .arr ty ez (sO f cs)
 | .row ty t l=> .row ty t l
 | .fam ty ity t L ov=> .fam ty ity t L (ov.map λq=>(q.1,q.2.ren f))
 | .mp ks=> .mp ks
def oC:SOb->Bool
 | .box ty _=> !(bF ty 0)
 | .fam _ _ _ _ ov=>ov.isEmpty
 | .arr _ ez _=> !(bF ez 0)
 |_=>true
def Wv{m:Rf}{f:Nat->Nat}(hm:wO m f)(k:Nat){o:SOb}(ho:oC o=true):qj m ((o.ren f).ob (f k)) (o.ob k):=by
 cases o with
 |box ty cs=>exact⟨rfl,rfl,tX hm cs⟩
 |arr ty ez cs=>exact⟨rfl,rfl,tX hm cs⟩
 |row ty t l=>exact⟨rfl,rfl,kQ m _⟩
 |mp ks=>refine⟨rfl,rfl,?_⟩;show fm m (gZ (gv ks)) (gZ (gv ks));rw[tR];exact kQ m _
 |fam ty ity t L ov=>
  have:ov=[] :=JB.1 ho;subst this;refine⟨rfl,rfl,vF _ _ _ λi _=> ?_⟩;exact .inl ⟨_,hm k (i+1),rfl⟩
def sL(x:Nat)(ob:SOb):List (Nat×Option Ob):=(aO x,some (ob.ob x))::match ob with
 | .fam _ ity t L _=>(bM L.length).map λa=>(inn x (a+1),some ⟨ity,t.w,(t.enc (L.getD a [])).map .p⟩)
 |_=>[]
def KZ{α:Type}{g0:Nat->Nat}(hg:∀a b,g0 a=g0 b->a=b)(h0:Nat->α):∀(l:List Nat) (a:Nat),(l.map λi=>(g0 i,h0 i)).lookup (g0 a)=if a∈l then some (h0 a)else none
 |[],a=>rfl
 |i::l,a=>by
  rw[dX,dY,KZ hg h0 l a];grind
def EB{α:Type}{s:Nat}:∀{l:List (Nat×α)},(∀q∈l,q.1≠s)->l.lookup s=none
 |[],_=>rfl
 |q::l,h=>by grind
def EQ{α:Type}{s:Nat}:∀{l r:List (Nat×α)},(l++r).lookup s=(match l.lookup s with|some x=>some x|none=>r.lookup s)
 |[],r=>rfl
 |q::l,r=>by
  grind
def Y6{ob:SOb}(ho:oC ob=true)(a:Nat):ob.inner a=(match ob with| .fam _ ity t L _=>if a<L.length then some ⟨ity,t.w,(t.enc (L.getD a [])).map .p⟩else none|_=>none):=by
 cases ob<;>try rfl
 rename_i ty ity t L ov;have:ov=[] :=JB.1 ho;subst this;show((L[a]?).map λl=>(⟨ity,t.w,(t.enc l).map .p⟩:Ob))=_;grind
def WY(x y:Nat)(ob:SOb):(sL x ob).lookup (aO y)=if y=x then some (some (ob.ob x))else none:=by
 unfold sL;rw[dY];by_cases e:y=x
 .grind
 .rw[beq_eq_false_iff_ne.2 (λh=>e (l8 h)),if_neg e];refine EB λq hq=> ?_;split at hq
  .obtain⟨a,_,rfl⟩:=bR.1 hq;exact λh=>by have:=(fJ h).2;omega
  .cases hq
def YP(x y a:Nat){ob:SOb}(ho:oC ob=true):(sL x ob).lookup (inn y (a+1))=if y=x then(ob.inner a).map some else none:=by
 have e0:inn y (a+1)≠aO x:=λh=>by have:=(fJ h).2;omega
 rw[Y6 ho a];unfold sL;rw[dY,beq_eq_false_iff_ne.2 e0];cases ob with
 |fam ty ity t L ov=>
  by_cases e:y=x
  .subst e;rw[if_pos rfl,KZ (g0:=λa=>inn y (a+1)) (λa b h=>by have:=(fJ h).2;omega)];grind
  .rw[if_neg e];refine EB λq hq=> ?_;obtain⟨b,_,rfl⟩:=bR.1 hq;exact λh=>e (fJ h).1.symm
 |_=>dsimp only;split<;>rfl
def Zy(x:Nat)(ob:SOb){s:Nat}(h:∀x a,s≠inn x a):(sL x ob).lookup s=none:=by
 refine EB λq hq=> ?_;rcases bI.1 hq with rfl|hq
 .exact λe=>h x 0 e.symm
 grind
def qi(W:List (Nat×SOb)):List (Nat×Option Ob):=W.flatMap λq=>sL q.1 q.2
def xY(y:Nat):∀W:List (Nat×SOb),(qi W).lookup (aO y)=(W.lookup y).map λob=>some (ob.ob y)
 |[] =>rfl
 |q::W=>by
  unfold qi;rw[ff,EQ,WY,dY];by_cases e:y=q.1
  .grind
  .rw[if_neg e,beq_eq_false_iff_ne.2 e];exact xY y W
def xm(y a:Nat):∀{W:List (Nat×SOb)},(∀q∈W,oC q.2=true)->(W.map (·.1)).Nodup->(qi W).lookup (inn y (a+1))=((W.lookup y).bind (SOb.inner a)).map some
 |[],_,_=>rfl
 |q::W,h,hn=>by
  rw[dX,List.nodup_cons]at hn;have ih:=xm y a (W:=W) (by grind) hn.2;unfold qi;rw[ff,EQ,YP _ _ _ (by grind),dY];by_cases e:y=q.1
  .rw[if_pos e,beq_iff_eq.2 e];have hno:W.lookup y=none:=by grind
   cases hi:q.2.inner a with
   |some ob=>simp[hi]
   |none=>
    have ih':(List.flatMap (λq=>sL q.1 q.2) W).lookup (inn y (a+1))=none:=by have:=ih;unfold qi at this;rw[this,hno];rfl
    grind
  .rw[if_neg e,beq_eq_false_iff_ne.2 e];exact ih
def xw{s:Nat}(h:∀x a,s≠inn x a):∀W:List (Nat×SOb),(qi W).lookup s=none
 |[] =>rfl
 |q::W=>by
  unfold qi;rw[ff,EQ,Zy _ _ h];exact xw h W
def Jw(W:List (Nat×SOb))(y:Nat):((W.map λq=>(q.1,some q.2)).lookup y:Option (Option SOb))=(W.lookup y).map some:=by
 induction W with
 |nil=>rfl
 |cons q W ih=>
  grind
def bY.news{σ:Sg}{W:List (Nat×SOb)}(hW:∀q∈W,oC q.2=true)(hn:(W.map (·.1)).Nodup)(hσ:∀q∈W,σ q.1=none):bY σ [] (W.map λq=>(q.1,some q.2)) [] (qi W):=by
 refine⟨λs hs=>by grind,λs hs=> ?_,?_⟩
 .obtain⟨⟨t,ob⟩,hq,rfl⟩:=bR.1 hs;obtain⟨q,hq1,hq2⟩:=dG.1 hq;have:cls t=ncl q.1:=by
   unfold sL at hq2;rcases bI.1 hq2 with e|hq2
   .cases e;exact fO _ 0
   .split at hq2
    .obtain⟨a,_,e⟩:=bR.1 hq2;cases e;exact fO _ _
    .cases hq2
  grind
 .funext s
  unfold az;rcases kq s with⟨y,rfl⟩|⟨y,b,rfl⟩|hns
  .rw[Sg.cP,Sg.cP,xY];unfold aP.up;rw[Jw];cases hl:W.lookup y with
   |none=>rfl
   |some ob=>rfl
  .rw[Sg.fX,Sg.fX,xm y b hW hn];unfold aP.up;rw[Jw];cases hl:W.lookup y with
   |none=>rfl
   |some ob=>
    show(match((SOb.inner b ob).map some:Option (Option Ob))with|some x=>x|none=>(σ y).bind (SOb.inner b))=SOb.inner b ob;cases hi:SOb.inner b ob with
    |some o=>rfl
    |none=>grind
  .rw[Sg.kI _ hns,Sg.kI _ hns,xw hns]
def mu(n y:Nat):Nat:=n+NM*(y+1)
def muR(n:Nat):Rf:=λs=>if inn (nm s) (sub s)=s then(if mu n (nm s/NM-1)=nm s then some (some (inn (nm s/NM-1) (sub s)))else none)else none
def HN{n:Nat}(hn:n<NM)(y:Nat):mu n y/NM-1=y:=by unfold mu;rw[Nat.add_mul_div_left _ _ (by grind),Nat.div_eq_of_lt hn];omega
def QY{n:Nat}(hn:n<NM)(y:Nat):ncl (mu n y)=n:=by unfold ncl mu;rw[Nat.add_mul_mod_self_left,dh hn]
def aBD{n y z:Nat}(hn:n<NM)(h:mu n y=mu n z):y=z:=by rw[<-HN hn y,h,HN hn z]
def Az{n:Nat}(hn:n<NM):wO (muR n) (mu n):=by intro y a;unfold muR;rw[tj,tc,if_pos rfl,HN hn,if_pos rfl]
def Fl{n s:Nat}{x:Option Nat}(h:muR n s=some x):∃y a,s=inn (mu n y) a/\x=some (inn y a):=by
 unfold muR at h;split at h
 .rename_i h1;split at h
  .rename_i h2;cases h;grind
  .cases h
 .cases h
def wR:List Nat->Nat->Bool
 |[],_=>false
 |x::l,s=>match bF s x with|true=>true|false=>wR l s
def BR{s:Nat}:∀{l:List Nat},wR l s=false->s∉l
 |[],_=>cq
 |x::l,h=>by
  unfold wR at h;cases hb:bF s x with
  |true=>grind
  |false=>
   rw[hb]at h;intro hm;rcases bI.1 hm with rfl|hm
   .simp_all
   .exact BR h hm
def CP(σ:Sg)(n:Nat):aP->Option (List (Nat×SOb))
 |[] =>some []
 |(y,some ob)::W=>(match oC ob,σ (mu n y),wR (W.map (·.1)) y,CP σ n W with
  |true,none,false,some l=>some ((mu n y,ob.ren (mu n))::l)
  |_,_,_,_=>none)
 |_::_=>none
def Yf{f:Nat->Nat}{ob:SOb}(h:oC ob=true):oC (ob.ren f)=true:=by
 cases ob<;>first|exact h|skip
 rename_i ty ity t L ov;have:ov=[] :=JB.1 h;subst this;rfl
def Wu{f:Nat->Nat}{ob:SOb}(h:oC ob=true)(a:Nat):(ob.ren f).inner a=ob.inner a:=by
 cases ob<;>first|rfl|skip
 rename_i ty ity t L ov;have:ov=[] :=JB.1 h;subst this;rfl
def KA{σ:Sg}{n:Nat}(hn:n<NM):∀{W:aP} {l:List (Nat×SOb)},CP σ n W=some l->
  (∀q∈l,oC q.2=true/\σ q.1=none)/\(l.map (·.1)).Nodup/\l.map (·.1)=W.map (λq=>mu n q.1)/\∀z obr,l.lookup z=some obr->∃y ob,z=mu n y/\obr=ob.ren (mu n)/\oC ob=true/\aP.at W y=some ob
 |[],l,h=>by cases h;grind
 |(y,none)::W,l,h=>by cases h
 |(y,some ob)::W,l,h=>by
  unfold CP at h;split at h<;>cases h;rename_i l' h1 h2 h3 h4;obtain⟨g1,g2,g3,g4⟩:=KA hn h4;have hy:=BR h3;have hnot:mu n y∉l'.map (·.1):=by rw[g3];intro hm;obtain⟨q,hq,e⟩:=bR.1 hm;exact hy (by rw[<-aBD hn e];grind)
  refine⟨λq hq=> ?_,?_,?_,?_⟩
  .rcases bI.1 hq with rfl|hq
   .exact⟨Yf h1,h2⟩
   grind
  .grind
  .grind
  .intro z obr hz;rw[dY]at hz;by_cases e:z=mu n y
   .rw[beq_iff_eq.2 e]at hz;cases hz;exact⟨y,ob,e,rfl,h1,by unfold aP.at;simp_all⟩
   .rw[beq_eq_false_iff_ne.2 e]at hz;obtain⟨y2,ob2,k1,k2,k3,k4⟩:=g4 z obr hz;unfold aP.at;have:bF y2 y=false:=by
     cases hb:bF y2 y with
     |false=>rfl
     |true=>simp_all
    grind
def wX:SV->Option Nat
 | .fnp f [] [] =>some f
 |_=>none
def Hg(X:Cx)(n:Nat)(σ:Sg)(fv:SV)(xs:List SV):SR:=match wX fv with
 |none=>none
 |some f=>(match X.T f with
  |some ⟨_,dec,pre,.tree res obs⟩=>(match bT (avs xs),dec xs,i5 n NM with
   |some _,some x,true=>(match CP σ n (obs x)with
    |some l=>some (pre x,(res x).ren (mu n),[],l.map λq=>(q.1,some q.2))
    |none=>none)
   |_,_,_=>none)
  |_=>none)
def Bn{fv:SV}{f:Nat}(h:wX fv=some f):fv.av= .p (.fn (.func f) [] []):=by unfold wX at h;split at h<;>cases h;rfl
def nJ(P:Program)(n:Nat)(o:Oper)(E:SE)(σ:Sg)(R:SR):Prop:=
 ∀ps r rd W,R=some (ps,r,rd,W)->(∀p∈ps,p)->(∃R' W',bW P o E.a σ.a n r.av R' W'/\bY σ rd W R' W')/\r.ok
def YI{X:Cx}(hX:X.Ok){n:Nat}{o:Oper}{E:SE}{σ:Sg}{c:Call}{f:Operand}(ho:o.op= .call c)(hc:c.callee= .value f):nJ X.P n o E σ (wF (Hg X n σ (E f) (c.args.toList.map E))):=by
 intro ps r rd W h hp;obtain⟨h,hr⟩:=EX h;refine⟨?_,hr⟩;unfold Hg at h;split at h
 .cases h
 rename_i fid hf;split at h
 case h_2=>cases h
 rename_i Y dec pre res obs hT;split at h
 case h_2=>cases h
 rename_i A' x hA' hx hn;split at h<;>cases h;rename_i l hl;have hn:n<NM:=qB hn;obtain⟨A,h1,h2⟩:=hX.1 fid _ hT _ x hx hp;obtain⟨g1,g2,g3,g4⟩:=KA hn hl;have avl:avs (c.args.toList.map E)=c.args.toList.map E.a:=by rw[jY,dU];rfl
 refine⟨[],qi l,?_,bY.news (by grind) g2 (by grind)⟩;have hinner:∀{ob:SOb} {a:Nat} {o':Ob},ob.inner a=some o'->∃(ity:TypeId) (wd:Nat) (q:List PV),wd≠0/\o'=⟨ity,wd,q.map .p⟩:=by
  intro ob a o' hi;cases ob<;>try (cases hi;done)
  rename_i ty ity t L ov;unfold SOb.inner at hi;dsimp only at hi;split at hi
  .cases hi
  .cases hL:L[a]? with
   |none=>grind
   |some r=>rw[hL]at hi;cases hi;exact⟨ity,t.w,_,oh t.lH,rfl⟩
 have hcls:∀z∈l.map (·.1),ncl z=n:=by intro z hz;rw[g3]at hz;obtain⟨q,_,rfl⟩:=bR.1 hz;exact QY hn _
 refine Xm (A:=A) (m1:=muR n) ho hc (by exact Bn hf) (by rw[<-avl,h1,dV]) h2 ?_ ?_ ⟨?_,?_⟩ ?_ (OO (Az hn) _)
 .intro s x hs;obtain⟨y,a,rfl,_⟩:=Fl hs;rw[fO,QY hn]
 .intro s hs;rcases kq s with⟨z,rfl⟩|⟨z,b,rfl⟩|hno
  .rw[xY]at hs|-;refine⟨by rw[show cls (aO z)=ncl z from fO z 0];grind,?_⟩;cases hl2:l.lookup z with
   |none=>grind
   |some ob=>simp
  .rw[xm z b (by grind) g2]at hs|-;refine⟨by rw[fO];grind,?_⟩;cases(l.lookup z).bind (SOb.inner b)<;>simp
  .exact absurd (xw hno l) hs
 .intro s s' o1 e1 e2;obtain⟨y,a,rfl,k1⟩:=Fl e1;obtain⟨y',a',rfl,k2⟩:=Fl e2;rw[nT k1]at k2;obtain⟨rfl,rfl⟩:=fJ (nT k2);rfl
 .intro s ob' hs;dsimp only at hs;rcases kq s with⟨z,rfl⟩|⟨z,b,rfl⟩|hno
  .rw[xY]at hs;cases hl2:l.lookup z with
   |none=>grind
   |some obr=>
    rw[hl2]at hs;cases hs;obtain⟨y,ob,rfl,rfl,k3,k4⟩:=g4 z obr hl2;rw[(Az hn).n y];exact⟨ob.ob y,by rw[Sg.cP,k4];rfl,Wv (Az hn) y k3⟩
  .rw[xm z b (by grind) g2]at hs;cases hl2:l.lookup z with
   |none=>grind
   |some obr=>
    rw[hl2]at hs;obtain⟨y,ob,rfl,rfl,k3,k4⟩:=g4 z obr hl2;have hs:((SOb.inner b (ob.ren (mu n))).map some).join=some ob':=hs;rw[Wu k3]at hs;cases hi:ob.inner b with
    |none=>grind
    |some o'=>
     rw[hi]at hs;cases hs;rw[Az hn y (b+1)];refine⟨ob',by rw[Sg.fX,k4];exact hi,?_⟩;obtain⟨ity,wd,q,_,rfl⟩:=hinner hi;exact⟨rfl,rfl,kQ _ q⟩
  .rw[xw hno]at hs;cases hs
 .intro s ob' hs;rcases kq s with⟨z,rfl⟩|⟨z,b,rfl⟩|hno
  .rw[xY]at hs;cases hl2:l.lookup z with
   |none=>grind
   |some obr=>
    rw[hl2]at hs;cases hs;obtain⟨y,ob,rfl,rfl,k3,k4⟩:=g4 z obr hl2;cases ob with
    |box ty cs=>
     intro⟨_,e⟩;subst e;cases k3
    |arr ty ez cs=>
     intro⟨e,_⟩;subst e;cases k3
    |row ty t l=>intro⟨e,_⟩;exact absurd e (oh t.lH)
    |fam ty ity t L ov=>intro⟨e,_⟩;cases e
    |mp ks=>intro⟨_,e⟩;cases e
  .rw[xm z b (by grind) g2]at hs;cases hb:(l.lookup z).bind (SOb.inner b)with
   |none=>grind
   |some o'=>
    rw[hb]at hs;obtain⟨ob,_,hi⟩:=rD.1 hb;grind
  .rw[xw hno]at hs;cases hs
def lK(f:SV->Option SV):List SV->Option (List SV)
 |[] =>some []
 |x::l=>(match f x,lK f l with|some y,some m=>some (y::m)|_,_=>none)
def lT:Nat->Sg->SV->Option SV
 |_,_,.nil=>some (.sl 0 [])
 |_,_,.own .. =>some .junk
 |_,_,.owns .. =>some .junk
 |_,_,.ownx .. =>some .junk
 |_,_,.owF .. =>some .junk
 |_,_,.ownf .. =>some .junk
 |_,_,.any=>some .junk
 |0,_,.ptr .. =>some .junk
 |d+1,σ,.ptr s off=>(match σ s with
  |some (.box _ cs)=>(match lK (lT d σ) cs with|some m=>some (.pro m off)|none=>none)
  |_=>none)
 |d+1,σ,.agg l=>(match lK (lT d σ) l with|some m=>some (.agg m)|none=>none)
 |d+1,σ,.fn f a b=>(match lK (lT d σ) a,lK (lT d σ) b with|some x,some y=>some (.fnp f x y)|_,_=>none)
 |_,_,x=>(match x.av with| .p _=>some x|_=>none)
def iY:Nat->Sg->SV->List Nat
 |0,_,_=>[]
 |d+1,σ,.ptr s _=>s::(match σ s with|some (.box _ cs)=>bQ (iY d σ) cs|_=>[])
 |d+1,σ,.agg l=>bQ (iY d σ) l
 |d+1,σ,.fn _ a b=>bQ (iY d σ) a++bQ (iY d σ) b
 |_,_,_=>[]
def GO(d:Nat)(σ:Nat->Option Ob)(x:PV):iO d σ (.p x)=some x:=by cases d<;>rfl
def Ph(d:Nat)(σ:Nat->Option Ob):∀l:List PV,dr (iO d σ) (l.map .p)=some l
 |[] =>rfl
 |x::l=>by simp only[dX,dr,GO,Ph d σ l]
def GT(d:Nat)(σ:Nat->Option Ob)(x:PV):fo d σ (.p x)=[] :=by cases d<;>rfl
def PA(d:Nat)(σ:Nat->Option Ob):∀l:List PV,bQ (fo d σ) (l.map .p)=[]
 |[] =>rfl
 |x::l=>by simp only[dX,bQ,GT,PA d σ l,List.append_nil]
def UY{d:Nat}{σ:Sg}{x:SV}{y:SV}(h:(match x.av with| .p _=>some x|_=>none)=some y):(∃q,iO d σ.a x.av=some q/\y.av= .p q)/\fo d σ.a x.av=[] :=by split at h<;>cases h;rename_i q e;rw[e];exact⟨⟨q,GO _ _ _,rfl⟩,GT _ _ _⟩
def KI{d:Nat}{σ:Sg}{x:SV}{y:SV}(h:(match x.av with| .p _=>some x|_=>none)=some y)(hr:iY d σ x=[]):(∃q,iO d σ.a x.av=some q/\y.av= .p q)/\fo d σ.a x.av=(iY d σ x).map aO:=by rw[hr];exact UY h
def JOk(d:Nat)(σ:Sg):Prop:=∀x y,lT d σ x=some y->(∃q,iO d σ.a x.av=some q/\y.av= .p q)/\fo d σ.a x.av=(iY d σ x).map aO
def qN{d:Nat}{σ:Sg}(hf:JOk d σ):∀{l m:List SV},lK (lT d σ) l=some m->(∃q,dr (iO d σ.a) (avs l)=some q/\avs m=q.map .p)/\bQ (fo d σ.a) (avs l)=(bQ (iY d σ) l).map aO
 |[],m,h=>by cases h;exact⟨⟨[],rfl,rfl⟩,rfl⟩
 |x::l,m,h=>by
  unfold lK at h;split at h<;>cases h;rename_i y m' h1 h2;obtain⟨⟨u,e1,e2⟩,e3⟩:=hf x y h1;obtain⟨⟨v,e4,e5⟩,e6⟩:=qN hf h2;refine⟨⟨u::v,?_,by rw[avs,e2,e5];rfl⟩,?_⟩
  .rw[avs,dr,e1,e4]
  .rw[avs,bQ,bQ,e3,e6,dM]
def Al{σ:Sg}:∀d:Nat,JOk d σ:=by
 intro d;induction d with
 |zero=>
  intro x y h;cases x<;>first
   |(change some (SV.sl 0 [])=some y at h;cases h;exact⟨⟨.sl 0 [],rfl,rfl⟩,rfl⟩)
   |(change some SV.junk=some y at h;cases h;exact⟨⟨.junk,rfl,rfl⟩,rfl⟩)
   |exact KI h rfl
 |succ d ih=>
  intro x y h;cases x with
  |nil=>cases h;exact⟨⟨.sl 0 [],rfl,rfl⟩,rfl⟩
  |own s t n=>cases h;exact⟨⟨.junk,rfl,rfl⟩,rfl⟩
  |owns s t o n=>cases h;exact⟨⟨.junk,rfl,rfl⟩,rfl⟩
  |ownx s n=>cases h;exact⟨⟨.junk,rfl,rfl⟩,rfl⟩
  |owF s n=>cases h;exact⟨⟨.junk,rfl,rfl⟩,rfl⟩
  |ownf s t a n=>cases h;exact⟨⟨.junk,rfl,rfl⟩,rfl⟩
  |any=>cases h;exact⟨⟨.junk,rfl,rfl⟩,rfl⟩
  |ptr s off=>
   change (match σ s with|some (.box _ cs)=>(match lK (lT d σ) cs with|some m=>some (SV.pro m off)|none=>none)|_=>none)=_ at h;split at h
   case h_2=>cases h
   rename_i ty cs hs;split at h<;>cases h;rename_i m hm;obtain⟨⟨q,e1,e2⟩,e3⟩:=qN ih hm;have e0:Sg.a σ (aO s)=some ⟨ty,0,avs cs⟩:=by rw[Sg.cP,hs];rfl
   refine⟨⟨.pro q off,?_,by show(match bT (avs m)with|some q=>AV.p (.pro q off)|none=> .any)=_;rw[e2,dV]⟩,?_⟩
   .show iO (d+1) (Sg.a σ) (.ptr (aO s) off)=_;unfold iO;grind
   .show fo (d+1) (Sg.a σ) (.ptr (aO s) off)=_;unfold fo iY;grind
  |agg l=>
   change (match lK (lT d σ) l with|some m=>some (SV.agg m)|none=>none)=_ at h;split at h<;>cases h;rename_i m hm;obtain⟨⟨q,e1,e2⟩,e3⟩:=qN ih hm;refine⟨⟨.agg q,?_,by show eO (avs m)=_;rw[e2,s9]⟩,?_⟩
   .show iO (d+1) (Sg.a σ) (eO (avs l))=_;unfold eO;cases hq:bT (avs l)with
    |some q'=>
     rw[jX hq,Ph]at e1;cases e1;exact GO _ _ _
    |none=>unfold iO;rw[e1];rfl
   .show fo (d+1) (Sg.a σ) (eO (avs l))=(bQ (iY d σ) l).map aO;rw[<-e3];unfold eO;cases hq:bT (avs l)with
    |some q'=>rw[jX hq,PA];exact GT _ _ _
    |none=>rfl
  |fn f a b=>
   change (match lK (lT d σ) a,lK (lT d σ) b with|some x,some y=>some (SV.fnp f x y)|_,_=>none)=_ at h;split at h<;>cases h;rename_i x y h1 h2;obtain⟨⟨u,e1,e2⟩,e3⟩:=qN ih h1;obtain⟨⟨v,e4,e5⟩,e6⟩:=qN ih h2;refine⟨⟨.fn (.func f) u v,?_,by show(match bT (avs x),bT (avs y)with|some x,some y=>AV.p (.fn (.func f) x y)|_,_=> .any)=_;rw[e2,e5,dV,dV]⟩,?_⟩
   .show iO (d+1) (Sg.a σ) (.fn (.func f) (avs a) (avs b))=_;unfold iO;grind
   .show bQ (fo d σ.a) (avs a)++bQ (fo d σ.a) (avs b)=(bQ (iY d σ) a++bQ (iY d σ) b).map aO;grind
  |_=>exact KI h rfl
def Jv(l:List Nat):inC (l.map aO) (l.map ncl):=by intro s hs;obtain⟨x,hx,rfl⟩:=bR.1 hs;rw[show cls (aO x)=ncl x from fO x 0];grind
def sD:LT->Bool
 | .R| .Q=>false
 |_=>true
def FB{t:LT}(h:sD t=true)(l:List t.ty):(t.enc l).all flat1=true:=by
 refine bh.2 λx hx=> ?_;obtain⟨e,_,hx⟩:=dG.1 hx;cases t<;>first|(cases h;done)|skip
 all_goals (simp[LT.rowP]at hx;rcases hx with rfl|rfl|rfl|rfl<;>rfl)
def bY.rset{σ:Sg}{z a:Nat}{ty ity:TypeId}{lt:LT}{L:List (List lt.ty)}{ov:List (Nat×SV)}{l':List lt.ty}{rd R:List Nat}(hs:σ z=some (.fam ty ity lt L ov))(ho:ov.lookup a=none)(ha:a<L.length)(hl:l'.length=(L.getD a []).length)(hR:inC R (rd.map ncl)):
  bY σ rd [(z,some (.fam ty ity lt (L.set a l') ov))] R [(inn z (a+1),some ⟨ity,lt.w,(lt.enc l').map .p⟩)] :=by
 refine⟨hR,λs hm=> ?_,?_⟩
 .have hm:s=inn z (a+1):=by simpa using hm
  subst hm;rw[fO];grind
 .funext s
  unfold az;rcases kq s with⟨y,rfl⟩|⟨y,b,rfl⟩|hno
  .rw[Sg.cP,Sg.cP,dY,beq_eq_false_iff_ne.2 (show aO y≠inn z (a+1)from λh=>by have:=(fJ h).2;omega)];unfold aP.up;rw[dY];by_cases e:y=z
   .subst e;rw[beq_iff_eq.2 rfl,hs];show some (⟨ty,1,_⟩:Ob)=some ⟨ty,1,_⟩
    congr 2
    rw[List.length_set];unfold jJ;grind
   grind
  .rw[Sg.fX,Sg.fX,dY];unfold aP.up;rw[dY];by_cases e:y=z
   .subst e;rw[beq_iff_eq.2 rfl,hs];by_cases hb:b=a
    .subst hb;rw[beq_iff_eq.2 rfl];unfold SOb.inner;grind
    .rw[beq_eq_false_iff_ne.2 (show inn y (b+1)≠inn y (a+1)from λh=>hb (by have:=(fJ h).2;omega))];unfold SOb.inner;grind
   .rw[beq_eq_false_iff_ne.2 e,beq_eq_false_iff_ne.2 (show inn y (b+1)≠inn z (a+1)from λh=>e (fJ h).1)];rfl
  .rw[Sg.kI _ hno,Sg.kI _ hno,dY,beq_eq_false_iff_ne.2 (hno z (a+1))];rfl
def Hi(X:Cx)(n:Nat)(σ:Sg)(fv:SV)(xs:List SV):SR:=match wX fv with
 |none=>none
 |some f=>(match X.T f with
  |some ⟨_,dec,pre,.rowB t ty l'⟩=>(match xs with
   | .own s _ m::rest=>(match σ s,lK (lT 3 σ) rest,frs σ n,wR (bQ (iY 3 σ) rest) s with
     |some (.row ty' t' l),some bs,true,false=>(match decEq t' t,bF ty' ty with
      | .isTrue h,true=>(match dec (.lst t (h▸l)::bs)with
        |some x=>some ((m=l.length)::(0<m)::pre x,.own n t (l' x).length,s::bQ (iY 3 σ) rest,[(s,none),(n,some (.row ty t (l' x)))])
        |none=>none)
      |_,_=>none)
     |_,_,_,_=>none)
   | .ownf z _ a m::rest=>(match σ z,lK (lT 3 σ) rest,frs σ n with
     |some (.fam tyo ity t' L ov),some bs,true=>(match decEq t' t,bF ity ty with
      | .isTrue h,true=>(match dec (.lst t ((h▸L:List (List t.ty)).getD a [])::bs)with
        |some x=>some ((a<L.length)::(m=(L.getD a []).length)::(0<m)::(nC ov a++pre x),.own n t (l' x).length,z::bQ (iY 3 σ) rest,[(z,some (.fam tyo ity t' L ((a,.ownf z t' a m)::ov))),(n,some (.row ty t (l' x)))])
        |none=>none)
      |_,_=>none)
     |_,_,_=>none)
   |_=>none)
  |_=>none)
def Zf(x:SV)(l:List SV):avs (x::l)=x.av::avs l:=rfl
def YL{X:Cx}(hX:X.Ok){n:Nat}{o:Oper}{E:SE}{σ:Sg}{c:Call}{f:Operand}(ho:o.op= .call c)(hc:c.callee= .value f):nJ X.P n o E σ (Hi X n σ (E f) (c.args.toList.map E)):=by
 intro ps r rd W h hp;unfold Hi at h;split at h
 .cases h
 rename_i fid hf;split at h
 case h_2=>cases h
 rename_i Y dec pre t ty l' hT;have hfv:E.a f= .p (.fn (.func fid) [] []):=Bn hf;have avl:c.args.toList.map E.a=avs (c.args.toList.map E):=by rw[jY,dU];rfl
 have hC:=hX.1 fid _ hT;split at h
 .rename_i s lt m rest hxs;split at h
  case h_2=>cases h
  rename_i ty' t' l bs hs hbs hfr hmem;split at h
  case h_2=>cases h
  rename_i ht hty hb;subst ht;split at h<;>cases h;rename_i x hx;have hb:=dN hb;subst hb;have e1:m=l.length:=hp _ (by grind);have e2:0<m:=hp _ (by grind);obtain⟨A,h1,h2⟩:=hC l bs x hx (by grind);obtain⟨⟨q,k1,k2⟩,k3⟩:=qN (Al 3) hbs;have hqA:q=A:=by have:=congrArg bT (k2.symm.trans h1);rw[dV,dV]at this;cases this;rfl
  subst hqA;obtain⟨hn1,hn2⟩:=ms hfr;subst e1;refine⟨⟨(s::bQ (iY 3 σ) rest).map aO,aP.sto [(s,none),(n,some (.row ty' t' (l' x)))],?_,?_⟩,trivial⟩
  rotate_left
  .exact bY.flat (rd:=s::bQ (iY 3 σ) rest) (W:=[(s,none),(n,some (.row ty' t' (l' x)))]) λq hq=>by
    rcases bI.1 hq with rfl|hq
    .rw[hs];exact⟨rfl,rfl⟩
    .rw[bn.1 hq,hn2];exact⟨rfl,rfl⟩
  have:=MC (σ:=σ.a) (n:=n) (k:=l.length) (s:=aO s) (rest:=avs rest) (A:=q) ho hc hfv (by rw[avl,hxs];rfl) (by rw[Sg.cP,hs];rfl) (oh t'.lH) e2 k1 (by rw[k3];intro hm;obtain⟨y,hy,e⟩:=bR.1 hm;exact BR hmem (by rw[<-l8 e];exact hy)) h2
  rw[k3]at this;show bW _ _ _ _ _ _ (aO s::_) [(aO s,none),(aO n,some _)];show bW _ _ _ _ _ (.own (aO n) 0 _) _ _;rw[hn1];exact this
 .rename_i z lt a m rest hxs;split at h
  case h_2=>cases h
  rename_i tyo ity t' L ov bs hs hbs hfr;split at h
  case h_2=>cases h
  rename_i ht hty hb;subst ht;split at h<;>cases h;rename_i x hx;have hb:=dN hb;subst hb;have e0:a<L.length:=hp _ (by grind);have e1:m=(L.getD a []).length:=hp _ (by grind);have e2:0<m:=hp _ (by grind);have hov:ov.lookup a=none:=tQ λp hq=>hp p (by grind);obtain⟨A,h1,h2⟩:=hC _ bs x hx (λp hq=>hp p (by grind));obtain⟨⟨q,k1,k2⟩,k3⟩:=qN (Al 3) hbs;have hqA:q=A:=by have:=congrArg bT (k2.symm.trans h1);rw[dV,dV]at this;cases this;rfl
  subst hqA;obtain⟨hn1,hn2⟩:=ms hfr;have hob:Sg.a σ (inn z (a+1))=some ⟨ity,t'.w,(t'.enc (L.getD a [])).map .p⟩:=by rw[Sg.fX,hs];show SOb.inner a (.fam tyo ity t' L ov)=_;unfold SOb.inner;dsimp only;rw[hov,eI,dw e0];rfl
  refine⟨⟨inn z (a+1)::bQ (fo 3 σ.a) (avs rest),_,?_,bY.take (n:=n) (ob:= .row ity t' (l' x)) hs hov e1 hn2 rfl ?_⟩,trivial⟩
  .have:=MC (σ:=σ.a) (n:=n) (k:=m) (s:=inn z (a+1)) (rest:=avs rest) (A:=q) ho hc hfv (by rw[avl,hxs];rfl) hob (oh t'.lH) e2 k1 (by rw[k3];intro hm;obtain⟨y,hy,e⟩:=bR.1 hm;have:=(fJ e).2;omega) (by rw[e1];exact h2)
   show bW _ _ _ _ _ (.own (aO n) 0 _) _ [(inn z (a+1),none),(aO n,some _)];rw[hn1];exact this
  .intro t ht;rcases bI.1 ht with rfl|ht
   .rw[fO];grind
   .rw[k3]at ht;exact cG _ (Jv _ t ht)
 .cases h
def Hh(X:Cx)(σ:Sg)(fv:SV)(xs:List SV):SR:=match wX fv with
 |none=>none
 |some f=>(match X.T f with
  |some ⟨_,dec,pre,.mutR t ty l'⟩=>(match(match sD t with|true=>xs|false=>[])with
   | .own s _ m::rest=>(match σ s,lK (lT 3 σ) rest,wR (bQ (iY 3 σ) rest) s with
     |some (.row ty' t' l),some bs,false=>(match decEq t' t,bF ty' ty with
      | .isTrue h,true=>(match dec (.lst t (h▸l)::bs)with
        |some x=>some ((m=l.length)::(0<m)::pre x,.undef,s::bQ (iY 3 σ) rest,[(s,some (.row ty t (l' x)))])
        |none=>none)
      |_,_=>none)
     |_,_,_=>none)
   | .ownf z _ a m::rest=>(match σ z,lK (lT 3 σ) rest with
     |some (.fam tyo ity t' L ov),some bs=>(match decEq t' t,bF ity ty with
      | .isTrue h,true=>(match dec (.lst t ((h▸L:List (List t.ty)).getD a [])::bs)with
        |some x=>some ((a<L.length)::(m=(L.getD a []).length)::(0<m)::(nC ov a++pre x),.undef,z::bQ (iY 3 σ) rest,[(z,some (.fam tyo ity t ((h▸L:List (List t.ty)).set a (l' x)) ov))])
        |none=>none)
      |_,_=>none)
     |_,_=>none)
   |_=>none)
  |_=>none)
def YK{X:Cx}(hX:X.Ok){n:Nat}{o:Oper}{E:SE}{σ:Sg}{c:Call}{f:Operand}(ho:o.op= .call c)(hc:c.callee= .value f):nJ X.P n o E σ (Hh X σ (E f) (c.args.toList.map E)):=by
 intro ps r rd W h hp;unfold Hh at h;split at h
 .cases h
 rename_i fid hf;split at h
 case h_2=>cases h
 rename_i Y dec pre t ty l' hT;have hfv:E.a f= .p (.fn (.func fid) [] []):=Bn hf;have avl:c.args.toList.map E.a=avs (c.args.toList.map E):=by rw[jY,dU];rfl
 have hC:=hX.1 fid _ hT;have hfl:sD t=true/\(match sD t with|true=>c.args.toList.map E|false=>[])=c.args.toList.map E\/(match sD t with|true=>c.args.toList.map E|false=>[])=[] :=by
  cases sD t
  .grind
  .grind
 generalize (match sD t with|true=>c.args.toList.map E|false=>[])=ys at h hfl;rcases hfl with⟨hfl,rfl⟩|rfl
 rotate_left
 .cases h
 split at h
 .rename_i s lt m rest hxs;split at h
  case h_2=>cases h
  rename_i ty' t' l bs hs hbs hmem;split at h
  case h_2=>cases h
  rename_i ht hty hb;subst ht;split at h<;>cases h;rename_i x hx;have hb:=dN hb;subst hb;have e1:m=l.length:=hp _ (by grind);have e2:0<m:=hp _ (by grind);obtain⟨A,h1,h2⟩:=hC l bs x hx (by grind);obtain⟨⟨q,k1,k2⟩,k3⟩:=qN (Al 3) hbs;have hqA:q=A:=by have:=congrArg bT (k2.symm.trans h1);rw[dV,dV]at this;cases this;rfl
  subst hqA;subst e1;refine⟨⟨(s::bQ (iY 3 σ) rest).map aO,aP.sto [(s,some (.row ty' t' (l' x)))],?_,?_⟩,trivial⟩
  rotate_left
  .exact bY.flat (rd:=s::bQ (iY 3 σ) rest) (W:=[(s,some (.row ty' t' (l' x)))]) λq hq=>by rw[bn.1 hq,hs];exact⟨rfl,rfl⟩
  have:=MA (σ:=σ.a) (n:=n) (k:=l.length) (s:=aO s) (rest:=avs rest) (A:=q) ho hc hfv (by rw[avl,hxs];rfl) (by rw[Sg.cP,hs];rfl) (oh t'.lH) e2 k1 (by rw[k3];intro hm;obtain⟨y,hy,e⟩:=bR.1 hm;exact BR hmem (by rw[<-l8 e];exact hy)) (FB hfl _) h2
  rw[k3]at this;exact this
 .rename_i z lt a m rest hxs;split at h
  case h_2=>cases h
  rename_i tyo ity t' L ov bs hs hbs;split at h
  case h_2=>cases h
  rename_i ht hty hb;subst ht;split at h<;>cases h;rename_i x hx;have hb:=dN hb;have e0:a<L.length:=hp _ (by grind);have e1:m=(L.getD a []).length:=hp _ (by grind);have e2:0<m:=hp _ (by grind);have hov:ov.lookup a=none:=tQ λp hq=>hp p (by grind);obtain⟨A,h1,h2⟩:=hC _ bs x hx (λp hq=>hp p (by grind));obtain⟨⟨q,k1,k2⟩,k3⟩:=qN (Al 3) hbs;have hqA:q=A:=by have:=congrArg bT (k2.symm.trans h1);rw[dV,dV]at this;cases this;rfl
  have hob:Sg.a σ (inn z (a+1))=some ⟨ity,t'.w,(t'.enc (L.getD a [])).map .p⟩:=by rw[Sg.fX,hs];show SOb.inner a (.fam tyo ity t' L ov)=_;unfold SOb.inner;dsimp only;rw[hov,eI,dw e0];rfl
  have hlen:(l' x).length=(L.getD a []).length:=by have:=h2.2.1;rw[t'.wide.length,t'.wide.length]at this;exact Nat.eq_of_mul_eq_mul_right t'.lH this
  refine⟨⟨inn z (a+1)::bQ (fo 3 σ.a) (avs rest),_,?_,bY.rset (l':=l' x) hs hov e0 hlen ?_⟩,trivial⟩
  .exact MA (σ:=σ.a) (n:=n) (k:=m) (s:=inn z (a+1)) (rest:=avs rest) (A:=q) ho hc hfv (by rw[avl,hxs];rfl) hob (oh t'.lH) e2 k1 (by rw[k3];intro hm;obtain⟨y,hy,e⟩:=bR.1 hm;have:=(fJ e).2;omega) (FB hfl _) (by grind)
  .intro t ht;rcases bI.1 ht with rfl|ht
   .rw[fO];grind
   .rw[k3]at ht;exact cG _ (Jv _ t ht)
 .cases h
def Cb:SV->Option (Nat×Nat)
 | .agg l=>LT.P.dec l
 |_=>none
def ke(k:Nat×Nat):List Int:=[(k.1:Int),(k.2:Int)]
def Mt{x:SV}{k:Nat×Nat}(h:Cb x=some k):x.av= .p (.agg (ll (ke k))):=by
 unfold Cb at h;split at h
 .have:=LT.yk h;show eO (avs _)=_;rw[this,s9];rfl
 .cases h
def lL(ks:List (Nat×Nat))(k:Nat×Nat):List (Nat×Nat):=if k∈ks then ks else ks++[k]
def NC{k l:Nat×Nat}(h:ke k=ke l):k=l:=by unfold ke at h;grind
def LC(k:Nat×Nat):∀ks:List (Nat×Nat),pQ (gv ks) (ke k) (.p (.bool false))= .p (.bool (decide (k∈ks)))
 |[] =>rfl
 |l::ks=>by
  show(if ke l=ke k then AV.p (.bool true)else pQ (gv ks) (ke k) (.p (.bool false)))=_;by_cases e:l=k
  .grind
  .rw[if_neg (λh=>e (NC h)),LC k ks];grind
def MU(k:Nat×Nat):∀ks:List (Nat×Nat),kZ (gv ks) (ke k) (.p (.bool true))=gv (lL ks k)
 |[] =>rfl
 |l::ks=>by
  show(if ke l=ke k then(ke k,AV.p (.bool true))::gv ks else(ke l,AV.p (.bool true))::kZ (gv ks) (ke k) (.p (.bool true)))=_;by_cases e:l=k
  .subst e;rw[if_pos rfl];unfold lL;rw[if_pos (by grind)];rfl
  .rw[if_neg (λh=>e (NC h)),MU k ks];have:k≠l:=λh=>e h.symm;unfold lL;by_cases h2:k∈ks
   .rw[if_pos h2,if_pos (by grind)];rfl
   .rw[if_neg h2,if_neg (by grind)];rfl
def LD{ks:List (Nat×Nat)}(h:ks.Nodup):sU (gv ks):=by unfold sU gv;grind
def MV{ks:List (Nat×Nat)}:∀q∈gv ks,q.1.length=2:=by intro q hq;obtain⟨k,_,rfl⟩:=bR.1 hq;rfl
def smk(X:Cx)(n:Nat)(σ:Sg)(t:TypeId):SR:=match X.mt t,frs σ n with
 |true,true=>some ([],.mp n,[],[(n,some (.mp []))])
 |_,_=>none
def aBk{X:Cx}{n:Nat}{o:Oper}{E:SE}{σ:Sg}{t:TypeId}(ho:o.op= .makeMap t none):nJ X.P n o E σ (smk X n σ t):=by intro ps r rd W h hp;unfold smk at h;split at h<;>cases h;rename_i h1 h2;obtain⟨hn1,hn2⟩:=ms h2;refine⟨⟨[],aP.sto [(n,some (.mp []))],?_,bY.flat (rd:=[]) (W:=[(n,some (.mp []))]) λq hq=>by rw[bn.1 hq,hn2];exact⟨rfl,rfl⟩⟩,trivial⟩;have:=Uh (P:=X.P) (E:=E.a) (σ:=σ.a) (n:=n) ho;show bW _ _ _ _ _ (.mp (aO n)) _ [(aO n,some ⟨1,0,[]⟩)];grind
def Hn(X:Cx)(σ:Sg)(t:TypeId)(x i:SV):SR:=match X.mt t,x,Cb i with
 |true,.mp s,some k=>(match σ s with
  |some (.mp ks)=>some ([ks.Nodup],.prop (k∈ks) inferInstance,[s],[])
  |_=>none)
 |_,_,_=>none
def YS{X:Cx}(hX:X.Ok){n:Nat}{o:Oper}{E:SE}{σ:Sg}{t:TypeId}{x i:Operand}(ho:o.op= .lookup t x i false):nJ X.P n o E σ (Hn X σ t (E x) (E i)):=by
 intro ps r rd W h hp;unfold Hn at h;split at h
 case h_2=>cases h
 rename_i s k hmt hx hi;split at h<;>cases h;rename_i ks hs;obtain⟨kt,et,g1,g2,g3⟩:=hX.2.2 t hmt;have hnd:ks.Nodup:=hp _ (by grind);refine⟨⟨[s].map aO,[],?_,bY.read σ [s]⟩,trivial⟩;have:=Vg (E:=E.a) (σ:=σ.a) (n:=n) (m:=2) (s:=aO s) (ks:=gv ks) (xs:=ke k) (z:= .p (.bool false)) (zv:= .bool false) ho g1 g2 g3 (λρ C=>by rfl) (by show(E x).av=_;rw[hx];rfl) (by exact Mt hi) rfl (by rw[Sg.cP,hs];rfl) MV (LD hnd);rw[LC]at this;exact this
def IE(X:Cx)(σ:Sg)(t:TypeId)(x i y:SV):SR:=match X.mt t,x,Cb i,y with
 |true,.mp s,some k,.lit true=>(match σ s with
  |some (.mp ks)=>some ([ks.Nodup],.undef,[s],[(s,some (.mp (lL ks k)))])
  |_=>none)
 |_,_,_,_=>none
def Zu{X:Cx}(hX:X.Ok){n:Nat}{o:Oper}{E:SE}{σ:Sg}{t:TypeId}{x i y:Operand}(ho:o.op= .mapUpdate t x i y):nJ X.P n o E σ (IE X σ t (E x) (E i) (E y)):=by
 intro ps r rd W h hp;unfold IE at h;split at h
 case h_2=>cases h
 rename_i s k hmt hx hi hy;split at h<;>cases h;rename_i ks hs;obtain⟨kt,et,g1,g2,g3⟩:=hX.2.2 t hmt;have hnd:ks.Nodup:=hp _ (by grind);refine⟨⟨[s].map aO,aP.sto [(s,some (.mp (lL ks k)))],?_,bY.flat (rd:=[s]) (W:=[(s,some (.mp (lL ks k)))]) λq hq=>by rw[bn.1 hq,hs];exact⟨rfl,rfl⟩⟩,trivial⟩;have:=T0 (E:=E.a) (σ:=σ.a) (n:=n) (m:=2) (s:=aO s) (ks:=gv ks) (xs:=ke k) ho g1 g2 (by show(E x).av=_;rw[hx];rfl) (by exact Mt hi) rfl (by rw[Sg.cP,hs];rfl) MV (LD hnd);rw[show E.a y= .p (.bool true)from by show(E y).av=_;rw[hy];rfl,MU]at this;exact this
def orS(a b:SR):SR:=match a with
 |some x=>some x
 |none=>b
def B9{P:Program}{n:Nat}{o:Oper}{E:SE}{σ:Sg}{a b:SR}(ha:nJ P n o E σ a)(hb:nJ P n o E σ b):nJ P n o E σ (orS a b):=by
 intro ps r rd W h hp;cases a with
 |some x=>exact ha ps r rd W h hp
 |none=>exact hb ps r rd W h hp
def Hl(X:Cx)(n:Nat)(σ:Sg)(fv:SV)(xs:List SV):SR:=match wX fv with
 |none=>none
 |some f=>(match X.T f with
  |some ⟨_,dec,pre,.own ty t l ys⟩=>(match kc (lJ 3 σ) xs with
   |some (qs,bs)=>(match dec bs,frs σ n,sD t with
    |some x,true,true=>(match ys x with
     |[] =>some (qs++pre x,.own n t (l x).length,bQ (dR 3 σ) xs,[(n,some (.row ty t (l x)))])
     |_=>none)
    |_,_,_=>none)
   |none=>none)
  |_=>none)
def YN{X:Cx}(hX:X.Ok){n:Nat}{o:Oper}{E:SE}{σ:Sg}{c:Call}{f:Operand}(ho:o.op= .call c)(hc:c.callee= .value f):nJ X.P n o E σ (Hl X n σ (E f) (c.args.toList.map E)):=by
 intro ps r rd W h hp;unfold Hl at h;split at h
 .cases h
 rename_i fid hf;split at h
 case h_2=>cases h
 rename_i Y dec pre ty t l ys hT;split at h
 case h_2=>cases h
 rename_i qs bs hbs;split at h
 case h_2=>cases h
 rename_i x hx hfr hfl;split at h<;>cases h;rename_i hys;have avl:c.args.toList.map E.a=avs (c.args.toList.map E):=by rw[jY,dU];rfl
 obtain⟨A,Y2,h1,h2,h3⟩:=hX.1 fid _ hT bs x hx (λp hq=>hp p (by grind));obtain⟨q,k1,k2⟩:=yK (λx ps y=>FX) hbs (λp hq=>hp p (by grind));have hqA:q=A:=by have:=congrArg bT (k2.symm.trans h1);rw[dV,dV]at this;cases this;rfl
 subst hqA;have hY:Y2=[] :=by
  rw[hys]at h2;cases Y2 with
  |nil=>rfl
  |cons y Y2=>cases h2
 subst hY;obtain⟨hn1,hn2⟩:=ms hfr;have:=Xp (σ:=σ.a) (n:=n) ho hc (Bn hf) (by rw[avl];exact k1) (FB hfl _) h3;rw[avl]at this;refine⟨⟨_,aP.sto [(n,some (.row ty t (l x)))],?_,⟨rP (OP 3) _,(bY.flat (rd:=[]) (W:=[(n,some (.row ty t (l x)))]) λq hq=>by rw[bn.1 hq,hn2];exact⟨rfl,rfl⟩).2⟩⟩,trivial⟩;show bW _ _ _ _ _ (.own (aO n) 0 _) _ [(aO n,some _)];rw[hn1];exact this
def IF(X:Cx)(n:Nat)(o:Op)(E:SE)(σ:Sg):SR:=match o with
 | .call {callee:= .value f,args, .. }=>orS (wF (Hg X n σ (E f) (args.toList.map E))) (orS (Hi X n σ (E f) (args.toList.map E)) (orS (Hh X σ (E f) (args.toList.map E)) (Hl X n σ (E f) (args.toList.map E))))
 | .makeMap t none=>smk X n σ t
 | .lookup t x i false=>Hn X σ t (E x) (E i)
 | .mapUpdate t x i y=>IE X σ t (E x) (E i) (E y)
 |_=>none
def Zx{X:Cx}(hX:X.Ok){n:Nat}{o:Oper}{E:SE}{σ:Sg}:nJ X.P n o E σ (IF X n o.op E σ):=by
 generalize ho:o.op=op;unfold IF;split
 .exact B9 (YI hX ho rfl) (B9 (YL hX ho rfl) (B9 (YK hX ho rfl) (YN hX ho rfl)))
 .exact aBk ho
 .exact YS hX ho
 .exact Zu hX ho
 .intro ps r rd W h hp;cases h
def SX(X:Cx)(raw:Bool)(n:Nat)(o:Op)(E:SE)(σ:Sg):SR:=orS (sop X raw n o E σ) (IF X n o E σ)
def Zw{X:Cx}(hX:X.Ok){raw:Bool}{n:Nat}{o:Oper}{E:SE}{σ:Sg}(hE:∀x,(E x).ok):nJ X.P n o E σ (SX X raw n o.op E σ):=by refine B9 ?_ (Zx hX);intro ps r rd W h hp;obtain⟨h1,h2⟩:=aBj hX hE h hp;obtain⟨r',R',W',h3,rfl,h4⟩:=Xv h1;grind
end
noncomputable section
def jk{P:Program}{N:Nat}{ds:List (Option Nat)}{K K':List AV->Sto->jc->Prop}(hK:∀F L log,K F L log->K' F L log):∀{l:List Oper} {i:Nat} {F:List AV} {L:Sto} {log:jc},eZ P N ds l i F L log K->eZ P N ds l i F L log K'
 |[],i,F,L,log,h=>by unfold eZ at*;grind
 |o::rest,i,F,L,log,h=>by
  unfold eZ at*;split at h
  .obtain⟨r,R,W,Rc,Wc,h1,i1,i2,h2⟩:=h;exact⟨r,R,W,Rc,Wc,h1,i1,i2,jk hK h2⟩
  .split at h
   .split at h
    .rename_i e;rw[if_pos e];obtain⟨r,R,W,Rc,Wc,h1,i1,i2,h2⟩:=h;exact⟨r,R,W,Rc,Wc,h1,i1,i2,jk hK h2⟩
    .rename_i e;rw[if_neg e];exact jk hK h
   .exact jk hK h
   .exact h
def uN.mono{P:Program}{o:Oper}{F:List AV}{L:Sto}{N:Nat}{K K':List AV->Sto->Nat->Prop}(hK:∀F L N,K F L N->K' F L N)(h:uN P o F L N K):uN P o F L N K':=
 λC0 B wI a w hS=>Ab (h C0 B wI a w hS) (by grind)
def ng{P:Program}:∀(c:Code) {Q Q':pW} (_:∀e F L N,Q e F L N->Q' e F L N) {F:List AV} {L:Sto} {N:Nat},awp P c Q F L N->awp P c Q' F L N:=by
 intro c;induction c with
 |skip=>intro Q Q' hQ F L N h;exact hQ _ _ _ _ h
 |region id ops draw=>
  intro Q Q' hQ F L N h;rcases h with h|⟨hd,pre,o,h1,h2,h3⟩
  rotate_left
  .exact .inr ⟨hd,pre,o,h1,h2,jk (λF L log a=>a.mono (by grind)) h3⟩
  cases draw with
  |true=>obtain⟨anc,h1,h2,h3,h4⟩:=h;exact .inl ⟨anc,h1,h2,h3,jk (by grind) h4⟩
  |false=>obtain⟨h1,h2⟩:=h;exact .inl ⟨h1,jk (by grind) h2⟩
 |seq a b iha ihb=>
  intro Q Q' hQ F L N h;obtain⟨M,h1,h2⟩:=h;refine⟨M,iha ?_ h1,λF L N hm=> ?_⟩
  .grind
  grind
 |cond c t e iht ihe=>
  intro Q Q' hQ F L N h;obtain⟨b,hb,h1,h2⟩:=h;exact⟨b,hb,by grind,by grind⟩
 |block id c ih=>
  intro Q Q' hQ F L N h;refine ih ?_ h;grind
 |loop c ih=>
  intro Q Q' hQ F L N h;obtain⟨Inv,μ,h1,h2⟩:=h;refine⟨Inv,μ,h1,λF L N hi=>ih ?_ (h2 F L N hi)⟩;grind
 |exit id=>intro Q Q' hQ F L N h;exact hQ _ _ _ _ h
 |ret=>intro Q Q' hQ F L N h;exact hQ _ _ _ _ h
 |rangeFunc f params x y _ _=>intro Q Q' hQ F L N h;exact h.elim
 |scope c ih=>
  intro Q Q' hQ F L N h;refine ih ?_ h;grind
 |label l=>intro Q Q' hQ F L N h;exact hQ _ _ _ _ h
 |goto l=>intro Q Q' hQ F L N h;exact h.elim
 |refuse s=>intro Q Q' hQ F L N h;exact h.elim
def Frm.ok(F:Frm):Prop:=∀t,(F.at t).ok
def aBf(v:Value):(svC v).ok:=by
 unfold svC;split
 .split<;>trivial
 .split<;>trivial
 .unfold svK;split<;>trivial
def ZN{n:Nat}{F:Frm}(h:F.ok)(x:Operand):(uF n F x).ok:=by
 cases x with
 |tmp t=>
  show(match i5 t n with|true=>F.at t|false=>SV.any).ok;split
  .exact h t
  .trivial
 |const v=>exact aBf v
 |func f=>trivial
 |global g=>trivial
def Frm.Oe{F:Frm}(h:F.ok){d:Nat}{v:SV}(hv:v.ok):Frm.ok ((d,v)::F):=by
 intro t;rw[Frm.mF];split
 .exact hv
 .exact h t
def pY(n:Nat)(F:Frm)(d:Option Nat)(r:SV):Frm:=match d with
 |none=>F
 |some d=>(match i5 d n with|true=>(d,r)::F|false=>F)
def kT(a b:Nat):i5 a b=true↔a<b:=by simp_all
def Xr{a b:Nat}(h:i5 a b=false):¬a<b:=λhh=>by rw[(kT a b).2 hh]at h;cases h
def GV{n:Nat}{F:Frm}{d:Option Nat}{r:SV}:eP (F.av n) d r.av=(pY n F d r).av n:=by
 cases d with
 |none=>rfl
 |some d=>
  unfold pY;dsimp only;split
  .rename_i h;exact Frm.aBY ((kT _ _).1 h)
  .rename_i h;unfold eP;dsimp only;rw[List.set_eq_of_length_le (by rw[Frm.jj];exact Nat.le_of_not_lt (Xr h))]
def Pre(S:Nat->Prop)(F F':Frm):Prop:=∃pre:Frm,F'=pre++F/\∀q∈pre,S q.1
def iC(L L':aP):Prop:=∃pre:aP,L'=pre++L
def Pre.rfl{S:Nat->Prop}{F:Frm}:Pre S F F:=⟨[],by simp,by grind⟩
def Pre.trans{S:Nat->Prop}{F G H:Frm}(h1:Pre S F G)(h2:Pre S G H):Pre S F H:=by obtain⟨p,rfl,hp⟩:=h1;obtain⟨q,rfl,hq⟩:=h2;exact⟨q++p,by simp,by grind⟩
def Pre.mono{S T:Nat->Prop}{F G:Frm}(h1:Pre S F G)(h:∀d,S d->T d):Pre T F G:=by obtain⟨p,e,hp⟩:=h1;exact⟨p,e,by grind⟩
def iC.rfl{L:aP}:iC L L:=⟨[],by simp⟩
def iC.trans{L M O:aP}(h1:iC L M)(h2:iC M O):iC L O:=by obtain⟨p,rfl⟩:=h1;obtain⟨q,rfl⟩:=h2;exact⟨q++p,by simp⟩
def Ff{n:Nat}{F:Frm}{d:Option Nat}{r:SV}{S:Nat->Prop}(h:∀t,d=some t->S t):Pre S F (pY n F d r):=by
 cases d with
 |none=>exact Pre.rfl
 |some d=>
  unfold pY;dsimp only;split
  .exact⟨[(d,r)],by simp,by grind⟩
  .exact Pre.rfl
def GU{n:Nat}{F:Frm}{d:Option Nat}{r:SV}(h:F.ok)(hr:r.ok):(pY n F d r).ok:=by
 cases d with
 |none=>exact h
 |some d=>
  unfold pY;dsimp only;split
  .exact Frm.Oe h hr
  .exact h
def pg(X:Cx)(n:Nat)(raw:Bool)(N i:Nat)(o:Oper)(F:Frm)(L:aP)(log:jc)(k:Frm->aP->jc->Fm):Fm:=match SX X raw (N+i) o.op (uF n F) L.at with
 |some (ps,r,R,W)=>rq ps (k (pY n F o.dst r) (W++L) (log++[(R.map ncl,W.map λ(q:Nat×Option SOb)=>ncl q.1)]))
 |none=> .stuck i
def oR(n:Nat)(o:Oper)(F:Frm)(L:aP)(log:jc)(k:Frm->aP->jc->Fm):Fm:=k (pY n F o.dst .undef) L (log++[([],[])])
def gu(X:Cx)(n:Nat)(raw:Nat->Bool)(N:Nat)(ds:List (Option Nat)):List Oper->Nat->Frm->aP->jc->(Frm->aP->jc->Fm)->Fm
 |[],_,F,L,log,K=>K F L log
 |o::rest,i,F,L,log,K=>match o.guard with
  |none=>pg X n (raw i) N i o F L log λF L log=>gu X n raw N ds rest (i+1) F L log K
  |some (j,want)=>(match(ds[j]?).join with
   |some d=>(match i5 d n,F.at d with
    |true,.lit b=>(match b,want with
     |true,false=>oR n o F L log λF L log=>gu X n raw N ds rest (i+1) F L log K
     |false,true=>oR n o F L log λF L log=>gu X n raw N ds rest (i+1) F L log K
     |_,_=>pg X n (raw i) N i o F L log λF L log=>gu X n raw N ds rest (i+1) F L log K)
    |true,.undef=>oR n o F L log λF L log=>gu X n raw N ds rest (i+1) F L log K
    |true,.prop p _=> .both
     (.imp p (match want with
       |true=>pg X n (raw i) N i o ((d,.lit true)::F) L log λF L log=>gu X n raw N ds rest (i+1) F L log K
       |false=>oR n o ((d,.lit true)::F) L log λF L log=>gu X n raw N ds rest (i+1) F L log K))
     (.imp (¬p) (match want with
       |false=>pg X n (raw i) N i o ((d,.lit false)::F) L log λF L log=>gu X n raw N ds rest (i+1) F L log K
       |true=>oR n o ((d,.lit false)::F) L log λF L log=>gu X n raw N ds rest (i+1) F L log K))
    |true,.bool c=> .both
     (.imp (c=true) (match want with
       |true=>pg X n (raw i) N i o ((d,.lit true)::F) L log λF L log=>gu X n raw N ds rest (i+1) F L log K
       |false=>oR n o ((d,.lit true)::F) L log λF L log=>gu X n raw N ds rest (i+1) F L log K))
     (.imp (c=false) (match want with
       |false=>pg X n (raw i) N i o ((d,.lit false)::F) L log λF L log=>gu X n raw N ds rest (i+1) F L log K
       |true=>oR n o ((d,.lit false)::F) L log λF L log=>gu X n raw N ds rest (i+1) F L log K))
    |_,_=> .stuck i)
   |none=> .stuck i)
def Frm.aA3{n:Nat}{F:Frm}{d:Nat}{v:SV}(h:v.av=(F.at d).av):Frm.av n ((d,v)::F)=F.av n:=by apply mU;intro t _;rw[Frm.mF];grind
def aP.fn(L:aP):Sto:=Sg.a L.at
def iR(n:Nat)(S:Nat->Prop)(F:Frm)(L:aP)(FA:List AV)(LA:Sto)(G:Frm->aP->Prop):Prop:=∃F' L',FA=F'.av n/\LA=L'.fn/\F'.ok/\Pre S F F'/\iC L L'/\G F' L'
def iR.step{n:Nat}{S:Nat->Prop}{F F1:Frm}{L L1:aP}{FA:List AV}{LA:Sto}{G:Frm->aP->Prop}(h1:Pre S F F1)(h2:iC L L1)(h:iR n S F1 L1 FA LA G):iR n S F L FA LA G:=by obtain⟨F',L',a,b,c,d,e,f⟩:=h;exact⟨F',L',a,b,c,h1.trans d,h2.trans e,f⟩
def yF{X:Cx}(hX:X.Ok){n:Nat}{raw:Nat->Bool}{N:Nat}{ds:List (Option Nat)}{K:Frm->aP->jc->Fm}:
  ∀(l:List Oper) (i:Nat) (F:Frm) (L:aP) (log:jc),(∀o∈l,o.dst∈ds)->F.ok->(gu X n raw N ds l i F L log K).holds->
   eZ X.P N ds l i (F.av n) L.fn log λFA LA log'=>iR n (λd=>some d∈ds) F L FA LA λF' L'=>(K F' L' log').holds
 |[],i,F,L,log,_,hF,h=>by
  unfold eZ;exact⟨F,L,rfl,rfl,hF,Pre.rfl,iC.rfl,h⟩
 |o::rest,i,F,L,log,hd,hF,h=>by
  have hd':∀o∈rest,o.dst∈ds:=by grind
  have hod:∀t,o.dst=some t->some t∈ds:=by grind
  have run:∀F:Frm,F.ok->(pg X n (raw i) N i o F L log λF L log=>gu X n raw N ds rest (i+1) F L log K).holds->
    ∃r R W Rc Wc,bW X.P o (kX (F.av n)) L.fn (N+i) r R W/\inC R Rc/\inC (W.map (·.1)) Wc/\eZ X.P N ds rest (i+1) (eP (F.av n) o.dst r) (az L.fn W) (log++[(Rc,Wc)]) λFA LA log'=>iR n (λd=>some d∈ds) F L FA LA λF' L'=>(K F' L' log').holds:=by
   intro F hF h;unfold pg at h;split at h
   .rename_i ps r R W hs;obtain⟨h1,h2⟩:=ss h;obtain⟨⟨R',W',h5,f1,f2,f3⟩,h4⟩:=Zw hX (ZN hF) _ _ _ _ hs h1;have e1:SE.a (uF n F)=kX (F.av n):=funext λx=>F5 x;rw[e1]at h5;refine⟨r.av,R',W',_,_,h5,f1,f2,?_⟩;have e3:az L.fn W'=aP.fn (W++L):=by unfold aP.fn;rw[f3,aP.CO]
    rw[GV,e3];exact jk (λ_ _ _=>iR.step (Ff hod) ⟨W,rfl⟩) (yF hX rest (i+1) _ _ _ hd' (GU hF h4) h2)
   .exact h.elim
  have skip:∀F:Frm,F.ok->(oR n o F L log λF L log=>gu X n raw N ds rest (i+1) F L log K).holds->
    eZ X.P N ds rest (i+1) (eP (F.av n) o.dst .undef) L.fn (log++[([],[])]) λFA LA log'=>iR n (λd=>some d∈ds) F L FA LA λF' L'=>(K F' L' log').holds:=by
   intro F hF h;unfold oR at h;have:=yF hX rest (i+1) _ _ _ hd' (GU (n:=n) (d:=o.dst) hF (show SV.ok .undef from trivial)) h;rw[<-GV]at this;exact jk (λ_ _ _=>iR.step (Ff hod) iC.rfl) this
  unfold gu at h;unfold eZ;split at h
  .grind
  .rename_i j want hg;rw[hg];dsimp only;split at h
   case h_2=>exact h.elim
   rename_i d hdj;have gd:∀F:Frm,d<n->gdA ds (F.av n) j=(match(F.at d).av with| .p (.bool b)=>some (some b)| .undef=>some none|_=>none):=by intro F hlt;unfold gdA;rw[hdj];dsimp only;rw[Frm.mv hlt];rfl
   have split1:∀(b:Bool),d<n->(F.at d).av= .p (.bool b)->(match want with
      |true=>(match b with
       |true=>pg X n (raw i) N i o ((d,.lit true)::F) L log λF L log=>gu X n raw N ds rest (i+1) F L log K
       |false=>oR n o ((d,.lit false)::F) L log λF L log=>gu X n raw N ds rest (i+1) F L log K)
      |false=>(match b with
       |true=>oR n o ((d,.lit true)::F) L log λF L log=>gu X n raw N ds rest (i+1) F L log K
       |false=>pg X n (raw i) N i o ((d,.lit false)::F) L log λF L log=>gu X n raw N ds rest (i+1) F L log K)).holds->
     (match(gdA ds (F.av n) j:Option (Option Bool))with
       |some (some b)=>if b=want then∃r R W Rc Wc,bW X.P o (kX (F.av n)) L.fn (N+i) r R W/\inC R Rc/\inC (W.map (·.1)) Wc/\eZ X.P N ds rest (i+1) (eP (F.av n) o.dst r) (az L.fn W) (log++[(Rc,Wc)]) (λFA LA log'=>iR n (λd=>some d∈ds) F L FA LA λF' L'=>(K F' L' log').holds)
        else eZ X.P N ds rest (i+1) (eP (F.av n) o.dst .undef) L.fn (log++[([],[])]) (λFA LA log'=>iR n (λd=>some d∈ds) F L FA LA λF' L'=>(K F' L' log').holds)
       |some none=>eZ X.P N ds rest (i+1) (eP (F.av n) o.dst .undef) L.fn (log++[([],[])]) (λFA LA log'=>iR n (λd=>some d∈ds) F L FA LA λF' L'=>(K F' L' log').holds)
       |none=>False):=by
    intro b hlt hb h;rw[gd F hlt,hb];dsimp only;have e0:∀c,c=b->Frm.av n ((d,.lit c)::F)=F.av n:=λc hc=>Frm.aA3 (by rw[hb,hc];rfl);have hpre:∀c,Pre (λd=>some d∈ds) F ((d,SV.lit c)::F):=λc=>⟨[(d,.lit c)],rfl,by grind⟩;have up:∀c FA LA (G:Frm->aP->Prop),iR n (λd=>some d∈ds) ((d,SV.lit c)::F) L FA LA G->iR n (λd=>some d∈ds) F L FA LA G:=λc FA LA G=>iR.step (hpre c) iC.rfl;have hok:∀c,Frm.ok ((d,SV.lit c)::F):=λc=>Frm.Oe hF (show SV.ok (.lit c)from trivial);cases want<;>cases b<;>dsimp only at h
    .have:=run _ (hok false) h;rw[e0 false rfl]at this;obtain⟨r,R,W,Rc,Wc,h1,i1,i2,h2⟩:=this;exact⟨r,R,W,Rc,Wc,h1,i1,i2,jk (by grind) h2⟩
    .have:=skip _ (hok true) h;rw[e0 true rfl]at this;exact jk (by grind) this
    .have:=skip _ (hok false) h;rw[e0 false rfl]at this;exact jk (by grind) this
    .have:=run _ (hok true) h;rw[e0 true rfl]at this;obtain⟨r,R,W,Rc,Wc,h1,i1,i2,h2⟩:=this;exact⟨r,R,W,Rc,Wc,h1,i1,i2,jk (by grind) h2⟩
   split at h
   .rename_i b hlt hb;have hlt:=(kT _ _).1 hlt;rw[gd F hlt,hb];show(if b=want then _ else _);cases b<;>cases want<;>dsimp only at h
    .grind
    .grind
    .grind
    grind
   .rename_i hlt hb;have hlt:=(kT _ _).1 hlt;rw[gd F hlt,hb];exact skip F hF h
   .rename_i p dec hlt hb;obtain⟨h1,h2⟩:=Fm.ut h;have hlt:=(kT _ _).1 hlt;have hav:(F.at d).av= .p (.bool (@decide p dec)):=by rw[hb];rfl
    by_cases hp:p
    .refine split1 true hlt (by grind) ?_;have h1:=(h1:p->_) hp;omega
    .have h2:=(h2:¬p->_) hp;grind
   .rename_i c hlt hb;obtain⟨h1,h2⟩:=Fm.ut h;have hlt:=(kT _ _).1 hlt;have hav:(F.at d).av= .p (.bool c):=by rw[hb];rfl
    cases c with
    |true=>
     refine split1 true hlt hav ?_;have h1:=(h1:(true=true)->_) rfl;omega
    |false=>
     have h2:=(h2:(false=false)->_) rfl;grind
   .exact h.elim
end
noncomputable section
abbrev Rm:=List (Nat×Option Nat)
def m8:Rm->Nat->Option (Option Nat)
 |[],_=>none
 |(k,x)::m,s=>match bF s k with|true=>some x|false=>m8 m s
def pf(f:SV->SV->Option (List Prop×Rm)):List SV->List SV->Option (List Prop×Rm)
 |[],[] =>some ([],[])
 |x::l,y::r=>(match f x y,pf f l r with
  |some (p,m),some (q,k)=>some (p++q,m++k)
  |_,_=>none)
 |_,_=>none
def IX:SV->SV->Option (List Prop×Rm)
 | .any,_=>some ([],[])
 | .undef,.undef=>some ([],[])
 | .nil,.nil=>some ([],[])
 | .int k a,.int k' b=>(match decEq k k' with| .isTrue _=>some ([b=a],[])| .isFalse _=>none)
 | .bool a,.bool b=>some ([b=a],[])
 | .bool a,.lit b=>some ([b=a],[])
 | .bool a,.prop p d=>some ([@decide p d=a],[])
 | .lit a,.lit b=>some ([b=a],[])
 | .lit a,.bool b=>some ([b=a],[])
 | .lit a,.prop p d=>some ([@decide p d=a],[])
 | .prop p _,.prop q _=>some ([q↔p],[])
 | .prop p d,.bool b=>some ([b= @decide p d],[])
 | .prop p d,.lit b=>some ([b= @decide p d],[])
 | .str a,.str b=>some ([b=a],[])
 | .lst t l,.lst t' l'=>(match decEq t' t with| .isTrue h=>some ([(h▸l':List t.ty)=l],[])| .isFalse _=>none)
 | .lst _ l,.sl 0 [] =>some ([l=[]],[])
 | .lst t l,.sl n cs=>(match t.decs n cs with|some l'=>some ([l'=l],[])|none=>none)
 | .ptr s off,.ptr s' off'=>(match bF off off' with|true=>some ([],[(s,some s')])|false=>none)
 | .own s t n,.own s' t' n'=>(match decEq t' t with| .isTrue _=>some ([n'=n],[(s,some s')])| .isFalse _=>none)
 | .own s _ n,.ownx s' n'=>some ([n'=n],[(s,some s')])
 | .own s _ n,.nil=>some ([n=0],[(s,none)])
 | .ownx s n,.ownx s' n'=>(match bF n n' with|true=>some ([],[(s,some s')])|false=>none)
 | .owF s n,.owF s' n'=>some ([n'=n],[(s,some s')])
 | .mp s,.mp s'=>some ([],[(s,some s')])
 | .junk,.junk=>some ([],[])
 |_,_=>none
def eqv:Nat->SV->SV->Option (List Prop×Rm)
 |d+1,.agg l,.agg r=>pf (eqv d) l r
 |d+1,.tup l,.tup r=>pf (eqv d) l r
 |d+1,.fn f a b,.fn f' a' b'=>(match bF f f',pf (eqv d) a a',pf (eqv d) b b' with
  |true,some (p,m),some (q,k)=>some (p++q,m++k)
  |_,_,_=>none)
 |_,x,y=>IX x y
def kV(m:Rf)(r:Rm):Prop:=∀q∈r,m (aO q.1)=some (q.2.map aO)
def kV.left{m:Rf}{r k:Rm}(h:kV m (r++k)):kV m r:=λq hq=>h q (by grind)
def kV.right{m:Rf}{r k:Rm}(h:kV m (r++k)):kV m k:=λq hq=>h q (by grind)
def rS{f:SV->SV->Option (List Prop×Rm)}{m:Rf}(hf:∀x y ps r,f x y=some (ps,r)->(∀p∈ps,p)->kV m r->fw m x.av y.av):
  ∀{l k:List SV} {ps:List Prop} {r:Rm},pf f l k=some (ps,r)->(∀p∈ps,p)->kV m r->fm m (avs l) (avs k)
 |[],[],ps,r,_,_,_=>by rfl
 |[],_::_,ps,r,h,_,_=>by cases h
 |_::_,[],ps,r,h,_,_=>by cases h
 |x::l,y::k,ps,r,h,hp,hm=>by
  unfold pf at h;split at h<;>cases h;rename_i p m1 q m2 h1 h2;exact⟨_,_,rfl,hf x y p m1 h1 (λa ha=>hp a (by grind)) hm.left,rS hf h2 (λa ha=>hp a (by grind)) hm.right⟩
def NT{m:Rf}{x y:SV}{ps:List Prop}{r:Rm}(h:IX x y=some (ps,r))(hp:∀p∈ps,p)(hm:kV m r):fw m x.av y.av:=by
 unfold IX at h;split at h
 .trivial
 .rfl
 .rfl
 .split at h<;>cases h;rename_i e _;subst e;rw[<-hp _ (bn.2 rfl)];rfl
 .cases h;rw[<-hp _ (bn.2 rfl)];rfl
 .cases h;rw[<-hp _ (bn.2 rfl)];rfl
 .cases h;rw[<-hp _ (bn.2 rfl)];rfl
 .cases h;rw[<-hp _ (bn.2 rfl)];rfl
 .cases h;rw[<-hp _ (bn.2 rfl)];rfl
 .cases h;rw[<-hp _ (bn.2 rfl)];rfl
 .rename_i p d q e;cases h;have hh:q↔p:=hp _ (by grind);show AV.p (.bool (decide q))=AV.p (.bool (decide p));grind
 .cases h;refine eM ?_;rw[<-hp _ (bn.2 rfl)];rfl
 .cases h;refine eM ?_;rw[<-hp _ (bn.2 rfl)];rfl
 .cases h;rw[<-hp _ (bn.2 rfl)];rfl
 .rename_i t l t' l';split at h<;>cases h;rename_i e _;subst e;have:l'=l:=hp _ (by grind);subst this;exact eM rfl
 .cases h;rename_i t l;have:l=[] :=hp _ (by grind);subst this;exact eM rfl
 .rename_i t l n cs _;split at h<;>cases h;rename_i l' hl;have:l'=l:=hp _ (by grind);subst this;obtain⟨e1,e2⟩:=LT.vV hl;show(match bT (avs cs)with|some q=>AV.p (.sl n q)|none=> .any)=_;rw[e2,dV,e1]
 .rename_i s off s' off';split at h<;>cases h;simp only[SV.av];exact⟨aO s',hm _ (bn.2 rfl),by simp_all⟩
 .rename_i s t n s' t' n';split at h<;>cases h;have:n'=n:=hp _ (by grind);simp only[SV.av];exact .inl ⟨aO s',hm _ (bn.2 rfl),by rw[this]⟩
 .cases h;rename_i s t n s' n';have:n'=n:=hp _ (by grind);simp only[SV.av];exact .inl ⟨aO s',hm _ (bn.2 rfl),by rw[this]⟩
 .cases h;rename_i s t n;have:n=0:=hp _ (by grind);exact .inr ⟨hm _ (bn.2 rfl),rfl,rfl,this⟩
 .rename_i s n s' n';split at h<;>cases h;simp only[SV.av];exact .inl ⟨aO s',hm _ (bn.2 rfl),by simp_all⟩
 .cases h;rename_i s n s' n';have:n'=n:=hp _ (by grind);simp only[SV.av];exact .inl ⟨aO s',hm _ (bn.2 rfl),by rw[this]⟩
 .cases h;rename_i s s';exact⟨aO s',hm _ (bn.2 rfl),rfl⟩
 .exact eM rfl
 .cases h
def vT{m:Rf}:∀(d:Nat) (x y:SV) (ps:List Prop) (r:Rm),eqv d x y=some (ps,r)->(∀p∈ps,p)->kV m r->fw m x.av y.av:=by
 intro d;induction d with
 |zero=>
  intro x y ps r h hp hm;refine NT (ps:=ps) (r:=r) ?_ hp hm;exact h
 |succ d ih=>
  intro x y ps r h hp hm;unfold eqv at h;split at h
  .rename_i d' l k e;cases e;exact As (rS ih h hp hm)
  .rename_i d' l k e;cases e;exact Ep (rS ih h hp hm)
  .rename_i d' f a b f' a' b' e;cases e;split at h<;>cases h;rename_i p m1 q m2 e h1 h2;show fw m (.fn (.func f) (avs a) (avs b)) (.fn (.func f') (avs a') (avs b'));exact⟨_,_,by simp_all,rS ih h1 (λa ha=>hp a (by grind)) hm.left,rS ih h2 (λa ha=>hp a (by grind)) hm.right⟩
  .exact NT h hp hm
mutual
def SV.sites:SV->List Nat
 | .agg l=>pH l
 | .tup l=>pH l
 | .fn _ a b=>pH a++pH b
 | .ptr s _=>[s]
 | .pte s _ _ _=>[s]
 | .own s _ _=>[s]
 | .owns s _ _ _=>[s]
 | .ownx s _=>[s]
 | .ownf s _ _ _=>[s]
 | .ptef s _ _ _ _=>[s]
 | .ptf s _=>[s]
 | .owF s _=>[s]
 | .mp s=>[s]
 |_=>[]
def pH:List SV->List Nat
 |[] =>[]
 |x::l=>x.sites++pH l
end
def wf(m:Rf)(s:Nat):Prop:=∀a,m (inn s a)=some (some (inn s a))
mutual
theorem Am{m:Rf}:∀(v:SV),(∀s∈v.sites,wf m s)->fw m v.av v.av
 | .any,_=>by trivial
 | .undef,_=>by rfl
 | .nil,_=>by rfl
 | .int _ _,_=>eM rfl
 | .bool _,_=>eM rfl
 | .lit _,_=>eM rfl
 | .prop _ _,_=>eM rfl
 | .str _,_=>eM rfl
 | .lst _ _,_=>eM rfl
 | .pe _ _ _ _,_=>eM rfl
 | .clo1 _ _ _ _,_=>eM rfl
 | .clo2 _ _ _ _,_=>eM rfl
 | .ptb _ _ _,_=>eM rfl
 | .junk,_=>eM rfl
 | .mp s,h=>by exact⟨aO s,h s (by simp[SV.sites]) 0,rfl⟩
 | .sl n cs,_=>by
   simp only[SV.av];split
   .exact eM rfl
   .trivial
 | .pro cs off,_=>by
   simp only[SV.av];split
   .exact eM rfl
   .trivial
 | .fnp f a b,_=>by
   simp only[SV.av];split
   .exact eM rfl
   .trivial
 | .agg l,h=>by exact As (s8 l h)
 | .tup l,h=>by exact Ep (s8 l h)
 | .fn f a b,h=>by
   exact⟨_,_,rfl,s8 a (λs hs=>h s (by simp only[SV.sites];grind)),s8 b (λs hs=>h s (by simp only[SV.sites];grind))⟩
 | .ptr s off,h=>by exact⟨aO s,h s (by simp[SV.sites]) 0,rfl⟩
 | .pte s t i off,h=>by exact⟨aO s,h s (by simp[SV.sites]) 0,rfl⟩
 | .own s t n,h=>by exact .inl ⟨aO s,h s (by simp[SV.sites]) 0,rfl⟩
 | .owns s t o n,h=>by exact .inl ⟨aO s,h s (by simp[SV.sites]) 0,rfl⟩
 | .ownx s n,h=>by exact .inl ⟨aO s,h s (by simp[SV.sites]) 0,rfl⟩
 | .owF s n,h=>by exact .inl ⟨aO s,h s (by simp[SV.sites]) 0,rfl⟩
 | .ownf s t a n,h=>by exact .inl ⟨inn s (a+1),h s (by simp[SV.sites]) (a+1),rfl⟩
 | .ptf s a,h=>by exact⟨aO s,h s (by simp[SV.sites]) 0,rfl⟩
 | .ptef s t a i off,h=>by exact⟨inn s (a+1),h s (by simp[SV.sites]) (a+1),rfl⟩
theorem s8{m:Rf}:∀(l:List SV),(∀s∈pH l,wf m s)->fm m (avs l) (avs l)
 |[],_=>by rfl
 |x::l,h=>by
  exact⟨_,_,rfl,Am x (λs hs=>h s (by simp only[pH];grind)),s8 l (λs hs=>h s (by simp only[pH];grind))⟩
end
def SOb.sites:SOb->List Nat
 | .box _ cs=>pH cs
 | .arr _ _ cs=>pH cs
 | .row .. =>[]
 | .fam _ _ _ _ ov=>ov.flatMap λq=>q.2.sites
 | .mp _=>[]
def Ey{ov:List (Nat×SV)}{i:Nat}{v:SV}(h:ov.lookup i=some v):(i,v)∈ov:=by
 induction ov with
 |nil=>cases h
 |cons q ov ih=>
  grind
def Jt{m:Rf}(o:SOb)(x:Nat)(hx:wf m x)(h:∀s∈o.sites,wf m s):qj m (o.ob x) (o.ob x):=by
 cases o with
 |box ty cs=>exact⟨rfl,rfl,s8 cs h⟩
 |arr ty ez cs=>exact⟨rfl,rfl,s8 cs h⟩
 |row ty t l=>exact⟨rfl,rfl,kQ m _⟩
 |mp ks=>refine⟨rfl,rfl,?_⟩;show fm m (gZ (gv ks)) (gZ (gv ks));rw[tR];exact kQ m _
 |fam ty ity t L ov=>
  refine⟨rfl,rfl,vF _ _ _ λi _=> ?_⟩;unfold jJ;split
  .rename_i v hv;exact Am v λs hs=>h s (dG.2 ⟨(i,v),Ey hv,hs⟩)
  .exact .inl ⟨_,hx (i+1),rfl⟩
def wJ:SOb->SOb->Option (List Prop×Rm)
 | .box ty cs,.box ty' cs'=>(match bF ty ty' with|true=>pf (eqv 3) cs cs'|false=>none)
 | .arr ty ez cs,.arr ty' ez' cs'=>(match bF ty ty',bF ez ez' with|true,true=>pf (eqv 3) cs cs'|_,_=>none)
 | .row ty t l,.row ty' t' l'=>(match bF ty ty',decEq t' t with|true,.isTrue h=>some ([(h▸l':List t.ty)=l],[])|_,_=>none)
 | .mp ks,.mp ks'=>some ([ks'=ks],[])
 | .row ty t l,.arr ty' ez cs=>(match bF ty ty',bF ez t.w,t.decs (cs.length/t.w) cs with|true,true,some l'=>some ([l'=l],[])|_,_,_=>none)
 |_,_=>none
def Lw{m:Rf}{x y:SOb}{ps:List Prop}{r:Rm}(h:wJ x y=some (ps,r))(hp:∀p∈ps,p)(hm:kV m r)(k k':Nat):qj m (x.ob k) (y.ob k'):=by
 unfold wJ at h;split at h
 .split at h
  .rename_i e;exact⟨dN e,rfl,rS (vT 3) h hp hm⟩
  .cases h
 .split at h
  .rename_i e1 e2;exact⟨dN e1,dN e2,rS (vT 3) h hp hm⟩
  .cases h
 .split at h<;>cases h;rename_i e2 e1 _;subst e2;have:=hp _ (bn.2 rfl);subst this;exact⟨dN e1,rfl,kQ m _⟩
 .cases h;have:=hp _ (bn.2 rfl);subst this;refine⟨rfl,rfl,?_⟩;show fm m (gZ (gv _)) (gZ (gv _));rw[tR];exact kQ m _
 .split at h<;>cases h;rename_i l' e1 e2 e3;have:=hp _ (bn.2 rfl);subst this;obtain⟨_,e4⟩:=LT.vV e3;refine⟨dN e1,(dN e2).symm,?_⟩;show fm m ((LT.enc _ l').map .p) (avs _);rw[e4];exact kQ m _
 .cases h
end
section
noncomputable section
def mem(l:List Nat)(s:Nat):Bool:=match l with
 |[] =>false
 |x::l=>(match bF s x with|true=>true|false=>mem l s)
def mem_iff(s:Nat):∀l:List Nat,mem l s=true↔s∈l
 |[] =>by simp[mem]
 |x::l=>by
  unfold mem;cases h:bF s x with
  |true=>simp_all
  |false=>simp[mZ h,mem_iff s l]
def fF{α:Type}(p:α->Bool):List α->Bool
 |[] =>true
 |x::l=>(match p x with|true=>fF p l|false=>false)
def iG{α:Type}{p:α->Bool}:∀{l:List α},fF p l=true->∀x∈l,p x=true
 |[],_,x,hx=>by cases hx
 |y::l,h,x,hx=>by
  unfold fF at h;cases hy:p y with
  |false=>grind
  |true=>
   rw[hy]at h;rcases bI.1 hx with rfl|hx
   .exact hy
   .exact iG h x hx
def iM(rk:List Nat)(N0:Nat)(s:Nat):Bool:=match i5 (ncl s) N0,mem rk s with
 |true,false=>true
 |_,_=>false
def kH(F:Frm)(rk:List Nat)(N0:Nat):Frm->List Nat
 |[] =>[]
 |(d,v)::r=>(match fF (iM rk N0) v.sites with
  |true=>kH F rk N0 r
  |false=>(match fF (iM rk N0) (F.at d).sites with
   |true=>kH F rk N0 r
   |false=>d::kH F rk N0 r))
def lj(F:Frm)(upd:Frm)(hav:List Nat):Frm:=upd++(hav.map λd=>(d,SV.any))++F
def ja(L:aP)(obs:List (Nat×SOb)):aP:=(obs.map λq=>(q.1,some q.2))++L
def yu(obs:List (Nat×SOb)):List Nat:=obs.map λq=>q.1
def aCe(L:aP)(keys rk:List Nat)(N0:Nat):Bool:=fF (λ(q:Nat×Option SOb)=>match mem keys q.1 with
 |true=>true
 |false=>(match L.at q.1 with
  |none=>true
  |some ob=>(match iM rk N0 q.1 with|true=>fF (iM rk N0) ob.sites|false=>false))) L
def wV(n:Nat)(F':Frm):Frm->Option (List Prop×Rm)
 |[] =>some ([],[])
 |(d,v)::r=>(match i5 d n,v.ape,eqv 3 v (F'.at d),wV n F' r with
  |true,false,some (p,m),some (q,k)=>some (p++q,m++k)
  |_,_,_,_=>none)
def y4(rk:List Nat)(s o:Nat):SOb->SOb->Option (List Prop)
 | .fam ty ity t M [],.fam ty' ity' t' M' [] =>(match bF s o,mem rk s,bF ty ty',bF ity ity',decEq t' t with
   |true,false,true,true,.isTrue h=>some [(h▸M':List (List t.ty))=M]
   |_,_,_,_,_=>none)
 |_,_=>none
def NQ{rk:List Nat}{s o:Nat}{x y:SOb}{ps:List Prop}(h:y4 rk s o x y=some ps)(hp:∀p∈ps,p):s=o/\mem rk s=false/\x=y/\x.sites=[] :=by
 unfold y4 at h;split at h
 .split at h<;>cases h;rename_i e h1 h2 h3 h4 _;subst e;have:=hp _ (bn.2 rfl);subst this;rw[dN h3,dN h4];exact⟨dN h1,h2,rfl,rfl⟩
 .cases h
def uM(L':aP)(rk:List Nat):List (Nat×SOb)->Rm->Option (List Prop×Rm)
 |[],mm=>some ([],mm)
 |(s,ob)::r,mm=>(match(match mem rk s with|true=>m8 mm s|false=>some (some s))with
  |none=>none
  |some none=>(match ob with
   | .row _ _ l=>(match uM L' rk r (mm++[(s,none)])with|some (q,k)=>some ((l=[])::q,k)|none=>none)
   |_=>none)
  |some (some o)=>(match L'.at o with
   |none=>none
   |some ob'=>(match wJ ob ob' with
    |none=>(match y4 rk s o ob ob' with
     |none=>none
     |some p=>(match uM L' rk r (mm++[(s,some o)])with|some (q,k)=>some (p++q,k)|none=>none))
    |some (p,m2)=>(match uM L' rk r (mm++(s,some o)::m2)with|some (q,k)=>some (p++q,k)|none=>none))))
def eqO:Option Nat->Option Nat->Bool
 |none,none=>true
 |some a,some b=>bF a b
 |_,_=>false
def HX{a b:Option Nat}(h:eqO a b=true):a=b:=by cases a<;>cases b<;>first|rfl|(cases h;done)|(rw[dN h])
def isO:Option (Option Nat)->Option Nat->Bool
 |some a,b=>eqO a b
 |none,_=>false
def okM(rk:List Nat)(N0 N1:Nat)(mm:Rm):Bool:=fF (λ(q:Nat×Option Nat)=>match isO (m8 mm q.1) q.2,mem rk q.1 with
 |true,true=>(match i5 (ncl q.1) N1,q.2 with
  |true,none=>true
  |true,some o=>(match(match i5 (ncl o) N0 with|false=>true|true=>mem rk o)with
   |true=>fF (λ(q2:Nat×Option Nat)=>match eqO q2.2 (some o)with|true=>bF q2.1 q.1|false=>true) mm
   |false=>false)
  |_,_=>false)
 |true,false=>(match iM rk N0 q.1 with|true=>eqO q.2 (some q.1)|false=>false)
 |_,_=>false) mm
def aCb(N0:Nat)(keys:List Nat)(pre:aP):Bool:=fF (λ(q:Nat×Option SOb)=>match mem keys q.1 with
 |true=>true
 |false=>(match i5 (ncl q.1) N0 with|true=>false|false=>true)) pre
def aCG(rk:List Nat)(N0:Nat)(mm:Rm):Nat->Option (Option Nat):=λs=>match m8 mm s with
 |some x=>some x
 |none=>(match iM rk N0 s with|true=>some (some s)|false=>none)
open Classical in
def mM(mn:Nat->Option (Option Nat))(st:Nat->Bool):Rf:=λs=>if inn (nm s) (sub s)=s then(match sub s with
 |0=>(mn (nm s)).map (Option.map aO)
 |_+1=>(match st (nm s)with|true=>some (some s)|false=>none))else none
def ER(mn:Nat->Option (Option Nat))(st:Nat->Bool)(x:Nat):mM mn st (aO x)=(mn x).map (Option.map aO):=by unfold mM aO;rw[tc,tj,if_pos rfl]
def Lj(mn:Nat->Option (Option Nat))(st:Nat->Bool)(x a:Nat):mM mn st (inn x (a+1))=(match st x with|true=>some (some (inn x (a+1)))|false=>none):=by unfold mM;rw[tc,tj,if_pos rfl]
def Y0(mn:Nat->Option (Option Nat))(st:Nat->Bool){s:Nat}(h:∀x a,s≠inn x a):mM mn st s=none:=by unfold mM;grind
def Ce(n:Nat)(L:aP)(N0 N1:Nat)(rk:List Nat)(upd:Frm)(obs:List (Nat×SOb))(F':Frm)(L':aP):Option (List Prop):=
 match wV n F' upd with
 |none=>none
 |some (p,m1)=>(match uM L' rk obs m1 with
  |none=>none
  |some (q,m2)=>(match okM rk N0 N1 m2,aCb N0 (yu obs) (L'.take (L'.length-L.length)),aCe L (yu obs) rk N0,nQ N0 N1 with
   |true,true,true,true=>some (p++q)
   |_,_,_,_=>none))
def Lf{m:Rm}{s:Nat}{x:Option Nat}(h:m8 m s=some x):(s,x)∈m:=by
 induction m with
 |nil=>cases h
 |cons q m ih=>
  obtain⟨a,b⟩:=q;unfold m8 at h;split at h
  .simp_all
  grind
def NS{n:Nat}{F':Frm}{m:Rf}:∀{upd:Frm} {ps:List Prop} {r:Rm},wV n F' upd=some (ps,r)->(∀p∈ps,p)->kV m r->∀q∈upd,fw m q.2.av (F'.at q.1).av/\q.2.ok
 |[],ps,r,_,_,_,q,hq=>by cases hq
 |(d,v)::upd,ps,r,h,hp,hm,q,hq=>by
  unfold wV at h;split at h<;>cases h;rename_i p1 m1 p2 m2 h1 h2 h3 h4;rcases bI.1 hq with rfl|hq
  .exact⟨vT 3 _ _ _ _ h3 (λa ha=>hp a (by grind)) hm.left,SV.oJ h2⟩
  .exact NS h4 (λa ha=>hp a (by grind)) hm.right q hq
def Kr{x y:SOb}{q:List Prop×Rm}(h:wJ x y=some q):x.flat=true:=by unfold wJ at h;cases x<;>first|rfl|grind
def BT{L':aP}{rk:List Nat}{m:Rf}:∀{obs:List (Nat×SOb)} {mm:Rm} {ps:List Prop} {r:Rm},uM L' rk obs mm=some (ps,r)->(∀p∈ps,p)->kV m r->
  (∃k,r=mm++k)/\∀q∈obs,(q.2.flat=true/\((∃y ob,m (aO q.1)=some (some (aO y))/\L'.at y=some ob/\qj m (q.2.ob q.1) (ob.ob y))\/(m (aO q.1)=some none/\(q.2.ob q.1).esz≠0/\(q.2.ob q.1).cells=[])))\/((q.1,some q.1)∈r/\mem rk q.1=false/\L'.at q.1=some q.2/\q.2.sites=[])
 |[],mm,ps,r,h,_,_=>by unfold uM at h;simp_all
 |(s,ob)::obs,mm,ps,r,h,hp,hm=>by
  unfold uM at h;split at h
  .cases h
  .split at h
   .rename_i ty t l;split at h<;>cases h;rename_i q k hk;obtain⟨⟨k',e⟩,h2⟩:=BT hk (by grind) hm;refine⟨by grind,λq hq=> ?_⟩;rcases bI.1 hq with rfl|hq
    .have:m (aO s)=some none:=hm (s,none) (by rw[e];simp);have hl:l=[] :=hp _ (by grind);subst hl;exact .inl ⟨rfl,.inr ⟨this,oh t.lH,rfl⟩⟩
    grind
   .cases h
  .rename_i o hi;split at h
   .cases h
   .rename_i ob' hob;split at h
    .split at h
     .cases h
     .rename_i p hfe;split at h<;>cases h;rename_i q k hk;obtain⟨⟨k',e⟩,h2⟩:=BT hk (λa ha=>hp a (by grind)) hm;refine⟨by grind,λq hq=> ?_⟩;rcases bI.1 hq with rfl|hq
      .obtain⟨f1,f2,f3,f4⟩:=NQ hfe λa ha=>hp a (by grind);grind
      grind
    .rename_i p m2 he;split at h<;>cases h;rename_i q k hk;obtain⟨⟨k',e⟩,h2⟩:=BT hk (λa ha=>hp a (by grind)) hm;refine⟨by grind,λq hq=> ?_⟩;rcases bI.1 hq with rfl|hq
     .have:m (aO s)=some (some (aO o)):=hm (s,some o) (by rw[e];simp);refine .inl ⟨Kr he,.inl ⟨o,ob',this,hob,Lw he (λa ha=>hp a (by grind)) ?_ _ _⟩⟩;intro q hq;exact hm q (by grind)
     grind
def Ba{F:Frm}{rk:List Nat}{N0:Nat}{d:Nat}:∀{G:Frm},(∃v,(d,v)∈G/\fF (iM rk N0) v.sites=false)->d∉kH F rk N0 G->fF (iM rk N0) (F.at d).sites=true
 |[],⟨v,h,_⟩,_=>by cases h
 |(e,u)::G,⟨v,h,hv⟩,hn=>by
  unfold kH at hn;rcases bI.1 h with h|h
  .grind
  .split at hn
   .exact Ba ⟨v,h,hv⟩ hn
   .split at hn
    .exact Ba ⟨v,h,hv⟩ hn
    .exact Ba ⟨v,h,hv⟩ (by grind)
def aBZ(F:Frm)(d:Nat):(F.at d)= .undef\/(d,F.at d)∈F:=by
 induction F with
 |nil=>exact .inl rfl
 |cons q F ih=>
  rw[Frm.mF];grind
def aAG{F:Frm}{rk:List Nat}{N0 d:Nat}(h:d∉kH F rk N0 F):fF (iM rk N0) (F.at d).sites=true:=by
 rcases aBZ F d with e|e
 .rw[e];rfl
 .cases hb:fF (iM rk N0) (F.at d).sites with
  |true=>rfl
  |false=>rw[<-hb];exact Ba ⟨_,e,hb⟩ h
def Frm.qE(A B:Frm)(d:Nat):(Frm.at (A++B) d)=if d∈A.map (·.1)then A.at d else B.at d:=by
 induction A with
 |nil=>simp
 |cons q A ih=>
  rw[kM,Frm.mF,Frm.mF,ih];grind
def QD(l:List Nat)(d:Nat):(Frm.at (l.map λd=>(d,SV.any)) d)=if d∈l then .any else .undef:=by
 induction l with
 |nil=>rfl
 |cons e l ih=>
  rw[dX,Frm.mF,ih];grind
def wM{F:Frm}{d:Nat}(h:d∈F.map (·.1)):(d,F.at d)∈F:=by
 induction F with
 |nil=>cases h
 |cons q F ih=>
  rw[Frm.mF];grind
def aP.qE(A B:aP)(s:Nat):(aP.at (A++B) s)=if s∈A.map (·.1)then A.at s else B.at s:=by
 induction A with
 |nil=>simp
 |cons q A ih=>
  obtain⟨e,v⟩:=q;show(match bF s e with|true=>v|false=>aP.at (A++B) s)=if _ then(match bF s e with|true=>v|false=>aP.at A s)else _;cases h:bF s e with
  |true=>simp_all
  |false=>
   have:=mZ h;grind
def aP.wM{L:aP}{s:Nat}{ob:SOb}(h:L.at s=some ob):(s,some ob)∈L:=by
 induction L with
 |nil=>cases h
 |cons q L ih=>
  obtain⟨e,v⟩:=q;change (match bF s e with|true=>v|false=>aP.at L s)=some ob at h;cases hb:bF s e with
  |true=>simp_all
  |false=>grind
def Nw{x:Nat}:∀{obs:List (Nat×SOb)},x∈obs.map (·.1)->∃q∈obs,q.1=x/\aP.at (obs.map λq=>(q.1,some q.2)) x=some q.2
 |[],h=>by grind
 |q::obs,h=>by
  show∃q'∈q::obs,q'.1=x/\(match bF x q.1 with|true=>some q.2|false=>aP.at (obs.map λq=>(q.1,some q.2)) x)=some q'.2;cases hb:bF x q.1 with
  |true=>simp_all
  |false=>
   rcases bI.1 h with h|h
   .simp_all
   .obtain⟨q',h1,h2,h3⟩:=Nw h;grind
def Kg{m:Rf}{o':SOb}{a:Nat}{ob':Ob}(hs:o'.inner a=some ob'):qj m ob' ob':=by
 cases o' with
 |fam ty ity t LL ov=>
  change (match ov.lookup a with|some _=>none|none=>(LL[a]?).map λl=>(⟨ity,t.w,(t.enc l).map .p⟩:Ob))=some ob' at hs;split at hs
  .cases hs
  .cases hL2:LL[a]? with
   |none=>grind
   |some l=>rw[hL2]at hs;cases hs;exact⟨rfl,rfl,kQ _ _⟩
 |_=>cases hs
def Ld{n:Nat}{F F' upd:Frm}{L L':aP}{N0 N1 N':Nat}{obs:List (Nat×SOb)}{hav:List Nat}{ps:List Prop}{rk:List Nat}(h:Ce n L N0 N1 rk upd obs F' L'=some ps)(hp:∀p∈ps,p)
  (hF:Pre (λd=>d∈hav) F F') (hbad:∀d∈kH F rk N0 F,d∈hav) (hL:iC L L'):
  fe (F'.av n) L'.fn N' ((lj F upd hav).av n) (ja L obs).fn N1:=by
 unfold Ce at h;split at h
 .cases h
 rename_i p1 m1 h1;split at h
 .cases h
 rename_i p2 mm h2;split at h<;>cases h;rename_i h3 h4 h5 h6
 let mn:Nat->Option (Option Nat):=aCG rk N0 mm
 let m:Rf:=mM mn (iM rk N0)
 have hokM:∀s x,(s,x)∈mm->m8 mm s=some x/\((mem rk s=true/\ncl s<N1/\∀o,x=some o->(ncl o<N0->mem rk o=true)/\∀s',(s',some o)∈mm->s'=s)\/(mem rk s=false/\ncl s<N0/\x=some s)):=by
  intro s x hs;have:=iG h3 (s,x) hs;dsimp only at this;split at this
  .rename_i e1 e2;refine⟨?_,.inl ⟨e2,?_⟩⟩
   .unfold isO at e1;split at e1
    .rename_i heq;rw[heq,HX e1]
    .cases e1
   .split at this
    .simp_all
    .rename_i o e3;refine⟨(kT _ _).1 e3,λo' ho=> ?_⟩;cases ho;split at this
     .rename_i e4;refine⟨λhlt=> ?_,λs' hs'=> ?_⟩
      .rw[(kT _ _).2 hlt]at e4;exact e4
      .have:=iG this (s',some o) hs';rw[show eqO (some o) (some o)=true from Nat.beq_refl o]at this;simp_all
     .cases this
    .cases this
  .rename_i e1 e2;split at this
   .rename_i e3;refine⟨?_,.inr ⟨e2,?_,HX this⟩⟩
    .unfold isO at e1;split at e1
     .rename_i heq;rw[heq,HX e1]
     .cases e1
    .unfold iM at e3;split at e3
     .simp_all
     .cases e3
   .cases this
  .cases this
 have hstay:∀s,iM rk N0 s=true->mn s=some (some s)/\ncl s<N0/\mem rk s=false:=by
  intro s hs;have:ncl s<N0/\mem rk s=false:=by
   unfold iM at hs;split at hs
   .rename_i e1 e2;exact⟨(kT _ _).1 e1,e2⟩
   .cases hs
  refine⟨?_,this⟩;show(match m8 mm s with|some x=>some x|none=>_)=_;cases hl:m8 mm s with
  |some x=>
   rcases(hokM s x (Lf hl)).2 with⟨e,_⟩|⟨_,_,e⟩
   .grind
   .rw[e]
  |none=>grind
 have hm:∀s x,mn s=some x->(s,x)∈mm\/(iM rk N0 s=true/\x=some s):=by
  intro s x hs;change (match m8 mm s with|some x=>some x|none=>(match iM rk N0 s with|true=>some (some s)|false=>none))=some x at hs;cases hl:m8 mm s with
  |some y=>rw[hl]at hs;cases hs;exact .inl (Lf hl)
  |none=>
   grind
 have hag:kV m mm:=by
  intro q hq;have:=(hokM q.1 q.2 hq).1;have e:mn q.1=some q.2:=by show(match m8 mm q.1 with|some x=>some x|none=>_)=_;rw[this]
  show mM mn (iM rk N0) (aO q.1)=_;rw[ER,e];rfl
 have hst:∀s,iM rk N0 s=true->wf m s:=by
  intro s hs a;cases a with
  |zero=>show mM mn _ (aO s)=_;rw[ER,(hstay s hs).1];rfl
  |succ a=>show mM mn _ (inn s (a+1))=_;rw[Lj,hs]
 have hcase:∀s x,m s=some x->(∃y z,s=aO y/\mn y=some z/\x=z.map aO)\/(∃y a,s=inn y (a+1)/\iM rk N0 y=true/\x=some s):=by
  intro s x hs;rcases kq s with⟨y,rfl⟩|⟨y,a,rfl⟩|hno
  .change mM mn _ (aO y)=some x at hs;rw[ER]at hs;cases hy:mn y with
   |none=>grind
   |some z=>grind
  .change mM mn _ (inn y (a+1))=some x at hs;rw[Lj]at hs;grind
  .change mM mn _ s=some x at hs;rw[Y0 _ _ hno]at hs;cases hs
 have hlt:∀s x,mn s=some x->ncl s<N1:=by
  intro s x hs;rcases hm s x hs with h|⟨h,_⟩
  .rcases(hokM s x h).2 with⟨_,e,_⟩|⟨_,e,_⟩
   .exact e
   .have:=qB h6;omega
  .have:=(hstay s h).2.1;have:=qB h6;omega
 obtain⟨⟨k,hk⟩,hobs⟩:=BT h2 (λa ha=>hp a (by grind)) hag;have hfst:∀y,(y,some y)∈mm->mem rk y=false->iM rk N0 y=true:=by
  intro y hy hr;rcases(hokM y _ hy).2 with⟨e,_⟩|⟨_,e,_⟩
  .grind
  .unfold iM;rw[(kT _ _).2 e,hr]
 have hag1:kV m m1:=λq hq=>hag q (by grind);have hupd:=NS h1 (λa ha=>hp a (by grind)) hag1;have h6':=qB h6;refine Nn m ?_ ?_ (by rw[Frm.jj,Frm.jj]) ?_ ?_
 .intro s x hs;rcases hcase s x hs with⟨y,z,rfl,h,_⟩|⟨y,a,rfl,h,_⟩
  .rw[show cls (aO y)=ncl y from fO y 0];grind
  .rw[fO];grind
 .intro s s' o hs hs';have inj:∀s s' o,mn s=some (some o)->mn s'=some (some o)->s=s':=by
   intro s s' o hs hs';rcases hm s (some o) hs with h|⟨h,e⟩
   .rcases(hokM s _ h).2 with⟨e1,e2,e3⟩|⟨e1,e2,e3⟩
    .grind
    .rcases hm s' (some o) hs' with h'|⟨h',e'⟩
     .grind
     grind
   .rcases hm s' (some o) hs' with h'|⟨h',e'⟩
    .grind
    grind
  rcases hcase s _ hs with⟨y,z,rfl,h,e⟩|⟨y,a,rfl,h,e⟩
  .rcases hcase s' _ hs' with⟨y',z',rfl,h',e'⟩|⟨y',a',rfl,h',e'⟩
   .cases z with
    |none=>cases e
    |some z=>
     cases z' with
     |none=>cases e'
     |some z'=>
      have e:=nT e;have e':=nT e';have:z=z':=l8 (e.symm.trans e');grind
   .cases z with
    |none=>cases e
    |some z=>
     have e:=nT e;have e':=nT e';have:=(fJ (e.symm.trans e')).2;omega
  .rcases hcase s' _ hs' with⟨y',z',rfl,h',e'⟩|⟨y',a',rfl,h',e'⟩
   .cases z' with
    |none=>cases e'
    |some z'=>
     have e:=nT e;have e':=nT e';have:=(fJ (e'.symm.trans e)).2;omega
   grind
 .intro t ht;rw[Frm.jj]at ht;rw[Frm.mv ht,Frm.mv ht];unfold lj;rw[Frm.qE,Frm.qE];split
  .split
   .rename_i hu;exact(hupd _ (wM hu)).1
   .rw[QD];split
    .trivial
    grind
  .rename_i hin;have hh:t∉hav:=by grind
   have hgood:=aAG (λhb=>hh (hbad t hb));obtain⟨pre,e,hpre⟩:=hF;have:Frm.at F' t=Frm.at F t:=by rw[e,Frm.qE,if_neg];intro h;simp only[bR]at h;obtain⟨q,hq,e⟩:=h;grind
   rw[this];exact Am _ λs hs=>hst s (iG hgood s hs)
 .intro s ob' hs;have kept:∀x o',x∉(obs.map λq=>(q.1,some q.2)).map (·.1)->(ja L obs).at x=some o'->iM rk N0 x=true/\fF (iM rk N0) o'.sites=true/\L'.at x=some o':=by
   intro x o' hnk ho;unfold ja at ho;rw[aP.qE,if_neg hnk]at ho;have hnk':mem (yu obs) x=false:=by
    cases hb:mem (yu obs) x with
    |false=>rfl
    |true=>
     exfalso;have:=(mem_iff _ _).1 hb;unfold yu at this;grind
   have:=iG h5 _ (aP.wM ho);dsimp only at this;rw[hnk',ho]at this;dsimp only at this;split at this
   .rename_i hst;refine⟨hst,this,?_⟩;obtain⟨pre,e⟩:=hL;rw[e,aP.qE,if_neg,ho];intro hin;have h4':=h4;rw[e]at h4';rw[show(pre++L).length-L.length=pre.length by simp,Dc]at h4';simp only[bR]at hin;obtain⟨q,hq,e2⟩:=hin;have:=iG h4' q hq;rw[e2,hnk']at this;rw[(kT _ _).2 (hstay x hst).2.1]at this;cases this
   .cases this
  have told:∀x,x∈(obs.map λq=>(q.1,some q.2)).map (·.1)->∃q∈obs,q.1=x/\(ja L obs).at x=some q.2:=by
   intro x hk;have e:(ja L obs).at x=aP.at (obs.map λq=>(q.1,some q.2)) x:=by unfold ja;rw[aP.qE,if_pos hk]
   rw[e];exact Nw (by grind)
  rcases kq s with⟨x,rfl⟩|⟨x,a,rfl⟩|hno
  .change Sg.a (ja L obs).at (aO x)=some ob' at hs;rw[Sg.cP]at hs;by_cases hk:x∈(obs.map λq=>(q.1,some q.2)).map (·.1)
   .obtain⟨q,hq,rfl,ho⟩:=told x hk;rw[ho]at hs;cases hs;rcases hobs q hq with⟨_,⟨y,ob,g1,g2,g3⟩|⟨g1,g2,g3⟩⟩|⟨g1,g2,g3,g4⟩
    .rw[g1];exact⟨ob.ob y,by show Sg.a L'.at (aO y)=_;rw[Sg.cP,g2];rfl,g3⟩
    .grind
    .have hq':=hfst q.1 g1 g2;rw[show m (aO q.1)=some (some (aO q.1))from hst q.1 hq' 0];exact⟨q.2.ob q.1,by show Sg.a L'.at (aO q.1)=_;rw[Sg.cP,g3];rfl,Jt _ q.1 (hst q.1 hq') (by grind)⟩
   .cases ho:(ja L obs).at x with
    |none=>grind
    |some o'=>
     rw[ho]at hs;cases hs;obtain⟨k1,k2,k3⟩:=kept x o' hk ho;rw[show m (aO x)=some (some (aO x))from hst x k1 0];exact⟨o'.ob x,by show Sg.a L'.at (aO x)=_;rw[Sg.cP,k3];rfl,Jt _ x (hst x k1) λs hs=>hst s (iG k2 s hs)⟩
  .change Sg.a (ja L obs).at (inn x (a+1))=some ob' at hs;rw[Sg.fX]at hs;by_cases hk:x∈(obs.map λq=>(q.1,some q.2)).map (·.1)
   .obtain⟨q,hq,rfl,ho⟩:=told x hk;rw[ho]at hs;rcases hobs q hq with⟨hfl,_⟩|⟨g1,g2,g3,g4⟩
    .have:=SOb.Af hfl a;grind
    .have hq':=hfst q.1 g1 g2;rw[show m (inn q.1 (a+1))=some (some (inn q.1 (a+1)))from hst q.1 hq' (a+1)];exact⟨ob',by show Sg.a L'.at (inn q.1 (a+1))=_;rw[Sg.fX,g3];exact hs,Kg hs⟩
   .cases ho:(ja L obs).at x with
    |none=>grind
    |some o'=>
     rw[ho]at hs;obtain⟨k1,k2,k3⟩:=kept x o' hk ho;rw[show m (inn x (a+1))=some (some (inn x (a+1)))from hst x k1 (a+1)];exact⟨ob',by show Sg.a L'.at (inn x (a+1))=_;rw[Sg.fX,k3];exact hs,Kg hs⟩
  .change Sg.a (ja L obs).at s=some ob' at hs;rw[Sg.kI _ hno]at hs;cases hs
end
end
end Go.Proofs.YthbofdolalagjaaGreat
