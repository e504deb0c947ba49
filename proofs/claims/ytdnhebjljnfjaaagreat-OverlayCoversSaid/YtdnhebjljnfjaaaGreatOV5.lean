/- Part 5 of what the statement stands on -/
import Derived.Test.YtdnhebjljnfjaaaGreatOV4
import Derived.Laws.CopyRow
import Derived.Laws.IdiomCopy
import Derived.RangeFuncNested
import Derived.RangeFuncBound
import Derived.RangeFuncCalls
import Derived.RangeFuncLeaves
import Derived.RangeFuncFrom
import Derived.Shelf.Abstract
import Derived.OwnWalkIn
import Derived.TacticsInMore
import Derived.LoopNIn
import Derived.LoopIn
set_option linter.all false
set_option maxRecDepth 100000
set_option maxHeartbeats 8000000
open List renaming range->bM,length_cons->iE,length_append->dn,mem_append->eA,getD_eq_getElem?_getD->b8,getElem?_map->du,getElem?_range->kX,mem_singleton->bN,mem_cons->bc,mem_cons_self->eD,mem_cons_of_mem->dT,map_cons->cO,nodup_cons->jz,mem_map->cC,length_singleton->eL,length_nil->iM,getElem?_set->iG,getElem_mem->eG,length_set->fG,mem_or_eq_of_mem_set->Qd,replicate->bS,nil_append->pQ,length_replicate->mH,getElem?_replicate->jY,Perm.refl->uJ,append_assoc->lN,getD->cW,any->io,take->bL,take_append_getElem->Q9,length_take->fV,take_length->kY,Pairwise.nil->uH,pairwise_singleton->C9,pairwise_cons->jv,pairwise_iff_getElem->nx,mem_iff_getElem->mK,append_nil->jE,map_map->gY,Nodup->rT,pairwise_map->ue,any_eq_true->nr,length_map->d6,mem_range->dR,getElem_range->ub,not_mem_nil->dM,rec->rV,cons_append->mG,length->fh,map_nil->lK,length_eq_zero_iff->ig,lookup->cG,map_take->rP,set->cd,drop->cP,map->xu,eraseIdx->DC,getElem?_eq_some_iff->ns,size_toArray->Cf,push_toArray->RE,append_toArray->RF,getElem?_eq_getElem->c7,all_eq_true->dW,getElem?_take->pM,getElem?_drop->uK
open Nat renaming le_refl->bA,add_mul->lL,one_mul->nv,lt_or_ge->jC,zero_le->cu,gcd->bz,gcd_mul_right->DB,lt_trichotomy->gn,lt_irrefl->Cg,zero_add->gX,mod_lt->fg,mod_eq_of_lt->ni,le_trans->cZ,ne_of_beq_eq_false->fz,beq->ae,blt->dD,eq_of_beq_eq_true->bk,ble->iP,le_of_ble_eq_true->jF,min->lO,lt_succ_self->Ck,lt_of_lt_of_le->Qn,eq_zero_or_pos->nj
open Prod renaming ext->x5
open Int renaming natCast_nonneg->x4,tmod->dc,tdiv->bp,ofNat_dvd_left->RB,lt_trichotomy->xx,natAbs->bh,natAbs_mul->pV,mul_le_mul_of_nonneg_right->jw,toNat_natCast->jZ,tmod_eq_emod_of_nonneg->C6,tdiv_eq_ediv_of_nonneg->C5,mul_nonneg->jA,lt_or_le->pL,toNat_of_nonneg->rU
open Go.Proofs.Tryz renaming prog->aG
open And renaming intro->cl
open Go.Sem renaming run_bind->bi,run_pure->cF
open Iff renaming rfl->mL
open Bool renaming and_eq_true->bv,or_eq_true->jW,false_ne_true->rS,true_and->jB,false_and->ny
open Option renaming map_some->dm
open Classical renaming choose_spec->Qj
open Go.Op renaming operands->cA
open Go.Call renaming operands->fw
open Go.Result renaming andThen_ok->bq
open Go.World renaming setRow->uR,block_lt_of_cell?->fx
open Array renaming replicate_succ->RC,replicate_zero->RD
open Go.RowKit
open Go.Proofs.YtdnhebjljnfjaaaGreat.Geo
open Go.Proofs.YtdnhebjljnfjaaaGreat.Geo renaming S->aBZ,sub->aB0,bg->aB3,bJ->aB5
namespace Go.Proofs.YtdnhebjljnfjaaaGreat
def vsK(l:List aBZ):Nat->List Pt
 |0=>[]
 |k+1=>vsK l k++bB l k
def onP(l:List aBZ)(k:Nat):List (List Pt):=(bM k).map (bB l)
def vsP(l:List aBZ):List Pt:=fE (aY (ltC aW) (vsK l l.length))
def dE(vs pts:List Pt)(i:Int)(M:MF):Nat->MF
 |0=>M
 |j+1=>if 1<=j then eK (dE vs pts i M j) (ptX (aP pts (j-1)) vs,ptX (aP pts j) vs) i else dE vs pts i M j
def cT(l:List aBZ):Nat->MF
 |0=>[]
 |k+1=>dE (vsP l) (bB l k) k (cT l k) (bB l k).length
def fe(vs pts:List Pt)(j:Nat):Int:=if 1<=j then(ptX (aP pts (j-1)) vs:Nat)else-1
def edM(M:MF):List Ed:=M.map λq=>⟨q.1.1,q.1.2,0,0,q.2⟩
def esP(l:List aBZ):List Ed:=aY (ltC gk) (edM (cT l l.length))
def aA(l:List aBZ):Pl:=⟨l,vsP l,esP l,[]⟩
def fF(l:List aBZ):Int:=if l.any gC=true then 1 else if l.any ff=true then 2 else if 200<l.length then 9 else 0
def bf(l:List aBZ):Pl:=if fF l=0 then co (aA l)else⟨[],[],[],[]⟩
def yx:∀l:List Pt,(fE l).length<=l.length
 |[] =>bA _
 |[_] =>bA _
 |x::y::r=>by
  have:=yx (y::r);unfold fE;split
  .simp only[iE]at*;omega
  .simp only[iE]at*;omega
def zF{l:List aBZ}{i:Nat}{p:Pt}(h:p∈bB l i):p∈aa l i l.length:=(fP _ _).mem_iff.1 (vG _ p h)
def sE(l:List aBZ)(i:Nat):(bB l i).length<=3*l.length+2:=by have h1:=yx (aY (ltC aW) (aa l i l.length));have h2:=(fP (ltC aW) (aa l i l.length)).length_eq;have h3:=zD l i l.length;unfold bB;omega
def vj(l:List aBZ):∀k,(vsK l k).length<=k*(3*l.length+2)
 |0=>by unfold vsK;simp
 |k+1=>by
  have h1:=vj l k;have h2:=sE l k;unfold vsK;rw[dn,lL,nv];omega
def zm{l:List aBZ}{p:Pt}:∀{k},p∈vsK l k->∃i,i<k/\p∈bB l i
 |0,h=>by cases h
 |k+1,h=>by
  unfold vsK at h;rcases eA.1 h with h|h
  .obtain⟨i,h1,h2⟩:=zm h;exact⟨i,by omega,h2⟩
  .exact⟨k,by omega,h⟩
def z8(l:List aBZ)(k:Nat):(onP l k).length=k:=by unfold onP;simp
def VP(l:List aBZ)(k:Nat):onP l k++[bB l k] =onP l (k+1):=by unfold onP;rw[List.range_succ,List.map_append];rfl
def Gr{l:List aBZ}{k i:Nat}(h:i<k):pF (onP l k) i=bB l i:=by unfold pF onP;rw[b8,du,kX h];rfl
def vi{v:Int}{k:Nat×Nat}{q:(Nat×Nat)×List Int}:∀{M:MF},q∈eK M k v->q∈M\/(q.1=k/\∃r,q.2=r++[v]/\(r=[]\/(k,r)∈M))
 |[],h=>by
  unfold eK at h;rw[bN.1 h];exact .inr ⟨rfl,[],rfl,.inl rfl⟩
 |p::M,h=>by
  unfold eK at h;split at h
  .rename_i e;rcases bc.1 h with rfl|h
   .exact .inr ⟨rfl,p.2,rfl,.inr (by rw[<-e];exact eD)⟩
   .exact .inl (dT _ h)
  .rcases bc.1 h with rfl|h
   .exact .inl eD
   .rcases vi h with h|⟨h1,r,h2,h3⟩
    .exact .inl (dT _ h)
    .exact .inr ⟨h1,r,h2,h3.imp_right (dT _)⟩
def Et{v:Int}{k:Nat×Nat}:∀{M:MF},(M.map (·.1)).Nodup->((eK M k v).map (·.1)).Nodup
 |[],_=>by unfold eK;simp
 |p::M,h=>by
  rw[cO,jz]at h;unfold eK;split
  .rename_i e;rw[cO,jz,<-e];exact h
  .rename_i e;rw[cO,jz];refine⟨λhm=> ?_,Et h.2⟩;obtain⟨q,hq,e2⟩:=cC.1 hm;rcases vi hq with hq|⟨hq,_⟩
   .exact h.1 (cC.2 ⟨q,hq,e2⟩)
   .exact e (e2▸hq)
def uy{vs pts:List Pt}{i:Int}{M:MF}(h:(M.map (·.1)).Nodup):∀j,((dE vs pts i M j).map (·.1)).Nodup
 |0=>h
 |j+1=>by
  unfold dE;split
  .exact Et (uy h j)
  .exact uy h j
def pf(l:List aBZ):∀k,((cT l k).map (·.1)).Nodup
 |0=>List.nodup_nil
 |k+1=>uy (pf l k) _
def yb{vs pts:List Pt}{i:Int}{M:MF}{B:Nat}(h:∀q∈M,q.2.length<=B):∀j,∀q∈dE vs pts i M j,q.2.length<=B+j
 |0=>h
 |j+1=>by
  have ih:=yb (vs:=vs) (pts:=pts) (i:=i) h j;unfold dE;split
  .intro q hq;rcases vi hq with hq|⟨_,r,e,hr⟩
   .have:=ih q hq;omega
   .rw[e,dn,eL];rcases hr with rfl|hr
    .simp only[iM];omega
    .have:=ih _ hr;dsimp only at this;omega
  .intro q hq;have:=ih q hq;omega
def EN(l:List aBZ):∀k,∀q∈cT l k,q.2.length<=k*(3*l.length+2)
 |0=>λq hq=>by cases hq
 |k+1=>λq hq=>by
  have h1:=yb (vs:=vsP l) (pts:=bB l k) (i:=(k:Int)) (EN l k) _ q hq;have h2:=sE l k;rw[lL,nv];omega
def HU{M:MF}(h:(M.map (·.1)).Nodup):EdK (edM M):=by
 intro a ha b hb h1 h2;obtain⟨p,hp,rfl⟩:=cC.1 ha;obtain⟨q,hq,rfl⟩:=cC.1 hb;have e:p.1=q.1:=x5 (Int.ofNat.inj h1) (Int.ofNat.inj h2);have key:∀{M:MF},(M.map (·.1)).Nodup->p∈M->q∈M->p=q:=by
  intro M;induction M with
  |nil=>intro _ h;cases h
  |cons r M ih=>
   intro hn hp hq;rw[cO,jz]at hn;rcases bc.1 hp with rfl|_
   .rcases bc.1 hq with rfl|hq
    .rfl
    .exact absurd (cC.2 ⟨q,hq,e.symm⟩) hn.1
   .rename_i hp2;rcases bc.1 hq with rfl|hq
    .exact absurd (show q.1∈M.map (·.1)from cC.2 ⟨p,hp2,e⟩) hn.1
    .exact ih hn.2 hp2 hq
 rw[key h hp hq]
def EdK.perm{a b:List Ed}(h:a.Perm b)(hb:EdK b):EdK a:=λx hx y hy=>hb x (h.mem_iff.1 hx) y (h.mem_iff.1 hy)
def Ux{a b:List Ed}(h:a.Perm b)(hb:EdK b):aY (ltC gk) a=aY (ltC gk) b:=
 x8 (xC hb) ((fP _ _).trans h) (pW (xC (EdK.perm h hb)) a λ_ h=>h)
def fH{l:List Int}{i j:Nat}{v:Int}:aM (l.set i v) j=if i=j/\i<l.length then v else aM l j:=by
 unfold aM;rw[b8,b8,iG];by_cases h:i=j
 .subst h;by_cases h2:i<l.length
  .simp[h2]
  .simp[h2]
 .simp[h]
def kA{l:List Int}{i:Nat}(h:i<l.length):aM l i∈l:=by rw[show aM l i=l[i]from cR h];exact eG h
def pp{l:List (List Int)}{i:Nat}(h:i<l.length):aO l i∈l:=by rw[show aO l i=l[i]from cR h];exact eG h
def zI{l:List (List (List Int))}{i:Nat}(h:i<l.length):cK l i∈l:=by rw[show cK l i=l[i]from cR h];exact eG h
def sW(k:Int)(o c:List Int):∀j,(ofC k o c j).length=o.length
 |0=>rfl
 |j+1=>by unfold ofC;rw[fG,sW k o c j]
def Gp{k:Int}{o c:List Int}{x:Int}:∀{j},x∈ofC k o c j->x∈o\/x=k
 |0,h=> .inl h
 |j+1,h=>by
  unfold ofC at h;rcases Qd h with h|h
  .exact Gp h
  .exact .inr h
section
variable {p:Pl} (P:PlOk p)
include P
theorem wu:(cyP p aC).length<=2*p.es.length/\∀c∈cyP p aC,0<c.length/\c.length<=2*p.es.length/\∀x∈c,HIn p x:=by obtain⟨_,h2,h3⟩:=sj (q:=aC) P (tG P aC) (2*p.es.length) (bA _);exact⟨h2,h3⟩
omit P in
theorem HY(q:Int->Bool)(L:List (List Int)):∀(f:Nat) (D:List Bool) (h:Int) (c:List Int),c.length<=(cyT p q L f D h c).2.length
 |0,_,_,c=>bA _
 |f+1,D,h,c=>by
  unfold cyT;split
  .have:=HY q L f (D.set h.toNat true) (nxP p L h) (c++[h]);rw[dn,eL]at this;omega
  .exact bA _
omit P in
theorem V4(q:Int->Bool)(L:List (List Int)):∀k,(cyO p q L k).2.length<=(cyO p q L (k+1)).2.length:=by
 intro k;show _<=(if _ then _ else _:List (List Int)).length;split
 .rw[dn];omega
 .exact bA _
omit P in
theorem Yt(h:0<p.es.length):0<(cyP p aC).length:=by
 have h1:0<(cyO p aC (lvP p aC) 1).2.length:=by
  have e:0<(cyS p aC (lvP p aC) (cyO p aC (lvP p aC) 0).1 0).2.length:=by show 0<(cyT p aC (lvP p aC) ((bS (2*p.es.length) false).count false) (bS (2*p.es.length) false) 0 []).2.length;obtain⟨m,hm⟩:∃m,2*p.es.length=m+1:=⟨2*p.es.length-1,by omega⟩;rw[List.count_replicate_self,hm,wL ⟨by omega,by rw[List.replicate_succ];rfl,rfl⟩];have:=HY (p:=p) aC (lvP p aC) m ((bS (m+1) false).set (0:Int).toNat true) (nxP p (lvP p aC) 0) ([] ++[0]);simp only[pQ,eL]at this|-;exact this
  show 0<(if _ then _ else _:List (List Int)).length;rw[if_pos e,dn,eL];omega
 have key:∀k,1<=k->0<(cyO p aC (lvP p aC) k).2.length:=by
  intro k hk;induction k with
  |zero=>omega
  |succ k ih=>
   rcases jC k 1 with h2|h2
   .have:k=0:=by omega
    subst this;exact h1
   .have:=V4 (p:=p) aC (lvP p aC) k;have:=ih h2;omega
 exact key _ (by omega)
omit P in
theorem AF{c:List Int}(hc:0<c.length):∀k,k<=c.length->∃h∈c,ft p c k=stP p h
 |0,_=>⟨_,kA hc,rfl⟩
 |k+1,hk=>by
  obtain⟨h,h1,h2⟩:=AF hc k (by omega);show∃h∈c,min (ft p c k) (stP p (aM c k))=stP p h;rcases Int.le_total (ft p c k) (stP p (aM c k))with g|g
  .exact⟨h,h1,by rw[Int.min_eq_left g,h2]⟩
  .exact⟨aM c k,kA (by omega),by rw[Int.min_eq_right g]⟩
theorem YI{c:List Int}(hc:0<c.length)(h:∀x∈c,HIn p x):0<(aO (lvP p aC) (b9 p c).toNat).length:=by
 obtain⟨x,hx,e⟩:=AF (p:=p) hc c.length (bA _);have hl:=AD P hc h;have hX:=h x hx;have e2:aO (lvP p aC) (b9 p c).toNat=aY (ltC (cfH p)) (lvR p aC (b9 p c).toNat (2*p.es.length)):=by have:=tH (p:=p) (q:=aC) (k:=p.vs.length) (v:=(b9 p c).toNat) (by omega);rw[if_pos (by omega)]at this;exact this
 rw[e2,(fP _ _).length_eq];refine List.length_pos_of_mem (oU.2 ⟨hX.1,by have:=hX.2;omega,rfl,?_⟩);show stP p x=_;rw[<-e];have:b9 p c=ft p c c.length:=rfl;omega
omit P in
theorem I6(q:Pt):∀k,(bwK p q k).1= -1\/(0<=(bwK p q k).1/\(bwK p q k).1<2*k)
 |0=> .inl rfl
 |k+1=>by
  have ih:=I6 q k;show(bwS q (bwE p k) (bwK p q k)).1= -1\/(0<=(bwS q (bwE p k) (bwK p q k)).1/\(bwS q (bwE p k) (bwK p q k)).1<2*((k+1:Nat):Int));have hb:(bwE p k).h=2*k\/(bwE p k).h=2*k+1:=by
   unfold bwE;dsimp only;split
   .exact .inr rfl
   .exact .inl rfl
  unfold bwS;split
  .omega
  .split
   .omega
   .split
    .dsimp only;omega
    .omega
omit P in
theorem BB{q:Pt}(h:0<=bwP p q):HIn p (bwP p q):=by
 rcases I6 (p:=p) q p.es.length with e|e
 .exact absurd h (by show¬0<=(bwK p q p.es.length).1;omega)
 .exact⟨h,e.2⟩
abbrev nC(p:Pl):Nat:=(cyP p aC).length
omit P in
theorem mW(p:Pl):∀k,(ph1 p k).1.length=nC p/\(ph1 p k).2.1.length=2*p.es.length
 |0=>⟨mH,mH⟩
 |k+1=>by
  obtain⟨h1,h2⟩:=mW p k;unfold ph1;split
  .exact⟨by rw[fG];exact h1,by rw[sW];exact h2⟩
  .exact⟨by rw[fG,fG];exact h1,by rw[sW];exact h2⟩
structure Ph1I(p:Pl)(k:Nat):Prop where
 f1:1<=(ph1 p k).2.2.length
 f2:(ph1 p k).2.2.length<=k+1
 v1:∀j,j<k->(aM (ph1 p k).1 j= -1/\inP p (aO (cyP p aC) j) (lvP p aC)=true)\/(1<=aM (ph1 p k).1 j/\aM (ph1 p k).1 j<(ph1 p k).2.2.length)
 v2:∀j,k<=j->aM (ph1 p k).1 j=0
 o:∀x∈(ph1 p k).2.1,x=0\/(0<=x/\x<k)
 r:∀f∈(ph1 p k).2.2,f.length<=1/\∀c∈f,0<c.length
theorem qB:∀k,k<=nC p->Ph1I p k
 |0,_=>by
  refine⟨bA _,bA _,λj h=>by omega,λj _=> ?_,λx hx=> ?_,λf hf=> ?_⟩
  .show(bS (nC p) (0:Int)).getD j 0=0;rw[b8,jY];split<;>rfl
  .exact .inl (List.eq_of_mem_replicate hx)
  .have:f=[] :=bN.1 hf;subst this;exact⟨cu _,λc hc=>by cases hc⟩
 |k+1,hk=>by
  have I:=qB k (by omega);obtain⟨l1,l2⟩:=mW p k;have l1:(ph1 p k).1.length=(cyP p aC).length:=l1;have hk:k+1<=(cyP p aC).length:=hk;have hc:=(wu P).2 _ (pp (l:=cyP p aC) (i:=k) (by omega));have ho:∀x∈ofC (k:Int) (ph1 p k).2.1 (aO (cyP p aC) k) (aO (cyP p aC) k).length,x=0\/(0<=x/\x<((k+1:Nat):Int)):=by
   intro x hx;rcases Gp hx with hx|rfl
   .have:=I.o x hx;omega
   .omega
  by_cases hin:inP p (aO (cyP p aC) k) (lvP p aC)=true
  .have e:ph1 p (k+1)=((ph1 p k).1.set k (-1),ofC k (ph1 p k).2.1 (aO (cyP p aC) k) (aO (cyP p aC) k).length,(ph1 p k).2.2):=by show(if _ then _ else _)=_;rw[if_pos hin]
   refine⟨by rw[e];exact I.f1,by rw[e];have:=I.f2;dsimp only;omega,λj hj=> ?_,λj hj=> ?_,by rw[e];exact ho,by rw[e];exact I.r⟩
   .rw[e];dsimp only;rw[fH];by_cases h:k=j
    .subst h;rw[if_pos ⟨rfl,by omega⟩];exact .inl ⟨rfl,hin⟩
    .rw[if_neg (λh2=>h h2.1)];exact I.v1 j (by omega)
   .rw[e];dsimp only;rw[fH,if_neg (by omega)];exact I.v2 j (by omega)
  .have e:ph1 p (k+1)=(((ph1 p k).1.set k (-1)).set k ((ph1 p k).2.2.length:Int),ofC k (ph1 p k).2.1 (aO (cyP p aC) k) (aO (cyP p aC) k).length,(ph1 p k).2.2++[[aO (cyP p aC) k]]):=by show(if _ then _ else _)=_;rw[if_neg hin]
   have f1:=I.f1;have f2:=I.f2;refine⟨by rw[e];simp,by rw[e];simp only[dn,eL];omega,λj hj=> ?_,λj hj=> ?_,by rw[e];exact ho,λf hf=> ?_⟩
   .rw[e];dsimp only;rw[fH,fH,dn,eL];by_cases h:k=j
    .subst h;rw[if_pos ⟨rfl,by rw[fG];omega⟩];right;omega
    .rw[if_neg (λh2=>h h2.1),if_neg (λh2=>h h2.1)];rcases I.v1 j (by omega)with h3|h3
     .exact .inl h3
     .exact .inr ⟨h3.1,by omega⟩
   .rw[e];dsimp only;rw[fH,fH,if_neg (by omega),if_neg (by omega)];exact I.v2 j (by omega)
   .rw[e]at hf;rcases eA.1 hf with hf|hf
    .exact I.r f hf
    .rw[bN.1 hf];exact⟨bA _,λc h=>by rw[bN.1 h];exact hc.1⟩
end
structure BdOk(l:List aBZ):Prop where
 len:l.length<=100
 raw:∀i,i<l.length->∀p∈aa l i l.length,POk p
 pl:PlOk (aA l)
 ord:LvO (aA l) aC
 bel:∀k,k<nC (aA l)->inP (aA l) (aO (cyP (aA l) aC) k) (lvP (aA l) aC)=true->0<=bwQ (aA l) (aO (cyP (aA l) aC) k)->
  aM (ph1 (aA l) (nC (aA l))).2.1 (bwQ (aA l) (aO (cyP (aA l) aC) k)).toNat<k
theorem AL(p:Pl)(o fa c:List Int)(k:Nat):(fdP p o fa c k).length=fa.length:=by
 unfold fdP;split
 .split
  .rw[fG,fG]
  .rw[fG]
 .rfl
structure Ph2I(p:Pl)(k:Nat):Prop where
 l1:(ph2 p k).1.length=nC p
 l2:(ph2 p k).2.length=(ph1 p (nC p)).2.2.length
 v1:∀j,j<k->0<=aM (ph2 p k).1 j/\aM (ph2 p k).1 j<(ph1 p (nC p)).2.2.length
 v2:∀j,k<=j->aM (ph2 p k).1 j=aM (ph1 p (nC p)).1 j
 r:∀f∈(ph2 p k).2,f.length<=k+1/\∀c∈f,0<c.length
structure Ph2S(p:Pl)(k:Nat):Prop where
 h:HIn p (bwQ p (aO (cyP p aC) k))
 j:0<=aM (ph1 p (nC p)).2.1 (bwQ p (aO (cyP p aC) k)).toNat
 lt:aM (ph1 p (nC p)).2.1 (bwQ p (aO (cyP p aC) k)).toNat<k
theorem zH{l:List aBZ}(B:BdOk l){k:Nat}(hk:k<nC (aA l))(I:Ph2I (aA l) k)(hn:aM (ph2 (aA l) k).1 k<0)(hb:0<=bwQ (aA l) (aO (cyP (aA l) aC) k)):Ph2S (aA l) k:=by
 have I1:=qB B.pl (nC (aA l)) (bA _);rw[I.v2 k (bA _)]at hn;have hin:inP (aA l) (aO (cyP (aA l) aC) k) (lvP (aA l) aC)=true:=by
  rcases I1.v1 k hk with h|h
  .exact h.2
  .omega
 have h:=BB hb;refine⟨h,?_,B.bel k hk hin hb⟩;have hl:=(mW (aA l) (nC (aA l))).2;have:=I1.o _ (kA (l:=(ph1 (aA l) (nC (aA l))).2.1) (i:=(bwQ (aA l) (aO (cyP (aA l) aC) k)).toNat) (by have h1:=h.1;have h2:=h.2;have e:bwQ (aA l) (aO (cyP (aA l) aC) k)=bwP (aA l) (aP (aA l).vs (b9 (aA l) (aO (cyP (aA l) aC) k)).toNat):=rfl;omega))
 omega
theorem HL{l:List aBZ}(B:BdOk l){k:Nat}(hk:k<nC (aA l))(I:Ph2I (aA l) k):
  let fa:=fdP (aA l) (ph1 (aA l) (nC (aA l))).2.1 (ph2 (aA l) k).1 (aO (cyP (aA l) aC) k) k
  (∀j,j<k+1->0<=aM fa j/\aM fa j<(ph1 (aA l) (nC (aA l))).2.2.length)/\∀j,k+1<=j->aM fa j=aM (ph1 (aA l) (nC (aA l))).1 j:=by
 have I1:=qB B.pl (nC (aA l)) (bA _);have f1:=I1.f1;have l1:k<(ph2 (aA l) k).1.length:=by rw[I.l1];exact hk
 intro fa;have hfa:fa=fdP (aA l) (ph1 (aA l) (nC (aA l))).2.1 (ph2 (aA l) k).1 (aO (cyP (aA l) aC) k) k:=rfl;unfold fdP at hfa;by_cases hn:aM (ph2 (aA l) k).1 k<0
 .rw[if_pos hn]at hfa;by_cases hb:0<=bwQ (aA l) (aO (cyP (aA l) aC) k)
  .rw[if_pos hb]at hfa;have S:=zH B hk I hn hb;have hlt:=S.lt;have hge:=S.j;obtain⟨j0,hj0⟩:=Int.eq_ofNat_of_zero_le hge;rw[hj0]at hfa hlt;have hv:=I.v1 j0 (by omega);have e:aM ((ph2 (aA l) k).1.set k 0) (j0:Int).toNat=aM (ph2 (aA l) k).1 j0:=by rw[fH,if_neg (by omega)];rfl
   have hfa:fa=((ph2 (aA l) k).1.set k 0).set k (aM ((ph2 (aA l) k).1.set k 0) (j0:Int).toNat):=hfa;rw[e]at hfa;constructor
   .intro j hj;rw[hfa,fH,fH];by_cases h:k=j
    .rw[if_pos ⟨h,by rw[fG];exact l1⟩];exact hv
    .rw[if_neg (λh2=>h h2.1),if_neg (λh2=>h h2.1)];exact I.v1 j (by omega)
   .intro j hj;rw[hfa,fH,fH,if_neg (by omega),if_neg (by omega)];exact I.v2 j (by omega)
  .rw[if_neg hb]at hfa;constructor
   .intro j hj;rw[hfa,fH];by_cases h:k=j
    .rw[if_pos ⟨h,l1⟩];omega
    .rw[if_neg (λh2=>h h2.1)];exact I.v1 j (by omega)
   .intro j hj;rw[hfa,fH,if_neg (by omega)];exact I.v2 j (by omega)
 .rw[if_neg hn]at hfa;constructor
  .intro j hj;rw[hfa];by_cases h:k=j
   .subst h;have h2:=I.v2 k (bA _);rcases I1.v1 k hk with h3|h3
    .omega
    .omega
   .exact I.v1 j (by omega)
  .intro j hj;rw[hfa];exact I.v2 j (by omega)
theorem oR{l:List aBZ}(B:BdOk l):∀k,k<=nC (aA l)->Ph2I (aA l) k
 |0,_=>by
  have I1:=qB B.pl (nC (aA l)) (bA _);refine⟨(mW (aA l) _).1,rfl,λj h=>by omega,λj _=>rfl,λf hf=> ?_⟩;have:=I1.r f hf;exact⟨by omega,this.2⟩
 |k+1,hk=>by
  have I:=oR B k (by omega);obtain⟨v1,v2⟩:=HL B (by omega) I;have hc:=(wu B.pl).2 _ (pp (l:=cyP (aA l) aC) (i:=k) hk);by_cases ho:ouP (ph2 (aA l) k).1 (ph2 (aA l) k).2 (aO (cyP (aA l) aC) k) k=true
  .have e:ph2 (aA l) (k+1)=(fdP (aA l) (ph1 (aA l) (nC (aA l))).2.1 (ph2 (aA l) k).1 (aO (cyP (aA l) aC) k) k,(ph2 (aA l) k).2):=by show(if _ then _ else _)=_;rw[if_pos ho]
   exact⟨by rw[e];dsimp only;rw[AL];exact I.l1,by rw[e];exact I.l2,by rw[e];exact v1,by rw[e];exact v2,by rw[e];intro f hf;have:=I.r f hf;exact⟨by omega,this.2⟩⟩
  .have e:ph2 (aA l) (k+1)=(fdP (aA l) (ph1 (aA l) (nC (aA l))).2.1 (ph2 (aA l) k).1 (aO (cyP (aA l) aC) k) k,(ph2 (aA l) k).2.set (aM (fdP (aA l) (ph1 (aA l) (nC (aA l))).2.1 (ph2 (aA l) k).1 (aO (cyP (aA l) aC) k) k) k).toNat
     (cK (ph2 (aA l) k).2 (aM (fdP (aA l) (ph1 (aA l) (nC (aA l))).2.1 (ph2 (aA l) k).1 (aO (cyP (aA l) aC) k) k) k).toNat++[aO (cyP (aA l) aC) k])):=by
    show(if _ then _ else _)=_;rw[if_neg ho]
   refine⟨by rw[e];dsimp only;rw[AL];exact I.l1,by rw[e];dsimp only;rw[fG];exact I.l2,by rw[e];exact v1,by rw[e];exact v2,?_⟩;rw[e];intro f hf;dsimp only at hf;rcases Qd hf with hf|rfl
   .have:=I.r f hf;exact⟨by omega,this.2⟩
   .have hv:=v1 k (by omega);have hr:=I.r _ (zI (l:=(ph2 (aA l) k).2) (i:=(aM (fdP (aA l) (ph1 (aA l) (nC (aA l))).2.1 (ph2 (aA l) k).1 (aO (cyP (aA l) aC) k) k) k).toNat) (by rw[I.l2];omega));refine⟨by rw[dn,eL];omega,λc hcm=> ?_⟩;rcases eA.1 hcm with hcm|hcm
    .exact hr.2 c hcm
    .rw[bN.1 hcm];exact hc.1
theorem sU(p:Pl)(o fa:List Int):∀e,(ph3 p o fa e).length=p.es.length
 |0=>rfl
 |e+1=>by unfold ph3;rw[fG,sU p o fa e]
theorem Wr{L:List Ed}{x:Nat}{a b:Int}(h:x<L.length):(L.set x (⟨(aU L x).fr,(aU L x).to,a,(aU L x).rt,(aU L x).src⟩:Ed)).set x (⟨(aU (L.set x (⟨(aU L x).fr,(aU L x).to,a,(aU L x).rt,(aU L x).src⟩:Ed)) x).fr,(aU (L.set x (⟨(aU L x).fr,(aU L x).to,a,(aU L x).rt,(aU L x).src⟩:Ed)) x).to,(aU (L.set x (⟨(aU L x).fr,(aU L x).to,a,(aU L x).rt,(aU L x).src⟩:Ed)) x).lf,b,(aU (L.set x (⟨(aU L x).fr,(aU L x).to,a,(aU L x).rt,(aU L x).src⟩:Ed)) x).src⟩:Ed)=L.set x {aU L x with lf:=a,rt:=b}:=by
 have e:∀v:Ed,aU (L.set x v) x=v:=by intro v;unfold aU;rw[b8,iG,if_pos rfl,if_pos h];rfl
 rw[e,List.set_set]
theorem AT{l:List aBZ}(h:fF l≠0):bf l=⟨[],[],[],[]⟩:=if_neg h
theorem Fk{vs pts:List Pt}{j:Nat}:0<=fe vs pts j↔1<=j:=by
 unfold fe;split
 .rename_i h;exact⟨λ_=>h,λ_=>x4 _⟩
 .rename_i h;exact⟨λh2=>by omega,λh2=>absurd h2 h⟩
theorem GR{vs pts:List Pt}{i:Int}{M:MF}{j:Nat}(h:1<=j):eK (dE vs pts i M j) ((fe vs pts j).toNat,ptX (aP pts j) vs) i=dE vs pts i M (j+1):=by
 have e:(fe vs pts j).toNat=ptX (aP pts (j-1)) vs:=by unfold fe;rw[if_pos h];rfl
 rw[e];exact(if_pos h).symm
theorem WY{vs pts:List Pt}{i:Int}{M:MF}{j:Nat}(h:¬1<=j):dE vs pts i M j=dE vs pts i M (j+1):=(if_neg h).symm
theorem Sp{vs pts:List Pt}{j:Nat}:(ptX (aP pts j) vs:Int)=fe vs pts (j+1):=by unfold fe;rw[if_pos (by omega)];rfl
theorem Xo{l:List aBZ}(B:BdOk l):∀v∈vsP l,POk v:=by intro v hv;obtain⟨i,h1,h2⟩:=zm ((fP _ _).mem_iff.1 (vG _ v hv));exact B.raw i h1 v (zF h2)
theorem As{a n:Nat}(h1:a<=100)(h2:n<=100):a*(3*n+2)<=30200:=by have:a*(3*n+2)<=100*(3*n+2):=Nat.mul_le_mul_right _ h1;omega
theorem Dx{α:Type}:∀{M:List α} {i:Nat} {q:α},M[i]? =some q->(q::M.eraseIdx i).Perm M
 |[],_,_,h=>by simp at h
 |p::M,0,q,h=>by simp at h;subst h;exact uJ _
 |p::M,i+1,q,h=>(List.Perm.swap p q _).trans ((Dx (M:=M) (i:=i) (by simpa using h)).cons p)
theorem UN{M:MF}{i:Nat}{q:(Nat×Nat)×List Int}(h:M[i]? =some q)(E:List Ed):(E++[(⟨(q.1.1:Int),(q.1.2:Int),0,0,q.2⟩:Ed)] ++edM (M.eraseIdx i)).Perm (E++edM M):=by have h2:=(Dx h).map λq:(Nat×Nat)×List Int=>(⟨q.1.1,q.1.2,0,0,q.2⟩:Ed);rw[cO]at h2;rw[lN];exact List.Perm.append_left E h2
theorem AM(l:List aBZ):(edM (cT l l.length)).length=(esP l).length:=((fP _ _).length_eq).symm
theorem PlOk.fs{p:Pl}(P:PlOk p)(fs:List (List (List Int))):PlOk ⟨p.sg,p.vs,p.es,fs⟩:=⟨P.ls,P.lv,P.le,P.fr,P.src,P.bd,P.pt⟩
theorem LvIn.fs{p:Pl}{L:List (List Int)}(V:LvIn p L)(fs:List (List (List Int))):LvIn ⟨p.sg,p.vs,p.es,fs⟩ L:=⟨V.len,V.row⟩
theorem G4(p:Pl)(fs:List (List (List Int)))(c:List Int):∀k,ft ⟨p.sg,p.vs,p.es,fs⟩ c k=ft p c k
 |0=>rfl
 |k+1=>by
  show min (ft ⟨p.sg,p.vs,p.es,fs⟩ c k) (stP ⟨p.sg,p.vs,p.es,fs⟩ (aM c k))=min (ft p c k) (stP p (aM c k));rw[G4 p fs c k];rfl
theorem AE(p:Pl)(fs:List (List (List Int)))(c:List Int):b9 ⟨p.sg,p.vs,p.es,fs⟩ c=b9 p c:=G4 p fs c _
theorem YL(p:Pl)(fs:List (List (List Int)))(c:List Int)(L:List (List Int)):inP ⟨p.sg,p.vs,p.es,fs⟩ c L=inP p c L:=by unfold inP;rw[AE];rfl
theorem I7(p:Pl)(fs:List (List (List Int)))(q:Pt):∀k,bwK ⟨p.sg,p.vs,p.es,fs⟩ q k=bwK p q k
 |0=>rfl
 |k+1=>by
  show bwS q (bwE ⟨p.sg,p.vs,p.es,fs⟩ k) (bwK ⟨p.sg,p.vs,p.es,fs⟩ q k)=bwS q (bwE p k) (bwK p q k);rw[I7 p fs q k];rfl
theorem Yk(p:Pl)(fs:List (List (List Int)))(q:Pt):bwP ⟨p.sg,p.vs,p.es,fs⟩ q=bwP p q:=by unfold bwP;rw[I7]
theorem Oo(l:List (List (List Int)))(i:Nat):cW l i [] =cK l i:=rfl
structure PlS(p:Pl):Prop where
 ok:PlOk p
 f:PlF p
def PlS.ed{p:Pl}(h:PlS p){e:Ed}(he:e∈p.es):EdIn p e:=by have h1:=h.ok.fr e he;exact⟨⟨h1.1,h1.2.1⟩,⟨h1.2.2.1,h1.2.2.2⟩,(h.ok.src e he).2,(h.f.ed e he).2.2.2.2⟩
def sV{n m:Int}(h:0<=n/\n<m):cU n m=false:=by unfold cU;simp;omega
def JJ{l:List Int}{m:Int}(h:∀x∈l,0<=x/\x<m):(l.any λn=>cU n m)=false:=by rw[List.any_eq_false];intro x hx;rw[sV (h x hx)];decide
noncomputable def Zo:Con:=CQ (ac (aL .I) (a1 Bt)) (λ(l,_)=>[l.length<=1000000]) (λ(l,c)=> .bool (l.any λn=>cU n c.2.1.sg.length)) (ac (aL .I) (a1 Bs)) (λ(l,c)=>[l.length<=1000000,PlOk c.2.1]) (λ(l,c)=> .bool (l.any λn=>cU n (2*(c.2.1.es.length:Int))))
noncomputable def Kn:Tab:=ao [(134,Zo)] Mb
def IA:Kn.Ok aG:=ap Yw ⟨Hf LY ZR,trivial⟩
def xN(p:Pl)(h:Int):Int:=if h.tmod 2=0 then(aU p.es (h.tdiv 2).toNat).lf else(aU p.es (h.tdiv 2).toNat).rt
def bo(p:Pl)(v:V):Int×Int:=
 if bP v 4000=false\/p.fs.length=0 then(0,0)
 else if 0<=fI (λu=>decide (bG v=u)) p.vs then(1,fI (λu=>decide (bG v=u)) p.vs)
 else if 0<=fI (λe=>btP p v e) p.es then(2,fI (λe=>btP p v e) p.es)
 else if bwP p (bG v)<0 then(3,0)
 else(3,xN p (bwP p (bG v)))
def X4{v:V}(hv:bd 4000 v):QOk (bG v):=by unfold bd at hv;refine⟨⟨Int.le_refl 1,by show(1:Int)<=33000000;omega⟩,?_,?_⟩<;>(show _<=_/\_<=_)<;>(unfold bG;dsimp only;omega)
noncomputable def O7:Con:=con (a1 aPl) (λp=>[PlS p]) (λ_=> .bool true)
def aAz:O7.Ok aG 70:=a8 (aw IA) (raw:=aq) (λp=>[cnt 3 14 p.es.length λ_=>True,cnt 10 69 p.fs.length (λ_=>True) λk=>[cnt 13 76 (cK p.fs k).length λ_=>True]]
  ) (λ_=>⟨_,rfl⟩) λp hp=>au (q:=(0=(0:Int)/\(0:Nat)<=p.es.length/\True)/\
 (∀x:Nat,x<=p.es.length/\True->((x:Int)<p.es.length->ix (x:Int) p.es.length/\(cU (aU p.es x).fr (p.vs.length:Int)=true->false=true)/\
   (cU (aU p.es x).fr (p.vs.length:Int)=false->(cU (aU p.es x).to (p.vs.length:Int)=true->false=true)/\
    (cU (aU p.es x).to (p.vs.length:Int)=false->(cU (aU p.es x).lf (p.fs.length:Int)=true->false=true)/\
     (cU (aU p.es x).lf (p.fs.length:Int)=false->(cU (aU p.es x).rt (p.fs.length:Int)=true->false=true)/\
      (cU (aU p.es x).rt (p.fs.length:Int)=false->(((aU p.es x).src.length:Int)=0->false=true)/\
       (¬((aU p.es x).src.length:Int)=0->(aU p.es x).src.length<=1000000/\(io (aU p.es x).src (λn=>cU n (p.sg.length:Int))=true->false=true)/\
        (io (aU p.es x).src (λn=>cU n (p.sg.length:Int))=false->aH ((x:Int)+1)/\(x:Int)+1=((x+1:Nat):Int)/\x+1<=p.es.length/\True/\p.es.length-(x+1)<p.es.length-x)))))))/\
  (¬(x:Int)<p.es.length->(0=(0:Int)/\(0:Nat)<=p.fs.length/\True)/\
   (∀x_1:Nat,x_1<=p.fs.length/\True->((x_1:Int)<p.fs.length->ix (x_1:Int) p.fs.length/\(0=(0:Int)/\(0:Nat)<=(cK p.fs x_1).length/\True)/\
     (∀x_2:Nat,x_2<=(cK p.fs x_1).length/\True->((x_2:Int)<(cK p.fs x_1).length->ix (x_2:Int) (cK p.fs x_1).length/\(aO (cK p.fs x_1) x_2).length<=1000000/\PlOk p/\(io (aO (cK p.fs x_1) x_2) (λn=>cU n (2*(p.es.length:Int)))=true->false=true)/\
       (io (aO (cK p.fs x_1) x_2) (λn=>cU n (2*(p.es.length:Int)))=false->aH ((x_2:Int)+1)/\(x_2:Int)+1=((x_2+1:Nat):Int)/\x_2+1<=(cK p.fs x_1).length/\True/\(cK p.fs x_1).length-(x_2+1)<(cK p.fs x_1).length-x_2))/\
      (¬(x_2:Int)<(cK p.fs x_1).length->aH ((x_1:Int)+1)/\(x_1:Int)+1=((x_1+1:Nat):Int)/\x_1+1<=p.fs.length/\True/\p.fs.length-(x_1+1)<p.fs.length-x_1)))/\
    (¬(x_1:Int)<p.fs.length->true=true))))) (by kernel_rfl) (by
  change PlS p at hp;have h0:=hp.ok;have hl:=h0.le;have hs:=h0.ls;have hf:=hp.f.lf;refine⟨⟨rfl,cu _,trivial⟩,λx hx=>⟨λhlt=> ?_,λhge=>⟨⟨rfl,cu _,trivial⟩,λy hy=>⟨λhlt=>⟨by unfold ix;omega,⟨rfl,cu _,trivial⟩,λz hz=>⟨λhlt2=> ?_,λhge2=>⟨by unfold aH;omega,by omega,by omega,trivial,by omega⟩⟩⟩,λhge2=>rfl⟩⟩⟩⟩
  .have hm:aU p.es x∈p.es:=by rw[show aU p.es x=p.es[x]'(by omega)from cR (by omega)];exact eG _
   have E:=hp.ed hm;have E2:=hp.f.ed _ hm;rw[sV E.fr,sV E.to,sV ⟨E2.1,E2.2.1⟩,sV ⟨E2.2.2.1,E2.2.2.2.1⟩,JJ E.src];have E3:=(h0.src _ hm).1;exact⟨by unfold ix;omega,λh=>h,λ_=>⟨λh=>h,λ_=>⟨λh=>h,λ_=>⟨λh=>h,λ_=>⟨λh=>by omega,λ_=>⟨E.len,λh=>h,λ_=>⟨by unfold aH;omega,by omega,by omega,trivial,by omega⟩⟩⟩⟩⟩⟩⟩
  .have hm:cK p.fs y∈p.fs:=by rw[show cK p.fs y=p.fs[y]'(by omega)from cR (by omega)];exact eG _
   have F:=hp.f.fc _ hm;have hm2:aO (cK p.fs y) z∈cK p.fs y:=by rw[show aO (cK p.fs y) z=(cK p.fs y)[z]'(by omega)from cR (by omega)];exact eG _
   have F2:=F.2 _ hm2;rw[JJ F2.2];exact⟨by unfold ix;omega,F2.1,h0,λh=>h,λ_=>⟨by unfold aH;omega,by omega,by omega,trivial,by omega⟩⟩)
noncomputable def Ms:Tab:=ao [(70,O7)] Kn
def Jb:Ms.Ok aG:=ap IA ⟨aAz,trivial⟩
noncomputable def PK:Con:=con (ac aPl (a1 aV)) (λ(p,_)=>[PlS p]) (λ(p,v)=> .tup [.int .i64 (bo p v).1,.int .i64 (bo p v).2]
 )
def aAJ:PK.Ok aG 22:=a8 (aw Jb) (raw:=aq) (λ(_,_)=>[]) (λ(_,_)=>⟨_,rfl⟩) λ(p,v) hp=>au (q:=(0:Int)<=4000/\(4000:Int)<=9000000000000000000/\((!bP v 4000)=true->0=(bo p v).1/\0=(bo p v).2)/\
 ((!bP v 4000)=false->PlS p/\((!true)=true->0=(bo p v).1/\0=(bo p v).2)/\
  ((!true)=false->((p.fs.length:Int)=0->0=(bo p v).1/\0=(bo p v).2)/\
   (¬(p.fs.length:Int)=0->p.vs.length<=1000000/\(0<=fI (λu=>decide ((bG v)=u)) p.vs->1=(bo p v).1/\fI (λu=>decide ((bG v)=u)) p.vs=(bo p v).2)/\
    (¬0<=fI (λu=>decide ((bG v)=u)) p.vs->p.es.length<=1000000/\PlOk p/\(∀e:Ed,e∈p.es->EdIn p e)/\bd 4000 v/\(0<=fI (λe=>btP p v e) p.es->2=(bo p v).1/\fI (λe=>btP p v e) p.es=(bo p v).2)/\
     (¬0<=fI (λe=>btP p v e) p.es->PlOk p/\QOk (bG v)/\(bwP p (bG v)<0->3=(bo p v).1/\0=(bo p v).2)/\
      (¬bwP p (bG v)<0->(2:Int)≠0/\(dc (bwP p (bG v)) 2=0->(2:Int)≠0/\aH (bp (bwP p (bG v)) 2)/\ix (bp (bwP p (bG v)) 2) p.es.length/\3=(bo p v).1/\(aU p.es (bp (bwP p (bG v)) 2).toNat).lf=(bo p v).2)/\
       (¬dc (bwP p (bG v)) 2=0->(2:Int)≠0/\aH (bp (bwP p (bG v)) 2)/\ix (bp (bwP p (bG v)) 2) p.es.length/\3=(bo p v).1/\(aU p.es (bp (bwP p (bG v)) 2).toNat).rt=(bo p v).2)))))))) (by kernel_rfl) (by
  change PlS p at hp;have h0:=hp.ok;have hl:=h0.le;have hlv:=h0.lv;have hf:=hp.f.lf;unfold bo;refine⟨by decide,by decide,λhw=> ?_,λhw=>cl hp (cl (λh=>nomatch h) (λ_=>cl (λhz=> ?_) (λhz=> ?_)))⟩
  .have hw:bP v 4000=false:=by simpa using hw
   rw[if_pos (.inl hw)];exact⟨rfl,rfl⟩
  .rw[if_pos (.inr (by omega))];exact⟨rfl,rfl⟩
  .have hw:bP v 4000=true:=by simpa using hw
   have hv:bd 4000 v:=ti hw;have hq:=X4 hv
   rw[if_neg (by rw[hw];intro h;rcases h with h|h; · cases h
                 .omega)]
   refine⟨by omega,λh1=>by rw[if_pos h1];exact⟨rfl,rfl⟩,λh1=>⟨by omega,h0,λe he=>hp.ed he,hv,λh2=>by rw[if_neg h1,if_pos h2];exact⟨rfl,rfl⟩,λh2=>⟨h0,hq,λh3=>by rw[if_neg h1,if_neg h2,if_pos h3];exact⟨rfl,rfl⟩,λh3=> ?_⟩⟩⟩;have H:=BB (p:=p) (q:=bG v) (by omega);have He:=H.e;rw[if_neg h1,if_neg h2,if_neg h3];unfold xN;refine⟨by decide,λh4=> ?_,λh4=> ?_⟩
   .rw[if_pos h4];exact⟨by decide,by unfold aH;omega,by unfold ix;omega,rfl,rfl⟩
   .rw[if_neg h4];exact⟨by decide,by unfold aH;omega,by unfold ix;omega,rfl,rfl⟩)
noncomputable def NH:Tab:=ao [(22,PK)] Ms
def Jn:NH.Ok aG:=ap Jb ⟨aAJ,trivial⟩
noncomputable section
def Zh(N:Nat)(a b a' b':Int)(w:World):Sem.run aG (Op.equalIn (N+1+1) 71 (.agg #[.int .i64 a,.int .i64 b]) (.agg #[.int .i64 a',.int .i64 b'])) w= .ok (a==a'&&b==b') w:=by
 have hS:aG.underlying 71=some (.struct (aG.fieldsOf 71)):=by kernel_rfl
 have hp:aG.stoodInHeld 71=false:=by kernel_rfl
 rw[run_equalIn_agg w (N+1) 71 _ _ hS hp];simp only[Program.fieldsOf,Tryz.underlying71]
 go_simp
 grind
def Vy:ou aG 71 2:=by
 intro xs ys x y w hx hy;match xs,ys,hx,hy with
 |[a,b],[a',b'],_,_=>
  have h1:=Zh 9998 a b a' b' w;have e:(([a,b] :List Int)==[a',b'])=(a==a'&&b==b'):=by rw[Bool.eq_iff_iff];simp
  refine⟨?_,?_⟩
  .simp only[eqGuard,bi];simp[Result.andThen];rw[run_eql_struct,h1];simp_all
  .unfold bne;rw[e];simp[eqGuard];rw[run_neq_struct,h1];simp_all
def cxW(T:Tab):Cx:=⟨aG,T,ltL [(53,.V),(57,.S),(64,.R),(3,.I),(2,.I),(1,.I),(4,.B),(60,.T),(25,.U),(45,.E),(49,.F),(43,.Q),(71,.V),(77,.E),(114,.F)],[(53,2),(57,4),(60,3),(71,2)],λ_=>false,λ_=>false⟩
def Zn(T:Tab):(cxW T).q.Ok aG:=λt m hm=>by
 rcases bc.1 hm with h|hm
 .cases h;exact F7
 rcases bc.1 hm with h|hm
 .cases h;exact F6
 rcases bc.1 hm with h|h
 .cases h;exact Fz
 .rw[bN]at h;cases h;exact Vy
def qQ{T:Tab}(h:T.Ok aG):(cxW T).Ok:=⟨h,Zn T,λt ht=>by cases ht⟩
end
def jT(p:Pl)(h:Int):Int×Int:=if h.tmod 2=0 then((aU p.es (h.tdiv 2).toNat).fr,(aU p.es (h.tdiv 2).toNat).to)else((aU p.es (h.tdiv 2).toNat).to,(aU p.es (h.tdiv 2).toNat).fr)
noncomputable def QC:Con:=con (a1 (aL .S)) (λ_=>[]) (λl=> .bool (decide (l.length<=24))
 )
def aBx:QC.Ok aG 12:=a8 (qQ Jn) (raw:=aq) (λ_=>[]) (λ_=>⟨_,rfl⟩) λl _=>au (q:=decide ((l.length:Int)<=24)=decide (l.length<=24)) (by kernel_rfl) (by
 by_cases h:l.length<=24
 .rw[decide_eq_true h,decide_eq_true (by omega)]
 .rw[decide_eq_false h,decide_eq_false (by omega)])
noncomputable def OF:Tab:=ao [(12,QC)] NH
def Kr:OF.Ok aG:=ap Jn ⟨aBx,trivial⟩
noncomputable def O8:Con:=con (ac aPl (a1 aI)) (λ(p,h)=>[HIn p h,p.es.length<=1000000]) (λ(p,h)=> .tup [.int .i64 (jT p h).1,.int .i64 (jT p h).2]
 )
def aAA:O8.Ok aG 67:=a8 (qQ Kr) (raw:=aq) (λ(_,_)=>[]) (λ(_,_)=>⟨_,rfl⟩) λ(p,h) hp=>au (q:=(2:Int)≠0/\aH (bp h 2)/\ix (bp h 2) p.es.length/\(2:Int)≠0/\(dc h 2=0->(aU p.es (bp h 2).toNat).fr=(jT p h).1/\(aU p.es (bp h 2).toNat).to=(jT p h).2)/\
 (¬dc h 2=0->(aU p.es (bp h 2).toNat).to=(jT p h).1/\(aU p.es (bp h 2).toNat).fr=(jT p h).2)) (by kernel_rfl) (by
  change HIn p h/\p.es.length<=1000000 at hp;obtain⟨H,hl⟩:=hp;have He:=H.e;unfold jT;refine⟨by decide,by unfold aH;omega,by unfold ix;omega,by decide,λh1=> ?_,λh1=> ?_⟩
  .rw[if_pos h1];exact⟨rfl,rfl⟩
  .rw[if_neg h1];exact⟨rfl,rfl⟩)
noncomputable def Mu:Tab:=ao [(67,O8)] OF
def Jc:Mu.Ok aG:=ap Kr ⟨aAA,trivial⟩
noncomputable def PZ:Con:=con (ac aPl (a1 aI)) (λ(p,h)=>[HIn p h,p.es.length<=1000000]) (λ(p,h)=> .tup [.int .i64 (jT p h).1,.int .i64 (jT p h).2]
 )
def aAX:PZ.Ok aG 19:=a8 (qQ Jc) (raw:=aq) (λ(_,_)=>[]) (λ(_,_)=>⟨_,rfl⟩) λ(p,h) hp=>au (q:=HIn p h/\p.es.length<=1000000/\(jT p h).1=(jT p h).1/\(jT p h).2=(jT p h).2) (by kernel_rfl) (by change HIn p h/\p.es.length<=1000000 at hp;exact⟨hp.1,hp.2,rfl,rfl⟩)
noncomputable def NW:Tab:=ao [(19,PZ)] Mu
def J5:NW.Ok aG:=ap Jc ⟨aAX,trivial⟩
noncomputable def Pk:Con:=con (a1 aPl) (λp=>[p.es.length<=1000000,p.fs.length<=1000000]) (λp=> .agg [.lst .S p.sg,.lst .T p.vs,.lst .E p.es,.lst .F p.fs])
def aA8:Pk.Ok aG 16:=a8 (qQ J5) (raw:=aq) (λp=>[lp 3 16 p.es.length (λ_=>[]) [901] (λ_=>[]) (λk=>[(7,.box 36 [.lst .S p.sg,.lst .T p.vs,.own 901 .E (p.es.take k).length,.nil]),(901,.row 77 .E (p.es.take k))]),
  lp 8 30 p.fs.length (λ_=>[]) [990] (λ_=>[]) (λk=>[(7,.box 36 [.lst .S p.sg,.lst .T p.vs,.own 901 .E p.es.length,.own 990 .F (p.fs.take k).length]),(990,.row 114 .F (p.fs.take k))])]
  ) (λ_=>⟨_,rfl⟩) λp hp=>au (q:=(0=(0:Int)/\p.sg=p.sg/\p.vs=p.vs/\(bL 0 p.es).length=0/\bL 0 p.es=([] :List Ed)/\(0:Nat)<=p.es.length)/\
 (∀x:Nat,x<=p.es.length->((x:Int)<p.es.length->ix (x:Int) p.es.length/\(bL x p.es).length=(bL x p.es).length/\(bL x p.es).length+[(aU p.es x)].length<=1000000/\aH ((x:Int)+1)/\(x:Int)+1=((x+1:Nat):Int)/\p.sg=p.sg/\p.vs=p.vs/\(bL x p.es++[(aU p.es x)]).length=(bL (x+1) p.es).length/\bL x p.es++[(aU p.es x)] =bL (x+1) p.es/\x+1<=p.es.length/\p.es.length-(x+1)<p.es.length-x)/\
  (¬(x:Int)<p.es.length->(0=(0:Int)/\p.sg=p.sg/\p.vs=p.vs/\(bL x p.es).length=p.es.length/\(bL 0 p.fs).length=0/\bL 0 p.fs=([] :List (List (List Int)))/\(0:Nat)<=p.fs.length)/\
   (∀x_1:Nat,x_1<=p.fs.length->((x_1:Int)<p.fs.length->ix (x_1:Int) p.fs.length/\(bL x_1 p.fs).length=(bL x_1 p.fs).length/\(bL x_1 p.fs).length+[cK p.fs x_1].length<=1000000/\aH ((x_1:Int)+1)/\(x_1:Int)+1=((x_1+1:Nat):Int)/\p.sg=p.sg/\p.vs=p.vs/\p.es.length=p.es.length/\(bL x_1 p.fs++[cK p.fs x_1]).length=(bL (x_1+1) p.fs).length/\bL x_1 p.fs++[cK p.fs x_1] =bL (x_1+1) p.fs/\x_1+1<=p.fs.length/\p.fs.length-(x_1+1)<p.fs.length-x_1)/\
    (¬(x_1:Int)<p.fs.length->p.es.length=(bL x p.es).length/\(bL x_1 p.fs).length=(bL x_1 p.fs).length/\p.sg=p.sg/\p.vs=p.vs/\bL x p.es=p.es/\bL x_1 p.fs=p.fs))))) (by kernel_rfl) (by
  change p.es.length<=1000000/\p.fs.length<=1000000 at hp;obtain⟨hl,hf⟩:=hp;have te:∀{x},x<p.es.length->p.es.take x++[aU p.es x] =p.es.take (x+1):=λ{x} hx=>by rw[show aU p.es x=p.es[x]from cR hx,Q9 hx]
  have tf:∀{x},x<p.fs.length->p.fs.take x++[cK p.fs x] =p.fs.take (x+1):=λ{x} hx=>by rw[show cK p.fs x=p.fs[x]from cR hx,Q9 hx]
  refine⟨⟨rfl,rfl,rfl,rfl,rfl,cu _⟩,λx hx=>⟨λh=> ?_,λh=>⟨⟨rfl,rfl,rfl,?_,rfl,rfl,cu _⟩,λy hy=>⟨λh2=> ?_,λh2=> ?_⟩⟩⟩⟩
  .have e:=te (x:=x) (by omega);have e2:(p.es.take x).length=x:=by rw[fV];omega
   exact⟨by unfold ix;omega,rfl,by rw[e2,eL];omega,by unfold aH;omega,by omega,rfl,rfl,by rw[e],e,by omega,by omega⟩
  .rw[fV];omega
  .have e:=tf (x:=y) (by omega);have e2:(p.fs.take y).length=y:=by rw[fV];omega
   exact⟨by unfold ix;omega,rfl,by rw[e2,eL];omega,by unfold aH;omega,by omega,rfl,rfl,rfl,by rw[e],e,by omega,by omega⟩
  .obtain rfl:x=p.es.length:=by omega
   obtain rfl:y=p.fs.length:=by omega
   rw[kY,kY];exact⟨rfl,rfl,rfl,rfl,rfl,rfl⟩)
noncomputable def Nj:Tab:=ao [(16,Pk)] NW
def Y1:Nj.Ok aG:=ap J5 ⟨aA8,trivial⟩
structure Q2 where
 x:Rat
 y:Rat
def Q2.ext'{a b:Q2}(h1:a.x=b.x)(h2:a.y=b.y):a=b:=by cases a;cases b;simp_all
def rv(v:V):Q2:=⟨v.x,v.y⟩
def rp(p:Pt):Q2:=⟨p.x/p.den,p.y/p.den⟩
def onQ(a b c:Q2):Prop:=∃t:Rat,0<=t/\t<=1/\c.x=a.x+t*(b.x-a.x)/\c.y=a.y+t*(b.y-a.y)
def onG(s:S)(c:Q2):Prop:=onQ (rv s.a) (rv s.b) c
structure SgOk(s:S):Prop where
 ne:s.a≠s.b
 a:bd 2000 s.a
 b:bd 2000 s.b
def tC{v w:V}(h:rv v=rv w):v=w:=by
 unfold rv at h;injection h with h1 h2
 have h1:v.x=w.x:=by exact_mod_cast h1
 have h2:v.y=w.y:=by exact_mod_cast h2
 cases v;cases w;simp_all
def ED{a b c d:Rat}(hb:0<b)(hd:0<d):a/b=c/d↔a*d=c*b:=by
 have hb:b≠0:=λh=>by rw[h]at hb;exact Rat.lt_irrefl hb
 have hd:d≠0:=λh=>by rw[h]at hd;exact Rat.lt_irrefl hd
 constructor<;>intro h<;>grind
def ux{a b c d:Rat}(hb:0<b)(hd:0<d):a/b<c/d↔a*d<c*b:=by
 have hd':d≠0:=λh=>by rw[h]at hd;exact Rat.lt_irrefl hd
 rw[Rat.div_lt_iff hb];have e:c/d*b=c*b/d:=by grind
 rw[e];constructor
 .intro h;have:=Rat.mul_lt_mul_of_pos_right h hd;have e:c*b/d*d=c*b:=by grind
  rwa[e]at this
 .intro h;have k:a*d<c*b/d*d:=by
   have e:c*b/d*d=c*b:=by grind
   rw[e];exact h
  exact Rat.lt_of_mul_lt_mul_right k (Rat.le_of_lt hd)
def ltQ(a b:Q2):Prop:=a.y<b.y\/(a.y=b.y/\a.x<b.x)
def pw{p q:Pt}(hp:0<p.den)(hq:0<q.den):aW p q<0↔ltQ (rp p) (rp q):=by
 have hp':(0:Rat)<p.den:=by exact_mod_cast hp
 have hq':(0:Rat)<q.den:=by exact_mod_cast hq
 rw[mz];unfold ltQ rp;dsimp only;rw[ux hp' hq',ux hp' hq',ED hp' hq'];have e1:p.y*q.den<q.y*p.den↔(p.y:Rat)*q.den<q.y*p.den:=by exact_mod_cast mL
 have e2:p.x*q.den<q.x*p.den↔(p.x:Rat)*q.den<q.x*p.den:=by exact_mod_cast mL
 have e3:p.y*q.den=q.y*p.den↔(p.y:Rat)*q.den=q.y*p.den:=by exact_mod_cast mL
 rw[e1,e2,e3]
def IQ{p q:Pt}(hp:POk p)(hq:POk q)(h:rp p=rp q):p=q:=by
 have dp:=hp.den;have dq:=hq.den;have hp':(0:Rat)<p.den:=by exact_mod_cast (show(0:Int)<p.den by omega)
 have hq':(0:Rat)<q.den:=by exact_mod_cast (show(0:Int)<q.den by omega)
 refine hp.eq hq (yy.2 ?_);unfold rp at h;injection h with h1 h2
 rw[ED hp' hq']at h1 h2;exact⟨by exact_mod_cast h2,by exact_mod_cast h1⟩
def iT(v:V):rp (bG v)=rv v:=by unfold rp bG rv;refine Q2.ext' ?_ ?_<;>grind
def fX{a b c:Q2}(h1:ltQ a b)(h2:ltQ b c):ltQ a c:=by unfold ltQ at*;grind
def fA{a:Q2}:¬ltQ a a:=by unfold ltQ;grind
def qE(a b:Q2):ltQ a b\/a=b\/ltQ b a:=by
 by_cases h:a=b
 .exact .inr (.inl h)
 .have:¬(a.x=b.x/\a.y=b.y):=λh2=>h (Q2.ext' h2.1 h2.2);unfold ltQ;grind
def rD(s t:S):Rat:=((s.b.x:Rat)-s.a.x)*(t.b.y-t.a.y)-(s.b.y-s.a.y)*(t.b.x-t.a.x)
def rA(s t:S):Rat:=((t.a.x:Rat)-s.a.x)*(t.b.y-t.a.y)-(t.a.y-s.a.y)*(t.b.x-t.a.x)
def rB(s t:S):Rat:=((t.a.x:Rat)-s.a.x)*(s.b.y-s.a.y)-(t.a.y-s.a.y)*(s.b.x-s.a.x)
def qY(s t:S):rD s t=(ba s t:Int):=by unfold rD ba cross aB0;grind
def LM(s t:S):rA s t=(cross (aB0 t.a s.a) (aB0 t.b t.a):Int):=by unfold rA cross aB0;grind
def Y7(s t:S):rB s t=(cross (aB0 t.a s.a) (aB0 s.b s.a):Int):=by unfold rB cross aB0;grind
def rC(s t:S):Q2:=⟨s.a.x+rA s t/rD s t*(s.b.x-s.a.x),s.a.y+rA s t/rD s t*(s.b.y-s.a.y)⟩
def X8{s t:S}(hd:rD s t≠0){c:Q2}{u w:Rat}(h1:c.x=(s.a.x:Rat)+u*(s.b.x-s.a.x))(h2:c.y=(s.a.y:Rat)+u*(s.b.y-s.a.y))
  (h3:c.x=(t.a.x:Rat)+w*(t.b.x-t.a.x)) (h4:c.y=(t.a.y:Rat)+w*(t.b.y-t.a.y)):u=rA s t/rD s t/\w=rB s t/rD s t:=by
 have e1:u*rD s t=rA s t:=by unfold rD rA;grind
 have e2:w*rD s t=rB s t:=by unfold rD rB;grind
 constructor<;>grind
def OZ{s t:S}(hd:rD s t≠0):(rC s t).x=(t.a.x:Rat)+rB s t/rD s t*(t.b.x-t.a.x)/\(rC s t).y=(t.a.y:Rat)+rB s t/rD s t*(t.b.y-t.a.y):=by
 unfold rC;dsimp only;have e1:((s.a.x:Rat)-t.a.x)*rD s t+rA s t*(s.b.x-s.a.x)=rB s t*(t.b.x-t.a.x):=by unfold rD rA rB;grind
 have e2:((s.a.y:Rat)-t.a.y)*rD s t+rA s t*(s.b.y-s.a.y)=rB s t*(t.b.y-t.a.y):=by unfold rD rA rB;grind
 constructor<;>grind
def qC{s t:S}(hd:rD s t≠0){c:Q2}:(onG s c/\onG t c)↔c=rC s t/\0<=rA s t/rD s t/\rA s t/rD s t<=1/\0<=rB s t/rD s t/\rB s t/rD s t<=1:=by
 constructor
 .rintro⟨⟨u,h1,h2,h3,h4⟩,w,h5,h6,h7,h8⟩;obtain⟨e1,e2⟩:=X8 hd h3 h4 h7 h8;subst e1;subst e2;exact⟨Q2.ext' h3 h4,h1,h2,h5,h6⟩
 .rintro⟨rfl,h1,h2,h3,h4⟩;exact⟨⟨_,h1,h2,rfl,rfl⟩,_,h3,h4,(OZ hd).1,(OZ hd).2⟩
def Lg{a d:Int}(hd:d≠0):(0<=(a:Rat)/d/\(a:Rat)/d<=1)↔0<=(if d<0 then-a else a)/\(if d<0 then-a else a)<=(if d<0 then-d else d):=by
 by_cases h:d<0
 .simp only[if_pos h];have h':(0:Rat)<((-d:Int):Rat):=by exact_mod_cast (show 0< -d by omega)
  have e:(a:Rat)/d=((-a:Int):Rat)/((-d:Int):Rat):=by grind
  rw[e];constructor
  .rintro⟨h1,h2⟩;have k1:=Rat.mul_nonneg h1 (Rat.le_of_lt h');have k2:=Rat.mul_le_mul_of_nonneg_right h2 (Rat.le_of_lt h');have e:((-a:Int):Rat)/((-d:Int):Rat)*((-d:Int):Rat)=((-a:Int):Rat):=by grind
   rw[e]at k1 k2;rw[Rat.one_mul]at k2;exact⟨by exact_mod_cast k1,by exact_mod_cast k2⟩
  .rintro⟨h1,h2⟩;have k1:(0:Rat)<=((-a:Int):Rat):=by exact_mod_cast h1
   have k2:((-a:Int):Rat)<=((-d:Int):Rat):=by exact_mod_cast h2
   have k3:(0:Rat)<=((-d:Int):Rat)⁻¹:=Rat.le_of_lt (Rat.inv_pos.2 h');have k4:=Rat.mul_le_mul_of_nonneg_right k2 k3;refine⟨by rw[Rat.div_def];exact Rat.mul_nonneg k1 k3,?_⟩;have e:((-d:Int):Rat)*((-d:Int):Rat)⁻¹=1:=by grind
   rw[e]at k4;rw[Rat.div_def];exact k4
 .simp only[if_neg h];have h':(0:Rat)<(d:Rat):=by exact_mod_cast (show 0<d by omega)
  constructor
  .rintro⟨h1,h2⟩;have k1:=Rat.mul_nonneg h1 (Rat.le_of_lt h');have k2:=Rat.mul_le_mul_of_nonneg_right h2 (Rat.le_of_lt h');have e:(a:Rat)/d*d=a:=by grind
   rw[e]at k1 k2;rw[Rat.one_mul]at k2;exact⟨by exact_mod_cast k1,by exact_mod_cast k2⟩
  .rintro⟨h1,h2⟩;have k1:(0:Rat)<=(a:Rat):=by exact_mod_cast h1
   have k2:(a:Rat)<=(d:Rat):=by exact_mod_cast h2
   have k3:(0:Rat)<=(d:Rat)⁻¹:=Rat.le_of_lt (Rat.inv_pos.2 h');have k4:=Rat.mul_le_mul_of_nonneg_right k2 k3;refine⟨by rw[Rat.div_def];exact Rat.mul_nonneg k1 k3,?_⟩;have e:(d:Rat)*(d:Rat)⁻¹=1:=by grind
   rw[e]at k4;rw[Rat.div_def];exact k4
def D6{s t:S}(hd:ba s t≠0):gc s t (ba s t)≠0↔∃c,onG s c/\onG t c:=by
 have hd':rD s t≠0:=by rw[qY];exact_mod_cast hd
 have h1:=Lg (a:=cross (aB0 t.a s.a) (aB0 t.b t.a)) hd;have h2:=Lg (a:=cross (aB0 t.a s.a) (aB0 s.b s.a)) hd;rw[<-LM,<-qY]at h1;rw[<-Y7,<-qY]at h2;have key:(∃c,onG s c/\onG t c)↔(0<=rA s t/rD s t/\rA s t/rD s t<=1)/\0<=rB s t/rD s t/\rB s t/rD s t<=1:=
  ⟨λ⟨c,hc⟩=>by have:=(qC hd').1 hc;exact⟨⟨this.2.1,this.2.2.1⟩,this.2.2.2⟩,λh=>⟨_,(qC hd').2 ⟨rfl,h.1.1,h.1.2,h.2⟩⟩⟩
 rw[key,h1,h2];unfold gc;dsimp only;generalize (if ba s t<0 then-cross (aB0 t.a s.a) (aB0 t.b t.a)else cross (aB0 t.a s.a) (aB0 t.b t.a))=A;generalize (if ba s t<0 then-cross (aB0 t.a s.a) (aB0 s.b s.a)else cross (aB0 t.a s.a) (aB0 s.b s.a))=B;generalize (if ba s t<0 then-ba s t else ba s t)=E;split
 .constructor
  .intro h;exact absurd rfl h
  .intro h;omega
 .constructor
  .intro _;omega
  .intro _;split<;>decide
def T4{s t:S}(hd:ba s t≠0):(⟨(lX s t (ba s t):Rat)/lE (ba s t),(lY s t (ba s t):Rat)/lE (ba s t)⟩:Q2)=rC s t:=by
 have hd':rD s t≠0:=by rw[qY];exact_mod_cast hd
 have e0:((lE (ba s t):Int):Rat)=if ba s t<0 then-rD s t else rD s t:=by unfold lE;rw[qY];split<;>grind
 have e1:((lA s t (ba s t):Int):Rat)=if ba s t<0 then-rA s t else rA s t:=by unfold lA;rw[LM];split<;>grind
 have ex:((lX s t (ba s t):Int):Rat)=s.a.x*lE (ba s t)+lA s t (ba s t)*(s.b.x-s.a.x):=by unfold lX aB0;grind
 have ey:((lY s t (ba s t):Int):Rat)=s.a.y*lE (ba s t)+lA s t (ba s t)*(s.b.y-s.a.y):=by unfold lY aB0;grind
 unfold rC;refine Q2.ext' ?_ ?_<;>dsimp only<;>(first|rw[ex] |rw[ey])<;>rw[e0,e1] <;>split<;>grind
def y8{a g:Int}(hg:0<g)(h:g∣a):a.tdiv g*g=a:=Int.tdiv_mul_cancel h
def YK{X Y E g:Int}(hE:0<E)(hg:g=((bz (bz X.natAbs Y.natAbs:Int).natAbs E.natAbs:Nat):Int)):
  0<g/\X.tdiv g*g=X/\Y.tdiv g*g=Y/\E.tdiv g*g=E/\0<E.tdiv g/\bz (bz (X.tdiv g).natAbs (Y.tdiv g).natAbs) (E.tdiv g).natAbs=1:=by
 have hg2:g=((bz (bz X.natAbs Y.natAbs) E.natAbs:Nat):Int):=by rw[hg];simp
 have hpos:0<bz (bz X.natAbs Y.natAbs) E.natAbs:=Nat.gcd_pos_of_pos_right _ (by omega);generalize hG:bz (bz X.natAbs Y.natAbs) E.natAbs=G at*;have hgp:0<g:=by omega
 have d1:G∣X.natAbs:=by rw[<-hG];exact Nat.dvd_trans (Nat.gcd_dvd_left _ _) (Nat.gcd_dvd_left _ _)
 have d2:G∣Y.natAbs:=by rw[<-hG];exact Nat.dvd_trans (Nat.gcd_dvd_left _ _) (Nat.gcd_dvd_right _ _)
 have d3:G∣E.natAbs:=by rw[<-hG];exact Nat.gcd_dvd_right _ _
 have k1:X.tdiv g*g=X:=y8 hgp (by rw[hg2];exact RB.2 d1);have k2:Y.tdiv g*g=Y:=y8 hgp (by rw[hg2];exact RB.2 d2);have k3:E.tdiv g*g=E:=y8 hgp (by rw[hg2];exact RB.2 d3);have k4:0<E.tdiv g:=by
  rcases xx (E.tdiv g) 0 with h|h|h
  .have:=Int.mul_neg_of_neg_of_pos h hgp;omega
  .rw[h]at k3;omega
  .exact h
 refine⟨hgp,k1,k2,k3,k4,?_⟩;have n1:(X.tdiv g).natAbs*G=X.natAbs:=by have:=congrArg bh k1;rw[pV]at this;rw[<-this];congr 1;omega
 have n2:(Y.tdiv g).natAbs*G=Y.natAbs:=by have:=congrArg bh k2;rw[pV]at this;rw[<-this];congr 1;omega
 have n3:(E.tdiv g).natAbs*G=E.natAbs:=by have:=congrArg bh k3;rw[pV]at this;rw[<-this];congr 1;omega
 rw[<-n1,<-n2,<-n3,DB,DB]at hG;exact Nat.eq_of_mul_eq_mul_right hpos (by rw[hG,nv])
def Ih{a b A B:Int}(h1: -A<=a)(h2:a<=A)(h3: -B<=b)(h4:b<=B): -(A*B)<=a*b/\a*b<=A*B:=iI ⟨h1,h2⟩ ⟨h3,h4⟩
def Hc{a b A E:Int}(ha: -2000<=a/\a<=2000)(hb: -2000<=b/\b<=2000)(h0:0<=A)(h1:A<=E): -(2000*E)<=a*E+A*(b-a)/\a*E+A*(b-a)<=2000*E:=by
 have e:a*E+A*(b-a)=a*(E-A)+b*A:=by grind
 have k1:=jw ha.2 (show 0<=E-A by omega);have k2:=jw ha.1 (show 0<=E-A by omega);have k3:=jw hb.2 h0;have k4:=jw hb.1 h0;omega
def Fj{s t:S}(hs:SgOk s)(ht:SgOk t)(hd:ba s t≠0)(hk:gc s t (ba s t)≠0):
  POk (bH s t (ba s t)).p/\(bH s t (ba s t)).p.den<=33000000/\rp (bH s t (ba s t)).p=rC s t:=by
 rw[rc rfl hk];dsimp only;have hA:0<=lA s t (ba s t)/\lA s t (ba s t)<=lE (ba s t):=by
  by_cases h:lA s t (ba s t)<0\/lE (ba s t)<lA s t (ba s t)\/lB s t (ba s t)<0\/lE (ba s t)<lB s t (ba s t)
  .exact absurd (if_pos h) hk
  .omega
 have hE:0<lE (ba s t)/\lE (ba s t)<=32000000:=by have a:=hs.a;have b:=hs.b;have a':=ht.a;have b':=ht.b;unfold bd at a b a' b';have k1:=Ih (A:=4000) (B:=4000) (a:=s.b.x-s.a.x) (b:=t.b.y-t.a.y) (by omega) (by omega) (by omega) (by omega);have k2:=Ih (A:=4000) (B:=4000) (a:=s.b.y-s.a.y) (b:=t.b.x-t.a.x) (by omega) (by omega) (by omega) (by omega);have e:ba s t=(s.b.x-s.a.x)*(t.b.y-t.a.y)-(s.b.y-s.a.y)*(t.b.x-t.a.x):=rfl;unfold lE;split<;>omega
 obtain⟨hg,k1,k2,k3,k4,k5⟩:=YK (X:=lX s t (ba s t)) (Y:=lY s t (ba s t)) (E:=lE (ba s t)) (g:=lG s t (ba s t)) hE.1 rfl;have bX:=Hc (a:=s.a.x) (b:=s.b.x) (by have:=hs.a;unfold bd at this;omega) (by have:=hs.b;unfold bd at this;omega) hA.1 hA.2;have bY:=Hc (a:=s.a.y) (b:=s.b.y) (by have:=hs.a;unfold bd at this;omega) (by have:=hs.b;unfold bd at this;omega) hA.1 hA.2;rw[show s.a.x*lE (ba s t)+lA s t (ba s t)*(s.b.x-s.a.x)=lX s t (ba s t)from rfl]at bX;rw[show s.a.y*lE (ba s t)+lA s t (ba s t)*(s.b.y-s.a.y)=lY s t (ba s t)from rfl]at bY;have er:=T4 hd;generalize lX s t (ba s t)=X at*;generalize lY s t (ba s t)=Y at*;generalize lE (ba s t)=E at*;generalize lG s t (ba s t)=g at*;generalize X.tdiv g=x at*;generalize Y.tdiv g=y at*;generalize E.tdiv g=e at*;have hcan:∀{a b:Int},a*g<=b*g->a<=b:=λh=>Int.le_of_mul_le_mul_right h hg;have eE:2000*E=2000*e*g:=by rw[<-k3];grind
 have he:e<=32000000:=by have:e*1<=e*g:=Int.mul_le_mul_of_nonneg_left (by omega) (by omega);omega
 have x1:x<=2000*e:=hcan (by omega);have x2: -(2000*e)<=x:=hcan (by rw[Int.neg_mul];omega);have y1:y<=2000*e:=hcan (by omega);have y2: -(2000*e)<=y:=hcan (by rw[Int.neg_mul];omega);refine⟨⟨?_,?_⟩,by omega,?_⟩
 .unfold c8 dX bP;simp only[bv,decide_eq_true_eq,beq_iff_eq];refine⟨?_,k5⟩;omega
 .unfold dX bP;simp only[bv,decide_eq_true_eq];omega
 .rw[<-er];have hg':(g:Rat)≠0:=by exact_mod_cast (show g≠0 by omega)
  have he':(e:Rat)≠0:=by exact_mod_cast (show e≠0 by omega)
  have eX:(X:Rat)=x*g:=by exact_mod_cast k1.symm
  have eY:(Y:Rat)=y*g:=by exact_mod_cast k2.symm
  have eE':(E:Rat)=e*g:=by exact_mod_cast k3.symm
  unfold rp;refine Q2.ext' ?_ ?_<;>dsimp only
  .rw[eX,eE'];grind
  .rw[eY,eE'];grind
def cr(a b c:Q2):Rat:=(b.x-a.x)*(c.y-a.y)-(b.y-a.y)*(c.x-a.x)
def DO{a t:Rat}(ha:0<a):(0<=t*a->0<=t)/\(t*a<=a->t<=1):=by
 constructor
 .intro h;exact Rat.le_of_mul_le_mul_right (by rw[Rat.zero_mul];exact h) ha
 .intro h;exact Rat.le_of_mul_le_mul_right (by rw[Rat.one_mul];exact h) ha
def Wu{a b c:Q2}(h:ltQ a b):onQ a b c↔cr a b c=0/\¬ltQ c a/\¬ltQ b c:=by
 constructor
 .rintro⟨t,h1,h2,h3,h4⟩;refine⟨by unfold cr;grind,?_,?_⟩
  .intro hc;unfold ltQ at h hc;rcases h with h|⟨h,h'⟩
   .have:=Rat.mul_nonneg h1 (show 0<=b.y-a.y by grind);by_cases h0:c.y=a.y
    .have:t*(b.y-a.y)=0:=by grind
     have h5:t=0:=by
      have:b.y-a.y≠0:=by grind
      grind
     grind
    .grind
   .have:=Rat.mul_nonneg h1 (show 0<=b.x-a.x by grind);have:t*(b.y-a.y)=0:=by grind
    grind
  .intro hc;unfold ltQ at h hc;rcases h with h|⟨h,h'⟩
   .have:=Rat.mul_nonneg (show 0<=1-t by grind) (show 0<=b.y-a.y by grind);by_cases h0:c.y=b.y
    .have:(1-t)*(b.y-a.y)=0:=by grind
     have h5:t=1:=by
      have:b.y-a.y≠0:=by grind
      grind
     grind
    .grind
   .have:=Rat.mul_nonneg (show 0<=1-t by grind) (show 0<=b.x-a.x by grind);have:t*(b.y-a.y)=0:=by grind
    grind
 .rintro⟨h1,h2,h3⟩;unfold ltQ at h h2 h3;unfold cr at h1;rcases h with h|⟨h,h'⟩
  .have hd:b.y-a.y≠0:=by grind
   have hp:0<b.y-a.y:=by grind
   have e:(c.y-a.y)/(b.y-a.y)*(b.y-a.y)=c.y-a.y:=by grind
   obtain⟨k1,k2⟩:=DO (t:=(c.y-a.y)/(b.y-a.y)) hp;rw[e]at k1 k2;refine⟨(c.y-a.y)/(b.y-a.y),k1 (by grind),k2 (by grind),?_,by rw[e];grind⟩;grind
  .have hd:b.x-a.x≠0:=by grind
   have hp:0<b.x-a.x:=by grind
   have hy:c.y=a.y:=by grind
   have e:(c.x-a.x)/(b.x-a.x)*(b.x-a.x)=c.x-a.x:=by grind
   obtain⟨k1,k2⟩:=DO (t:=(c.x-a.x)/(b.x-a.x)) hp;rw[e]at k1 k2;refine⟨(c.x-a.x)/(b.x-a.x),k1 (by grind),k2 (by grind),by rw[e];grind,?_⟩;grind
def FR{a b c:Q2}(h:onQ a b c):onQ b a c:=by obtain⟨t,h1,h2,h3,h4⟩:=h;exact⟨1-t,by grind,by grind,by grind,by grind⟩
def gP{p q:V}:bR p q=true↔ltQ (rv p) (rv q):=by
 unfold bR ltQ rv;simp only[jW,bv,decide_eq_true_eq,beq_iff_eq];have e1:p.y<q.y↔(p.y:Rat)<q.y:=by exact_mod_cast mL
 have e2:p.x<q.x↔(p.x:Rat)<q.x:=by exact_mod_cast mL
 have e3:p.y=q.y↔(p.y:Rat)=q.y:=by exact_mod_cast mL
 rw[e1,e2,e3]
def ro{p q:V}:dL p q=0↔p=q:=by unfold dL aB3;cases p;cases q;simp only[V.mk.injEq];grind
def sK{p q:V}:dL p q= -1↔bR p q=true:=by unfold dL aB3 bR;simp only[jW,bv,decide_eq_true_eq,beq_iff_eq];grind
def lo(s:S):Q2:=rv (loS s)
def hi(s:S):Q2:=rv (hiS s)
def wb{s:S}(h:s.a≠s.b):ltQ (lo s) (hi s):=by
 unfold lo hi loS hiS;by_cases h2:bR s.b s.a=true
 .rw[if_pos h2,if_pos h2];exact gP.1 h2
 .rw[if_neg h2,if_neg h2];rcases qE (rv s.a) (rv s.b)with h3|h3|h3
  .exact h3
  .exact absurd (tC h3) h
  .exact absurd (gP.2 h3) h2
def gQ{s:S}(h:s.a≠s.b){c:Q2}:onG s c↔cr (lo s) (hi s) c=0/\¬ltQ c (lo s)/\¬ltQ (hi s) c:=by
 rw[<-Wu (wb h)];unfold onG lo hi loS hiS;split
 .exact⟨FR,FR⟩
 .exact mL
def Au(s:S):lo s=rv s.a\/lo s=rv s.b:=by unfold lo loS;grind
def Ax(s:S):hi s=rv s.a\/hi s=rv s.b:=by unfold hi hiS;grind
def zc(s:S):(rv s.a=lo s/\rv s.b=hi s)\/(rv s.a=hi s/\rv s.b=lo s):=by unfold lo hi loS hiS;grind
def lI(s t:S):List Pt:=(if atB s t=true then [(af s t).p]else [])++(if shB s t=true then [bG (af s t).s.a,bG (af s t).s.b]else [])
def ru{s:S}(h:SgOk s):bQ s=true:=by have a:=h.a;have b:=h.b;unfold bd at a b;unfold bQ bP;simp only[bv,decide_eq_true_eq];omega
def sI{s t:S}(hs:SgOk s)(ht:SgOk t)(hd:ba s t≠0):af s t=bH s t (ba s t):=by unfold af;rw[ru hs,ru ht,if_neg (by decide),if_neg (by decide),if_pos hd]
def Ii{s t:S}(hs:SgOk s):mb1 s t=false:=by unfold mb1;rw[decide_eq_false hs.ne];rfl
def Gz{s t:S}(hs:SgOk s)(ht:SgOk t)(hd:ba s t=0):af s t=if bT s.a s.b t.a=0 then gw s t else cz:=by
 unfold af;rw[ru hs,ru ht,if_neg (by decide),if_neg (by decide),if_neg (by omega),Ii hs,Ii ht,if_neg (by decide),if_neg (by decide)];unfold mb3;rw[decide_eq_false hs.ne,decide_eq_false ht.ne];by_cases h:bT s.a s.b t.a=0
 .simp[h]
 .simp[h]
def zo(s:S)(v:V):bT s.a s.b v=0↔cr (rv s.a) (rv s.b) (rv v)=0:=by
 unfold bT;rw[oK];have e:cr (rv s.a) (rv s.b) (rv v)=(cross (aB0 s.b s.a) (aB0 v s.a):Int):=by unfold cr rv cross aB0;dsimp only;grind
 rw[e]
 exact_mod_cast mL
def lZ(s:S)(c:Q2):cr (lo s) (hi s) c=0↔cr (rv s.a) (rv s.b) c=0:=by
 rcases zc s with⟨h1,h2⟩|⟨h1,h2⟩
 .rw[h1,h2]
 .rw[h1,h2];unfold cr;grind
def zl{v:V}(h:bd 2000 v):POk (bG v)/\(bG v).den<=33000000:=by
 unfold bd at h;refine⟨⟨?_,?_⟩,by unfold bG;dsimp only;omega⟩
 .rw[DM];unfold bP;simp only[bv,decide_eq_true_eq];omega
 .unfold dX bP bG;simp only[bv,decide_eq_true_eq];omega
def wM{s t:S}(hs:s.a≠s.b)(ht:t.a≠t.b)(hd:rD s t=0){v c:Q2}(h1:cr (rv s.a) (rv s.b) v=0)(h2:cr (rv t.a) (rv t.b) v=0):
  cr (rv s.a) (rv s.b) c=0↔cr (rv t.a) (rv t.b) c=0:=by
 have hs':¬((s.a.x:Rat)=s.b.x/\(s.a.y:Rat)=s.b.y):=λh=>hs (tC (Q2.ext' h.1 h.2));have ht':¬((t.a.x:Rat)=t.b.x/\(t.a.y:Rat)=t.b.y):=λh=>ht (tC (Q2.ext' h.1 h.2));unfold rD at hd;unfold cr rv at*;dsimp only at*;generalize (s.a.x:Rat)=ax at*;generalize (s.a.y:Rat)=ay at*;generalize (s.b.x:Rat)=bx at*;generalize (s.b.y:Rat)=by' at*;generalize (t.a.x:Rat)=px at*;generalize (t.a.y:Rat)=py at*;generalize (t.b.x:Rat)=qx at*;generalize (t.b.y:Rat)=qy at*;have f1:(bx-ax)*(c.y-v.y)-(by'-ay)*(c.x-v.x)=(bx-ax)*(c.y-ay)-(by'-ay)*(c.x-ax):=by grind
 have f2:(qx-px)*(c.y-v.y)-(qy-py)*(c.x-v.x)=(qx-px)*(c.y-py)-(qy-py)*(c.x-px):=by grind
 rw[<-f1,<-f2];have g1:((bx-ax)*(c.y-v.y)-(by'-ay)*(c.x-v.x))*(qx-px)=((qx-px)*(c.y-v.y)-(qy-py)*(c.x-v.x))*(bx-ax):=by grind
 have g2:((bx-ax)*(c.y-v.y)-(by'-ay)*(c.x-v.x))*(qy-py)=((qx-px)*(c.y-v.y)-(qy-py)*(c.x-v.x))*(by'-ay):=by grind
 generalize (bx-ax)*(c.y-v.y)-(by'-ay)*(c.x-v.x)=U at*;generalize (qx-px)*(c.y-v.y)-(qy-py)*(c.x-v.x)=W at*;have k1:¬(bx-ax=0/\by'-ay=0):=λh=>hs' ⟨by grind,by grind⟩;have k2:¬(qx-px=0/\qy-py=0):=λh=>ht' ⟨by grind,by grind⟩;constructor
 .intro h;rw[h]at g1 g2;grind
 .intro h;rw[h]at g1 g2;grind
def VX(l:List S)(c:Q2):Prop:=(∃k,k<l.length/\(c=rv (aK l k).a\/c=rv (aK l k).b))\/
 ∃j k,j<l.length/\k<l.length/\rD (aK l j) (aK l k)≠0/\onG (aK l j) c/\onG (aK l k) c
def Eb{s t:S}{d:Int}(h:gc s t d≠0):gc s t d=1\/gc s t d=2:=by
 have e:∀P Q:Prop,[Decidable P]->[Decidable Q]->(if P then(0:Int)else if Q then 1 else 2)≠0->(if P then(0:Int)else if Q then 1 else 2)=1\/(if P then(0:Int)else if Q then 1 else 2)=2:=by
  intro P Q _ _ h;split
  .rename_i h2;rw[if_pos h2]at h;exact absurd rfl h
  .split
   .exact .inl rfl
   .exact .inr rfl
 exact e _ _ h
def qh(s:S):onG s (rv s.a):=⟨0,by decide,by decide,by grind,by grind⟩
def qg(s:S):onG s (rv s.b):=⟨1,by decide,by decide,by grind,by grind⟩
def sT{s t:S}:rD s t=0↔ba s t=0:=by rw[qY];exact_mod_cast mL
def LH(s t:S):(rv (bw s t)=lo s\/rv (bw s t)=lo t)/\¬ltQ (rv (bw s t)) (lo s)/\¬ltQ (rv (bw s t)) (lo t):=by
 unfold bw;have e:=gP (p:=loS s) (q:=loS t);have e1:rv (loS s)=lo s:=rfl;have e2:rv (loS t)=lo t:=rfl;rw[e1,e2]at e;split
 .rename_i h;rw[e2];exact⟨.inr rfl,λh2=>fA (fX (e.1 h) h2),fA⟩
 .rename_i h;rw[e1];exact⟨.inl rfl,fA,λh2=>h (e.2 h2)⟩
def LI(s t:S):(rv (cD s t)=hi s\/rv (cD s t)=hi t)/\¬ltQ (hi s) (rv (cD s t))/\¬ltQ (hi t) (rv (cD s t)):=by
 unfold cD;have e:=gP (p:=hiS t) (q:=hiS s);have e1:rv (hiS s)=hi s:=rfl;have e2:rv (hiS t)=hi t:=rfl;rw[e1,e2]at e;split
 .rename_i h;rw[e2];exact⟨.inr rfl,λh2=>fA (fX (e.1 h) h2),fA⟩
 .rename_i h;rw[e1];exact⟨.inl rfl,fA,λh2=>h (e.2 h2)⟩
def Zr{s t:S}(hs:SgOk s)(ht:SgOk t):bd 2000 (bw s t)/\bd 2000 (cD s t):=by unfold bw cD loS hiS;have a:=hs.a;have b:=hs.b;have a':=ht.a;have b':=ht.b;constructor<;>(repeat' split)<;>assumption
def n7{a b c:Q2}(h1:¬ltQ b a)(h2:¬ltQ c b):¬ltQ c a:=by unfold ltQ at*;grind
structure PairOk(s t:S)(p:Pt):Prop where
 ok:POk p/\p.den<=33000000
 os:onG s (rp p)
 ot:onG t (rp p)
 v:rD s t≠0\/rp p=rv s.a\/rp p=rv s.b\/rp p=rv t.a\/rp p=rv t.b
def pq{s t:S}{p:Pt}:p∈lI s t↔(atB s t=true/\p=(af s t).p)\/(shB s t=true/\(p=bG (af s t).s.a\/p=bG (af s t).s.b)):=by
 unfold lI;rw[eA];constructor
 .rintro(h|h)
  .split at h
   .rename_i h2;exact .inl ⟨h2,bN.1 h⟩
   .cases h
  .split at h
   .rename_i h2;refine .inr ⟨h2,?_⟩;simpa using h
   .cases h
 .rintro(⟨h,rfl⟩|⟨h,h2⟩)
  .rw[if_pos h];exact .inl eD
  .rw[if_pos h];right;simpa using h2
def Sj{s t:S}(hs:SgOk s)(ht:SgOk t)(hd:rD s t≠0){p:Pt}(h:p∈lI s t):PairOk s t p/\gc s t (ba s t)≠0/\p=(bH s t (ba s t)).p:=by
 have hd':ba s t≠0:=λh=>hd (sT.2 h);rw[pq,sI hs ht hd']at h;have hk:gc s t (ba s t)≠0:=by intro h0;have e:bH s t (ba s t)=cz:=if_pos h0;unfold atB shB at h;rw[sI hs ht hd',e]at h;rcases h with⟨h,_⟩|⟨h,_⟩<;>exact absurd h (by decide)
 have e:=rc (s:=s) (t:=t) (d:=ba s t) rfl hk;have ek:(bH s t (ba s t)).k=gc s t (ba s t):=by rw[e]
 have h3:shB s t=false:=by unfold shB;rw[sI hs ht hd',ek];rcases Eb hk with h|h<;>rw[h] <;>rfl
 rcases h with⟨_,hp⟩|⟨h,_⟩
 .obtain⟨k1,k2,k3⟩:=Fj hs ht hd' hk;obtain⟨c,hc⟩:=(D6 hd').1 hk;have hc2:=(qC hd).1 hc;rw[<-hp]at k1 k2 k3;refine⟨⟨⟨k1,k2⟩,?_,?_,.inl hd⟩,hk,hp⟩
  .rw[k3,<-hc2.1];exact hc.1
  .rw[k3,<-hc2.1];exact hc.2
 .rw[h3]at h;exact absurd h (by decide)
def Db{s t:S}(hs:SgOk s)(ht:SgOk t)(hd:rD s t≠0){c:Q2}(h1:onG s c)(h2:onG t c):∃p,p∈lI s t/\rp p=c:=by
 have hd':ba s t≠0:=λh=>hd (sT.2 h);have hk:=(D6 hd').2 ⟨c,h1,h2⟩;obtain⟨k1,k2,k3⟩:=Fj hs ht hd' hk;refine⟨_,pq.2 (.inl ⟨?_,rfl⟩),?_⟩
 .unfold atB;rw[sI hs ht hd',rc rfl hk];exact decide_eq_true (Eb hk)
 .rw[sI hs ht hd',k3,<-((qC hd).1 ⟨h1,h2⟩).1]
def Dd(s t:S):(bw s t=cD s t/\gw s t=l8 (bw s t))\/
  (ltQ (rv (bw s t)) (rv (cD s t))/\gw s t=⟨3,⟨0,0,0⟩,⟨bw s t,cD s t⟩⟩)\/
  (ltQ (rv (cD s t)) (rv (bw s t))/\gw s t=cz):=by
 unfold gw;by_cases h1:dL (bw s t) (cD s t)=0
 .exact .inl ⟨ro.1 h1,if_pos h1⟩
 .rw[if_neg h1];by_cases h2:dL (bw s t) (cD s t)= -1
  .exact .inr (.inl ⟨gP.1 (sK.1 h2),if_pos h2⟩)
  .refine .inr (.inr ⟨?_,if_neg h2⟩);rcases qE (rv (bw s t)) (rv (cD s t))with h|h|h
   .exact absurd (sK.2 (gP.2 h)) h2
   .exact absurd (ro.2 (tC h)) h1
   .exact h
def VN{s t:S}(hs:SgOk s)(ht:SgOk t)(hd:rD s t=0){p:Pt}(h:p∈lI s t):PairOk s t p:=by
 have hd':=sT.1 hd;rw[pq]at h;unfold atB shB at h;rw[Gz hs ht hd']at h;by_cases h0:bT s.a s.b t.a=0
 .rw[if_pos h0]at h;have c0:=(zo s t.a).1 h0;have ct:cr (rv t.a) (rv t.b) (rv t.a)=0:=by unfold cr;grind
  have line:∀c,cr (lo s) (hi s) c=0↔cr (lo t) (hi t) c=0:=λc=>by rw[lZ,lZ];exact wM hs.ne ht.ne hd c0 ct
  have one:∀v:V,bd 2000 v->(rv v=lo s\/rv v=lo t\/rv v=hi s\/rv v=hi t)->¬ltQ (rv v) (lo s)->¬ltQ (rv v) (lo t)->¬ltQ (hi s) (rv v)->¬ltQ (hi t) (rv v)->PairOk s t (bG v):=by
   intro v hb he h1 h2 h3 h4;have hl:cr (lo s) (hi s) (rv v)=0:=by
    rcases he with e|e|e|e<;>rw[e]
    .unfold cr;grind
    .rw[line];unfold cr;grind
    .unfold cr;grind
    .rw[line];unfold cr;grind
   refine⟨zl hb,?_,?_,.inr ?_⟩
   .rw[iT,gQ hs.ne];exact⟨hl,h1,h3⟩
   .rw[iT,gQ ht.ne];exact⟨(line _).1 hl,h2,h4⟩
   .rw[iT];rcases he with e|e|e|e<;>rw[e]
    .rcases Au s with e|e<;>simp[e]
    .rcases Au t with e|e<;>simp[e]
    .rcases Ax s with e|e<;>simp[e]
    .rcases Ax t with e|e<;>simp[e]
  obtain⟨l1,l2,l3⟩:=LH s t;obtain⟨g1,g2,g3⟩:=LI s t;obtain⟨b1,b2⟩:=Zr hs ht;have nlo:¬ltQ (rv (cD s t)) (rv (bw s t))->PairOk s t (bG (bw s t))/\PairOk s t (bG (cD s t)):=λhn=>
   ⟨one _ b1 (by rcases l1 with e|e<;>simp[e]) l2 l3 (n7 hn g2) (n7 hn g3),
    one _ b2 (by rcases g1 with e|e<;>simp[e]) (n7 l2 hn) (n7 l3 hn) g2 g3⟩
  rcases Dd s t with⟨e,em⟩|⟨e,em⟩|⟨e,em⟩
  .rw[em]at h;rcases h with⟨_,rfl⟩|⟨h,_⟩
   .exact(nlo (by rw[e];exact fA)).1
   .exact absurd h (by unfold l8;simp)
  .rw[em]at h;have:=nlo (λh2=>fA (fX e h2));rcases h with⟨h,_⟩|⟨_,rfl|rfl⟩
   .exact absurd h (by simp)
   .exact this.1
   .exact this.2
  .rw[em]at h;rcases h with⟨h,_⟩|⟨h,_⟩<;>exact absurd h (by decide)
 .rw[if_neg h0]at h;rcases h with⟨h,_⟩|⟨h,_⟩<;>exact absurd h (by decide)
def To{s t:S}(hs:SgOk s)(ht:SgOk t)(hd:rD s t=0){c:Q2}(h1:onG s c)(h2:c=rv t.a\/c=rv t.b):∃p,p∈lI s t/\rp p=c:=by
 have hd':=sT.1 hd;have h3:onG t c:=by rcases h2 with rfl|rfl;exact qh t;exact qg t
 obtain⟨s1,s2,s3⟩:=(gQ hs.ne).1 h1;obtain⟨t1,t2,t3⟩:=(gQ ht.ne).1 h3;have h0:bT s.a s.b t.a=0:=by rw[zo];refine(wM hs.ne ht.ne hd ((lZ s c).1 s1) ((lZ t c).1 t1)).2 ?_;unfold cr;grind
 obtain⟨l1,l2,l3⟩:=LH s t;obtain⟨g1,g2,g3⟩:=LI s t;have k1:¬ltQ c (rv (bw s t)):=by rcases l1 with e|e<;>rw[e] <;>assumption
 have k2:¬ltQ (rv (cD s t)) c:=by rcases g1 with e|e<;>rw[e] <;>assumption
 have k3:c=lo t\/c=hi t:=by rcases zc t with⟨e1,e2⟩|⟨e1,e2⟩<;>rw[e1,e2]at h2<;>grind
 have k4:c=rv (bw s t)\/c=rv (cD s t):=by
  rcases k3 with e|e
  .left;rcases qE c (rv (bw s t))with h|h|h
   .exact absurd h k1
   .exact h
   .rw[e]at h;exact absurd h l3
  .right;rcases qE c (rv (cD s t))with h|h|h
   .rw[e]at h;exact absurd h g3
   .exact h
   .exact absurd h k2
 have em0:af s t=gw s t:=by rw[Gz hs ht hd',if_pos h0]
 rcases Dd s t with⟨e,em⟩|⟨e,em⟩|⟨e,em⟩
 .refine⟨bG (bw s t),pq.2 (.inl ⟨?_,?_⟩),?_⟩
  .unfold atB;rw[em0,em];rfl
  .rw[em0,em];rfl
  .rw[iT];rcases k4 with e2|e2
   .exact e2.symm
   .rw[e];exact e2.symm
 .have hsh:shB s t=true:=by unfold shB;rw[em0,em];rfl
  rcases k4 with e2|e2
  .exact⟨bG (bw s t),pq.2 (.inr ⟨hsh,.inl (by rw[em0,em])⟩),by rw[iT];exact e2.symm⟩
  .exact⟨bG (cD s t),pq.2 (.inr ⟨hsh,.inr (by rw[em0,em])⟩),by rw[iT];exact e2.symm⟩
 .exact absurd e (n7 k1 k2)
def Sgs(l:List S):Prop:=∀k,k<l.length->SgOk (aK l k)
def VI{l:List S}{i k:Nat}(h:¬k=i):aa l i (k+1)=aa l i k++lI (aK l i) (aK l k):=by rw[tD h];unfold lI;cases shB (aK l i) (aK l k)<;>cases atB (aK l i) (aK l k)<;>simp
def mV{l:List S}{i:Nat}{p:Pt}:∀{k:Nat},p∈aa l i k↔(p=bG (aK l i).a\/p=bG (aK l i).b)\/∃j,j<k/\j≠i/\p∈lI (aK l i) (aK l j)
 |0=>by unfold aa;simp
 |k+1=>by
  by_cases h:k=i
  .rw[IT h,mV (k:=k)];constructor
   .rintro(h1|⟨j,h1,h2,h3⟩)
    .exact .inl h1
    .exact .inr ⟨j,by omega,h2,h3⟩
   .rintro(h1|⟨j,h1,h2,h3⟩)
    .exact .inl h1
    .exact .inr ⟨j,by omega,h2,h3⟩
  .rw[VI h,eA,mV (k:=k)];constructor
   .rintro((h1|⟨j,h1,h2,h3⟩)|h1)
    .exact .inl h1
    .exact .inr ⟨j,by omega,h2,h3⟩
    .exact .inr ⟨k,by omega,h,h1⟩
   .rintro(h1|⟨j,h1,h2,h3⟩)
    .exact .inl (.inl h1)
    .by_cases hj:j=k
     .subst hj;exact .inr h3
     .exact .inl (.inr ⟨j,by omega,h2,h3⟩)
def Ws{s t:S}(hs:SgOk s)(ht:SgOk t){p:Pt}(h:p∈lI s t):PairOk s t p:=by
 by_cases hd:rD s t=0
 .exact VN hs ht hd h
 .exact(Sj hs ht hd h).1
def wC{l:List S}(H:Sgs l){i:Nat}(hi:i<l.length){p:Pt}(h:p∈aa l i l.length):(POk p/\p.den<=33000000)/\onG (aK l i) (rp p)/\VX l (rp p):=by
 rcases mV.1 h with(rfl|rfl)|⟨j,h1,h2,h3⟩
 .exact⟨zl (H i hi).a,by rw[iT];exact qh _,.inl ⟨i,hi,.inl (iT _)⟩⟩
 .exact⟨zl (H i hi).b,by rw[iT];exact qg _,.inl ⟨i,hi,.inr (iT _)⟩⟩
 .have P:=Ws (H i hi) (H j h1) h3;refine⟨P.ok,P.os,?_⟩;rcases P.v with h|h|h|h|h
  .exact .inr ⟨i,j,hi,h1,h,P.os,P.ot⟩
  .exact .inl ⟨i,hi,.inl h⟩
  .exact .inl ⟨i,hi,.inr h⟩
  .exact .inl ⟨j,h1,.inl h⟩
  .exact .inl ⟨j,h1,.inr h⟩
def vl(s t:S):rD t s= -rD s t:=by unfold rD;grind
def VJ{s t u:S}(ht:t.a≠t.b)(h1:rD s t=0)(h2:rD t u=0):rD s u=0:=by
 have ht':¬((t.a.x:Rat)=t.b.x/\(t.a.y:Rat)=t.b.y):=λh=>ht (tC (Q2.ext' h.1 h.2));unfold rD at*;generalize (t.a.x:Rat)=ax at*;generalize (t.a.y:Rat)=ay at*;generalize (t.b.x:Rat)=bx at*;generalize (t.b.y:Rat)=by' at*;have k1:¬(bx-ax=0/\by'-ay=0):=λh=>ht' ⟨by grind,by grind⟩;have g1:(((s.b.x:Rat)-s.a.x)*(u.b.y-u.a.y)-(s.b.y-s.a.y)*(u.b.x-u.a.x))*(bx-ax)=0:=by grind
 have g2:(((s.b.x:Rat)-s.a.x)*(u.b.y-u.a.y)-(s.b.y-s.a.y)*(u.b.x-u.a.x))*(by'-ay)=0:=by grind
 grind
def X9{l:List S}(H:Sgs l){i k:Nat}(hi:i<l.length)(hk:k<l.length){c:Q2}(h:onG (aK l i) c)(he:c=rv (aK l k).a\/c=rv (aK l k).b):∃p,p∈aa l i l.length/\rp p=c:=by
 by_cases e:k=i
 .subst e;rcases he with rfl|rfl
  .exact⟨_,mV.2 (.inl (.inl rfl)),iT _⟩
  .exact⟨_,mV.2 (.inl (.inr rfl)),iT _⟩
 .by_cases hd:rD (aK l i) (aK l k)=0
  .obtain⟨p,h1,h2⟩:=To (H i hi) (H k hk) hd h he;exact⟨p,mV.2 (.inr ⟨k,hk,e,h1⟩),h2⟩
  .obtain⟨p,h1,h2⟩:=Db (H i hi) (H k hk) hd h (by rcases he with rfl|rfl;exact qh _;exact qg _);exact⟨p,mV.2 (.inr ⟨k,hk,e,h1⟩),h2⟩
def LN{l:List S}(H:Sgs l){i k:Nat}(hi:i<l.length)(hk:k<l.length){c:Q2}(h:onG (aK l i) c)(h2:onG (aK l k) c)(hd:rD (aK l i) (aK l k)≠0):∃p,p∈aa l i l.length/\rp p=c:=by have e:k≠i:=λe=>hd (by subst e;unfold rD;grind);obtain⟨p,h1,h2⟩:=Db (H i hi) (H k hk) hd h h2;exact⟨p,mV.2 (.inr ⟨k,hk,e,h1⟩),h2⟩
def Ga{l:List S}(H:Sgs l){i:Nat}(hi:i<l.length){c:Q2}(h:onG (aK l i) c)(hv:VX l c):∃p,p∈aa l i l.length/\rp p=c:=by
 rcases hv with⟨k,hk,he⟩|⟨j,k,hj,hk,hd,h1,h2⟩
 .exact X9 H hi hk h he
 .by_cases hd2:rD (aK l i) (aK l j)=0
  .refine LN H hi hk h h2 (λh3=>hd ?_);exact VJ (H i hi).ne (by rw[vl,hd2];grind) h3
  .exact LN H hi hj h h1 hd2
def EF{x y:Pt}{r:List Pt}:fE (x::y::r)=if x=y then fE (y::r)else x::fE (y::r):=by show(if _ then _ else _)=_;rfl
def Ek:∀(l:List Pt),∀p∈l,p∈fE l
 |[],p,h=>by cases h
 |[x],p,h=>h
 |x::y::r,p,h=>by
  rw[EF];have ih:=Ek (y::r);split
  .rename_i e;rcases bc.1 h with rfl|h
   .exact ih _ (by rw[e];exact eD)
   .exact ih _ h
  .rcases bc.1 h with rfl|h
   .exact eD
   .exact dT _ (ih _ h)
def El{l:List Pt}{p:Pt}:p∈fE l↔p∈l:=⟨vG l p,Ek l p⟩
def jt(p q:Pt):Prop:=ltQ (rp p) (rp q)
def WT{p q:Pt}(hp:POk p)(hq:POk q):ltC aW p q=true↔jt p q:=by unfold ltC jt;rw[decide_eq_true_iff,pw (by have:=hp.den;omega) (by have:=hq.den;omega)]
def DR:∀(l:List Pt),(∀p∈l,POk p)->(l.Pairwise λa b=>ltC aW b a=false)->(fE l).Pairwise jt
 |[],_,_=>uH
 |[x],_,_=>C9 _ _
 |x::y::r,hk,h=>by
  rw[EF];have hk2:∀p∈y::r,POk p:=λp hp=>hk p (dT _ hp);rw[jv]at h;have ih:=DR (y::r) hk2 h.2;split
  .exact ih
  .rename_i hxy;rw[jv];refine⟨λz hz=> ?_,ih⟩;have hz:=El.1 hz;have kx:=hk x eD;have ky:=hk y (dT _ eD);have kz:=hk2 z hz;have nle:∀{u v:Pt},POk u->POk v->ltC aW v u=false->jt u v\/u=v:=by
    intro u v hu hv h;rcases qE (rp u) (rp v)with h1|h1|h1
    .exact .inl h1
    .exact .inr (IQ hu hv h1)
    .rw[(WT hv hu).2 h1]at h;cases h
   have h1:jt x y:=(nle kx ky (h.1 y eD)).resolve_right hxy;rcases bc.1 hz with rfl|hz
   .exact h1
   .rcases nle ky kz ((jv.1 h.2).1 z hz)with h2|rfl
    .exact fX h1 h2
    .exact h1
def DJ{l:List Pt}(h:∀p∈l,POk p):(fE (aY (ltC aW) l)).Pairwise jt:=
 DR _ (λp hp=>h p ((fP _ _).mem_iff.1 hp)) (pW (Oa h) l λ_ h=>h)
def yN{l:List Pt}{p:Pt}:p∈fE (aY (ltC aW) l)↔p∈l:=by rw[El,(fP _ _).mem_iff]
def zG{l:List S}{i:Nat}{p:Pt}:p∈bB l i↔p∈aa l i l.length:=yN
def sP{l:List S}{p:Pt}:p∈vsP l↔∃i,i<l.length/\p∈bB l i:=by
 unfold vsP;rw[yN];have key:∀k,p∈vsK l k↔∃i,i<k/\p∈bB l i:=by
  intro k;induction k with
  |zero=>unfold vsK;simp
  |succ k ih=>
   unfold vsK;rw[eA,ih];constructor
   .rintro(⟨i,h1,h2⟩|h)
    .exact⟨i,by omega,h2⟩
    .exact⟨k,by omega,h⟩
   .rintro⟨i,h1,h2⟩;by_cases e:i=k
    .subst e;exact .inr h2
    .exact .inl ⟨i,by omega,h2⟩
 exact key _
section
variable {l:List S} (H:Sgs l)
include H
theorem vm{i:Nat}(hi:i<l.length){p:Pt}(h:p∈bB l i):(POk p/\p.den<=33000000)/\onG (aK l i) (rp p)/\VX l (rp p):=wC H hi (zG.1 h)
theorem R6{i:Nat}(hi:i<l.length):(bB l i).Pairwise jt:=DJ λ_ h=>(wC H hi h).1.1
theorem qK{p:Pt}(h:p∈vsP l):POk p/\p.den<=33000000:=by obtain⟨i,h1,h2⟩:=sP.1 h;exact(vm H h1 h2).1
theorem um:(vsP l).Pairwise jt:=by refine DJ λp hp=> ?_;have:p∈vsP l:=yN.2 hp;exact(qK H this).1
theorem z6{i:Nat}(hi:i<l.length){p:Pt}:p∈bB l i↔p∈vsP l/\onG (aK l i) (rp p):=by
 constructor
 .intro h;exact⟨sP.2 ⟨i,hi,h⟩,(vm H hi h).2.1⟩
 .rintro⟨h1,h2⟩;obtain⟨j,hj,h3⟩:=sP.1 h1;have k:=vm H hj h3;obtain⟨q,hq,e⟩:=Ga H hi h2 k.2.2;have kq:=wC H hi hq;have:q=p:=IQ kq.1.1 k.1.1 e;subst this;exact zG.2 hq
theorem Ht{c:Q2}:(∃p,p∈vsP l/\rp p=c)↔VX l c:=by
 constructor
 .rintro⟨p,hp,rfl⟩;obtain⟨i,h1,h2⟩:=sP.1 hp;exact(vm H h1 h2).2.2
 .intro hv;have:∃i,i<l.length/\onG (aK l i) c:=by
   rcases hv with⟨k,hk,rfl|rfl⟩|⟨j,k,hj,_,_,h,_⟩
   .exact⟨k,hk,qh _⟩
   .exact⟨k,hk,qg _⟩
   .exact⟨j,hj,h⟩
  obtain⟨i,hi,h⟩:=this;obtain⟨p,hp,e⟩:=Ga H hi h hv;exact⟨p,sP.2 ⟨i,hi,zG.2 hp⟩,e⟩
end
theorem AR{f:Int->Int}{l:List Int}(hm:∀i j,i<=j->j<l.length->f (aM l j)<0->f (aM l i)<0):∀(n i j:Nat),j<=l.length->j-i<=n->i<=j->
  (∀k,k<i->f (aM l k)<0)->(∀k,j<=k->k<l.length->¬f (aM l k)<0)->
  bsG f l n i j<=l.length/\(∀k,k<bsG f l n i j->f (aM l k)<0)/\∀k,bsG f l n i j<=k->k<l.length->¬f (aM l k)<0
 |0,i,j,hj,hn,hij,h1,h2=>by
  have:i=j:=by omega
  subst this;unfold bsG;exact⟨hj,h1,h2⟩
 |n+1,i,j,hj,hn,hij,h1,h2=>by
  unfold bsG;split
  .split
   .rename_i h3 h4;exact AR hm n _ _ hj (by omega) (by omega) (λk hk=>hm k ((i+j)/2) (by omega) (by omega) h4) h2
   .rename_i h3 h4;exact AR hm n _ _ (by omega) (by omega) (by omega) h1 (λk hk hl h5=>h4 (hm _ k hk hl h5))
  .have:i=j:=by omega
   subst this;exact⟨hj,h1,h2⟩
theorem Hk{f:Int->Int}{l:List Int}(hm:∀i j,i<=j->j<l.length->f (aM l j)<0->f (aM l i)<0):
  bsP f l<=l.length/\(∀k,k<bsP f l->f (aM l k)<0)/\∀k,bsP f l<=k->k<l.length->¬f (aM l k)<0:=
 AR hm _ _ _ (bA _) (by omega) (cu _) (λk hk=>by omega) (λk hk hl=>by omega)
theorem ri{l:List Pt}(h:l.Pairwise jt){i j:Nat}(hj:j<l.length)(hij:i<j):jt (aP l i) (aP l j):=by rw[ms hj,ms (by omega)];exact nx.1 h i j _ _ hij
theorem zP{l:List Pt}{p:Pt}(h:p∈l):∃k,k<l.length/\aP l k=p:=by obtain⟨k,hk,e⟩:=mK.1 h;exact⟨k,hk,by rw[ms hk];exact e⟩
theorem mX{l:List Pt}{k:Nat}(h:k<l.length):aP l k∈l:=by rw[ms h];exact eG h
theorem IU{l:List Pt}(h:l.Pairwise jt)(hk:∀p∈l,POk p){k:Nat}(hl:k<l.length):ptX (aP l k) l=k:=by
 have hd:∀i,i<l.length->0<(aP l i).den:=λi hi=>by have:=(hk _ (mX hi)).den;omega
 have key:∀i,i<l.length->(id (aM (ptL (aP l k) l) i)<0↔i<k):=by
  intro i hi;rw[IV _ hi];show aW _ _<0↔_;rw[pw (hd i hi) (hd k hl)];constructor
  .intro h1;rcases gn i k with h2|h2|h2
   .exact h2
   .subst h2;exact absurd h1 fA
   .exact absurd (fX h1 (ri h hi h2)) fA
  .exact λh1=>ri h hl h1
 have e:=Gf (aP l k) l;obtain⟨h1,h2,h3⟩:=Hk (f:=id) (l:=ptL (aP l k) l) (λi j hij hj h1=>(key i (by omega)).2 (by have:=(key j (by omega)).1 h1;omega));unfold ptX;rcases gn (bsP id (ptL (aP l k) l)) k with h4|h4|h4
 .exact absurd ((key _ (by omega)).2 h4) (h3 _ (bA _) (by omega))
 .exact h4
 .exact absurd ((key k hl).1 (h2 k h4)) (Cg _)
theorem Yn{l:List Pt}(h:l.Pairwise jt)(hk:∀p∈l,POk p){p:Pt}(hp:p∈l):ptX p l<l.length/\aP l (ptX p l)=p:=by obtain⟨k,h1,rfl⟩:=zP hp;rw[IU h hk h1];exact⟨h1,rfl⟩
section
def OnV(l:List S)(i v:Nat):Prop:=onG (aK l i) (rp (aP (vsP l) v))
structure Adj(l:List S)(i a b:Nat):Prop where
 lt:a<b
 bd:b<(vsP l).length
 oa:OnV l i a
 ob:OnV l i b
 no:∀v,a<v->v<b->¬OnV l i v
section
variable {l:List S} (H:Sgs l) {i:Nat} (hi:i<l.length)
include H hi
theorem oQ{j:Nat}(hj:j<(bB l i).length):ptX (aP (bB l i) j) (vsP l)<(vsP l).length/\aP (vsP l) (ptX (aP (bB l i) j) (vsP l))=aP (bB l i) j:=
 Yn (um H) (λp hp=>(qK H hp).1) ((z6 H hi).1 (mX hj)).1
theorem sJ{j k:Nat}(hk:k<(bB l i).length)(hjk:j<k):ptX (aP (bB l i) j) (vsP l)<ptX (aP (bB l i) k) (vsP l):=by
 obtain⟨a1,a2⟩:=oQ H hi (j:=j) (by omega);obtain⟨b1,b2⟩:=oQ H hi hk;have h:=ri (R6 H hi) hk hjk;rw[<-a2,<-b2]at h;generalize ptX (aP (bB l i) j) (vsP l)=u at*;generalize ptX (aP (bB l i) k) (vsP l)=w at*;rcases gn u w with h1|h1|h1
 .exact h1
 .subst h1;exact absurd h fA
 .exact absurd (fX h (ri (um H) a1 h1)) fA
theorem qJ{v:Nat}(hv:v<(vsP l).length):OnV l i v↔∃j,j<(bB l i).length/\ptX (aP (bB l i) j) (vsP l)=v:=by
 constructor
 .intro h;obtain⟨j,hj,e⟩:=zP ((z6 H hi).2 ⟨mX hv,h⟩);refine⟨j,hj,?_⟩;rw[e];exact IU (um H) (λp hp=>(qK H hp).1) hv
 .rintro⟨j,hj,rfl⟩;unfold OnV;rw[(oQ H hi hj).2];exact((z6 H hi).1 (mX hj)).2
theorem Aw{j k:Nat}(hj:j<(bB l i).length)(hk:k<(bB l i).length)(h:ptX (aP (bB l i) j) (vsP l)<ptX (aP (bB l i) k) (vsP l)):j<k:=by
 rcases gn j k with h1|h1|h1
 .exact h1
 .subst h1;omega
 .have:=sJ H hi hj h1;omega
theorem Xm{a b:Nat}:Adj l i a b↔∃j,1<=j/\j<(bB l i).length/\ptX (aP (bB l i) (j-1)) (vsP l)=a/\ptX (aP (bB l i) j) (vsP l)=b:=by
 constructor
 .rintro⟨h1,h2,h3,h4,h5⟩;obtain⟨j,hj,rfl⟩:=(qJ H hi (by omega)).1 h3;obtain⟨k,hk,rfl⟩:=(qJ H hi h2).1 h4;have hjk:=Aw H hi hj hk h1;by_cases e:k=j+1
  .subst e;exact⟨j+1,by omega,hk,rfl,rfl⟩
  .have m1:=sJ H hi (j:=j) (k:=j+1) (by omega) (by omega);have m2:=sJ H hi (j:=j+1) (k:=k) hk (by omega);exact absurd ((qJ H hi (by omega)).2 ⟨j+1,by omega,rfl⟩) (h5 _ m1 m2)
 .rintro⟨j,h1,h2,rfl,rfl⟩;refine⟨sJ H hi h2 (by omega),(oQ H hi h2).1,?_,?_,?_⟩
  .exact(qJ H hi (oQ H hi (by omega)).1).2 ⟨j-1,by omega,rfl⟩
  .exact(qJ H hi (oQ H hi h2).1).2 ⟨j,h2,rfl⟩
  .intro v h3 h4 h5;obtain⟨k,hk,rfl⟩:=(qJ H hi (by have:=(oQ H hi h2).1;omega)).1 h5;have k1:=Aw H hi (by omega) hk h3;have k2:=Aw H hi hk h2 h4;omega
end
def hU(M:MF)(k:Nat×Nat):List Int:=match M with
 |[] =>[]
 |p::M=>if p.1=k then p.2 else hU M k
theorem Ey{k:Nat×Nat}{v:Int}:∀(M:MF) (k':Nat×Nat),hU (eK M k v) k'=if k=k' then hU M k'++[v]else hU M k'
 |[],k'=>by
  unfold eK hU;dsimp only;split<;>rfl
 |p::M,k'=>by
  have ih:=Ey (k:=k) (v:=v) M k';unfold eK;by_cases h:p.1=k
  .rw[if_pos h];subst h;unfold hU;dsimp only;by_cases h2:p.1=k'
   .simp[h2]
   .simp[h2]
  .rw[if_neg h];unfold hU;by_cases h2:p.1=k'
   .subst h2;simp only[if_true];rw[if_neg (λe=>h e.symm)]
   .simp only[if_neg h2];exact ih
theorem Um{M:MF}(hn:(M.map (·.1)).Nodup){q:(Nat×Nat)×List Int}(h:q∈M):hU M q.1=q.2:=by
 induction M with
 |nil=>cases h
 |cons p M ih=>
  rw[cO,jz]at hn;unfold hU;rcases bc.1 h with rfl|h
  .rw[if_pos rfl]
  .have:p.1≠q.1:=λe=>hn.1 (cC.2 ⟨q,h,e.symm⟩);rw[if_neg this];exact ih hn.2 h
theorem FY{k:Nat×Nat}:∀{M:MF},hU M k≠[]->(k,hU M k)∈M
 |[],h=>absurd rfl h
 |p::M,h=>by
  unfold hU at h|-;split
  .rename_i e;subst e;exact eD
  .rename_i e;rw[if_neg e]at h;exact dT _ (FY h)
theorem Xn{k:Nat×Nat}{v:Int}{M:MF}(h:∀q∈M,q.2≠[]):∀q∈eK M k v,q.2≠[] :=by
 intro q hq;rcases vi hq with hq|⟨_,r,e,_⟩
 .exact h q hq
 .rw[e];simp
open Classical in
noncomputable def eV(l:List S)(a b:Nat):Nat->List Int
 |0=>[]
 |k+1=>eV l a b k++(if Adj l k a b then [(k:Int)]else [])
theorem oJ{l:List S}{a b:Nat}{x:Int}:∀{k:Nat},x∈eV l a b k↔∃i:Nat,i<k/\x=i/\Adj l i a b
 |0=>by unfold eV;simp
 |k+1=>by
  unfold eV;rw[eA,oJ (k:=k)];constructor
  .rintro(⟨i,h1,h2,h3⟩|h)
   .exact⟨i,by omega,h2,h3⟩
   .split at h
    .rename_i ha;exact⟨k,by omega,bN.1 h,ha⟩
    .cases h
  .rintro⟨i,h1,h2,h3⟩;by_cases e:i=k
   .subst e;right;rw[if_pos h3,h2];exact eD
   .exact .inl ⟨i,by omega,h2,h3⟩
section
variable {l:List S} (H:Sgs l)
include H
theorem E7{i:Nat}(hi:i<l.length){M:MF}(k:Nat×Nat):∀j,j<=(bB l i).length->
  ((∃j',1<=j'/\j'<j/\(ptX (aP (bB l i) (j'-1)) (vsP l),ptX (aP (bB l i) j') (vsP l))=k)->hU (dE (vsP l) (bB l i) i M j) k=hU M k++[(i:Int)])/\
  ((¬∃j',1<=j'/\j'<j/\(ptX (aP (bB l i) (j'-1)) (vsP l),ptX (aP (bB l i) j') (vsP l))=k)->hU (dE (vsP l) (bB l i) i M j) k=hU M k)
 |0,_=>⟨λ⟨j',h1,h2,_⟩=>by omega,λ_=>rfl⟩
 |j+1,hj=>by
  obtain⟨ih1,ih2⟩:=E7 hi (M:=M) k j (by omega);unfold dE;by_cases h1:1<=j
  .rw[if_pos h1,Ey];by_cases e:(ptX (aP (bB l i) (j-1)) (vsP l),ptX (aP (bB l i) j) (vsP l))=k
   .rw[if_pos e];have hno:¬∃j',1<=j'/\j'<j/\(ptX (aP (bB l i) (j'-1)) (vsP l),ptX (aP (bB l i) j') (vsP l))=k:=by rintro⟨j',h2,h3,h4⟩;rw[<-e]at h4;have h5:ptX (aP (bB l i) j') (vsP l)=ptX (aP (bB l i) j) (vsP l):=congrArg Prod.snd h4;have:=sJ H hi (j:=j') (k:=j) (by omega) h3;omega
    rw[ih2 hno];exact⟨λ_=>rfl,λh=>absurd ⟨j,h1,by omega,e⟩ h⟩
   .rw[if_neg e];constructor
    .rintro⟨j',h2,h3,h4⟩;refine ih1 ⟨j',h2,?_,h4⟩;rcases jC j' j with h5|h5
     .exact h5
     .have:j'=j:=by omega
      subst this;exact absurd h4 e
    .intro h;exact ih2 λ⟨j',h2,h3,h4⟩=>h ⟨j',h2,by omega,h4⟩
  .rw[if_neg h1];constructor
   .rintro⟨j',h2,h3,h4⟩;omega
   .intro h;exact ih2 λ⟨j',h2,h3,h4⟩=>h ⟨j',h2,by omega,h4⟩
theorem zB(k:Nat×Nat):∀n,n<=l.length->hU (cT l n) k=eV l k.1 k.2 n
 |0,_=>rfl
 |n+1,hn=>by
  have ih:=zB k n (by omega);obtain⟨h1,h2⟩:=E7 H (i:=n) (by omega) (M:=cT l n) k (bB l n).length (bA _);have e:=Xm H (i:=n) (by omega) (a:=k.1) (b:=k.2);have e2:(∃j',1<=j'/\j'<(bB l n).length/\(ptX (aP (bB l n) (j'-1)) (vsP l),ptX (aP (bB l n) j') (vsP l))=k)↔Adj l n k.1 k.2:=by
   rw[e];constructor
   .rintro⟨j,h3,h4,rfl⟩;exact⟨j,h3,h4,rfl,rfl⟩
   .rintro⟨j,h3,h4,h5,h6⟩;exact⟨j,h3,h4,x5 h5 h6⟩
  unfold cT eV;by_cases ha:Adj l n k.1 k.2
  .rw[h1 (e2.2 ha),ih,if_pos ha]
  .rw[h2 (λh=>ha (e2.1 h)),ih,if_neg ha,jE]
omit H in
theorem GQ:∀n,∀q∈cT l n,q.2≠[]
 |0=>λq hq=>by cases hq
 |n+1=>by
  have key:∀(vs pts:List Pt) (i:Int) (M:MF),(∀q∈M,q.2≠[])->∀j,∀q∈dE vs pts i M j,q.2≠[] :=by
   intro vs pts i M h j;induction j with
   |zero=>exact h
   |succ j ih=>
    unfold dE;split
    .exact Xn ih
    .exact ih
  exact key _ _ _ _ (GQ n) _
theorem sf{e:Ed}:e∈esP l↔∃a b:Nat,eV l a b l.length≠[]/\e=⟨a,b,0,0,eV l a b l.length⟩:=by
 unfold esP;rw[(fP _ _).mem_iff];unfold edM;rw[cC];constructor
 .rintro⟨q,hq,rfl⟩;have e1:=Um (pf l l.length) hq;rw[zB H _ _ (bA _)]at e1;exact⟨q.1.1,q.1.2,by rw[e1];exact GQ _ q hq,by rw[e1]⟩
 .rintro⟨a,b,h,rfl⟩;have e1:=zB H (a,b) _ (bA _);refine⟨((a,b),eV l a b l.length),?_,rfl⟩;have:=FY (k:=(a,b)) (M:=cT l l.length) (by rw[e1];exact h);rw[e1]at this;exact this
end
end
structure EdAt(l:List S)(k a b i:Nat):Prop where
 ed:aU (esP l) k=⟨a,b,0,0,eV l a b l.length⟩
 il:i<l.length
 adj:Adj l i a b
 fst:aM (eV l a b l.length) 0=i
def sY{l:List Ed}{i:Nat}(h:i<l.length):aU l i=l[i] :=cR h
def pK{l:List S}(H:Sgs l){k:Nat}(hk:k<(esP l).length):∃a b i,EdAt l k a b i:=by
 obtain⟨a,b,h1,h2⟩:=(sf H).1 (mY (l:=esP l) hk);have hp:0<(eV l a b l.length).length:=by rcases h:eV l a b l.length with _|⟨x,r⟩<;>simp_all
 have hm:aM (eV l a b l.length) 0∈eV l a b l.length:=kA hp;obtain⟨i,h3,h4,h5⟩:=oJ.1 hm;exact⟨a,b,i,h2,h3,h5,h4⟩
def Zl{l:List S}(H:Sgs l){i a b:Nat}(hi:i<l.length)(h:Adj l i a b):∃k,k<(esP l).length/\aU (esP l) k=⟨a,b,0,0,eV l a b l.length⟩:=by have hm:(i:Int)∈eV l a b l.length:=oJ.2 ⟨i,hi,rfl,h⟩;have:(⟨a,b,0,0,eV l a b l.length⟩:Ed)∈esP l:=(sf H).2 ⟨a,b,List.ne_nil_of_mem hm,rfl⟩;obtain⟨k,hk,e⟩:=mK.1 this;exact⟨k,hk,by rw[sY hk];exact e⟩
def Vx(l:List S):((esP l).map λe=>(e.fr,e.to)).Nodup:=by have hp:(esP l).Perm (edM (cT l l.length)):=fP _ _;rw[(hp.map _).nodup_iff];have hk:=pf l l.length;unfold edM;rw[gY];unfold rT at*;rw[ue]at*;refine hk.imp λ{p q} h e=>h ?_;have e1:(p.1.1:Int)=q.1.1:=congrArg Prod.fst e;have e2:(p.1.2:Int)=q.1.2:=congrArg Prod.snd e;exact x5 (by omega) (by omega)
def HN{l:List S}{j k:Nat}(hj:j<(esP l).length)(hk:k<(esP l).length)(h1:(aU (esP l) j).fr=(aU (esP l) k).fr)(h2:(aU (esP l) j).to=(aU (esP l) k).to):j=k:=by
 have hn:=Vx l;unfold rT at hn;rw[ue,nx]at hn;rw[sY hj,sY hk]at h1 h2;rcases gn j k with h|h|h
 .exact absurd (x5 h1 h2) (hn j k hj hk h)
 .exact h
 .exact absurd (x5 h1.symm h2.symm) (hn k j hk hj h)
def EdAt.ln{l:List S}{k a b i:Nat}(E:EdAt l k a b i):lnP (aA l) k=(loS (aK l i),hiS (aK l i)):=by
 have e:aK (aA l).sg (aM (aU (aA l).es ((k:Int).toNat)).src 0).toNat=aK l i:=by show aK l (aM (aU (esP l) ((k:Int).toNat)).src 0).toNat=_;rw[jZ,E.ed];show aK l (aM (eV l a b l.length) 0).toNat=_;rw[E.fst];rfl
 unfold lnP;dsimp only;rw[e];unfold loS hiS;split<;>rfl
def dS(s:S):V:=aB0 (hiS s) (loS s)
def mg{l:List S}{k a b i:Nat}(E:EdAt l k a b i):bO (aA l) ((2*k:Nat):Int)=dS (aK l i)/\stP (aA l) ((2*k:Nat):Int)=a:=by
 have e1:(((2*k:Nat):Int)).tmod 2=0:=by rw[C6 (by omega)];omega
 have e2:(((2*k:Nat):Int)).tdiv 2=(k:Int):=by rw[C5 (by omega)];omega
 constructor
 .unfold bO;rw[if_pos e1,e2,E.ln];rfl
 .unfold stP;rw[if_pos e1,e2];show(aU (esP l) ((k:Int).toNat)).fr=_;rw[jZ,E.ed]
def qG{l:List S}{k a b i:Nat}(E:EdAt l k a b i):bO (aA l) ((2*k+1:Nat):Int)=aB0 ⟨0,0⟩ (dS (aK l i))/\stP (aA l) ((2*k+1:Nat):Int)=b:=by
 have e1:¬(((2*k+1:Nat):Int)).tmod 2=0:=by rw[C6 (by omega)];omega
 have e2:(((2*k+1:Nat):Int)).tdiv 2=(k:Int):=by rw[C5 (by omega)];omega
 constructor
 .unfold bO;rw[if_neg e1,e2,E.ln];unfold dS aB0;dsimp only
  congr 1<;>omega
 .unfold stP;rw[if_neg e1,e2];show(aU (esP l) ((k:Int).toNat)).to=_;rw[jZ,E.ed]
def AN{s:S}(h:s.a≠s.b):dg (dS s)=0/\dg (aB0 ⟨0,0⟩ (dS s))=1:=by
 have hl:=wb h;have:bR (loS s) (hiS s)=true:=gP.2 hl;unfold bR at this;simp only[jW,bv,decide_eq_true_eq,beq_iff_eq]at this;unfold dg dS aB0;dsimp only;constructor
 .rw[if_pos (by omega)]
 .rw[if_neg (by omega)]
def Ab{a b:V}:bj a b<0↔dg a<dg b\/(dg a=dg b/\0<cross a b):=by
 have e:bT ⟨0,0⟩ a b=sgn (cross a b):=by
  unfold bT aB0 cross;dsimp only
  congr 1
  simp only[Int.sub_zero]
 unfold bj;rw[e];have hs:=GW (cross a b);rcases xx (dg a) (dg b)with h|h|h
 .have e2:aB3 (dg a) (dg b)= -1:=by unfold aB3;rw[if_pos h]
  rw[e2,if_neg (by decide)];exact⟨λ_=> .inl h,λ_=>by decide⟩
 .have e2:aB3 (dg a) (dg b)=0:=by unfold aB3;rw[if_neg (by omega),if_neg (by omega)]
  rw[e2,if_pos rfl];constructor
  .intro h2;exact .inr ⟨h,hs.1 (by omega)⟩
  .rintro(h2|⟨_,h2⟩)
   .omega
   .have:=hs.2 h2;omega
 .have e2:aB3 (dg a) (dg b)=1:=by unfold aB3;rw[if_neg (by omega),if_pos h]
  rw[e2,if_neg (by decide)];exact⟨λh3=>by omega,λh3=>by omega⟩
def nzV(v:V):Prop:=v.x≠0\/v.y≠0
def zZ(v:V):dg v=0\/dg v=1:=by unfold dg;split;exact .inl rfl;exact .inr rfl
def Dm{a b c:V}(hb:0<b.y\/(b.y=0/\0<b.x))(ha:0<a.y\/(a.y=0/\0<a.x))(hc:0<c.y\/(c.y=0/\0<c.x))(h1:0<cross a b)(h2:0<cross b c):0<cross a c:=by
 unfold cross at*;rcases hb with hb|⟨hb,hb2⟩
 .have hcy:0<c.y:=by
   rcases hc with hc|⟨hc,hc2⟩
   .exact hc
   .rw[hc]at h2;have:=Int.mul_pos hb hc2;omega
  have k1:=Int.mul_pos h1 hcy;have k2:0<=(b.x*c.y-b.y*c.x)*a.y:=jA (by omega) (by omega);have e:(a.x*c.y-a.y*c.x)*b.y=(a.x*b.y-a.y*b.x)*c.y+(b.x*c.y-b.y*c.x)*a.y:=by grind
  have k3:0<(a.x*c.y-a.y*c.x)*b.y:=by omega
  rcases pL 0 (a.x*c.y-a.y*c.x)with h|h
  .exact h
  .have:=jw h (show 0<=b.y by omega);omega
 .rw[hb]at h1;have:0<=a.y*b.x:=jA (by omega) (by omega);omega
def TE{a b c:V}(ha:nzV a)(hb:nzV b)(hc:nzV c)(h1:bj a b<0)(h2:bj b c<0):bj a c<0:=by
 rw[Ab]at*;have a01:=zZ a;have b01:=zZ b;have c01:=zZ c;rcases h1 with h1|⟨h1,h1'⟩
 .left;rcases h2 with h2|⟨h2,_⟩<;>omega
 .rcases h2 with h2|⟨h2,h2'⟩
  .left;omega
  .right;refine⟨by omega,?_⟩;unfold nzV at ha hb hc;unfold dg at h1 h2;by_cases hp:0<b.y\/(b.y=0/\0<b.x)
   .rw[if_pos hp]at h1 h2;have pa:0<a.y\/(a.y=0/\0<a.x):=by
     by_cases h:0<a.y\/(a.y=0/\0<a.x)
     .exact h
     .rw[if_neg h]at h1;omega
    have pc:0<c.y\/(c.y=0/\0<c.x):=by
     by_cases h:0<c.y\/(c.y=0/\0<c.x)
     .exact h
     .rw[if_neg h]at h2;omega
    exact Dm hp pa pc h1' h2'
   .rw[if_neg hp]at h1 h2;have pa:¬(0<a.y\/(a.y=0/\0<a.x)):=λh=>by rw[if_pos h]at h1;omega
    have pc:¬(0<c.y\/(c.y=0/\0<c.x)):=λh=>by rw[if_pos h]at h2;omega
    have k:=Dm (a:=⟨-a.x,-a.y⟩) (b:=⟨-b.x,-b.y⟩) (c:=⟨-c.x,-c.y⟩) (by dsimp only;omega) (by dsimp only;omega) (by dsimp only;omega)
     (by unfold cross at*;dsimp only;grind) (by unfold cross at*;dsimp only;grind)
    unfold cross at*;dsimp only at k;grind
def rr{a b:V}(h:bj a b<0):¬bj b a<0:=by
 rw[Ab]at*;have e:cross b a= -cross a b:=by unfold cross;grind
 omega
def Zm{s:S}(h:s.a≠s.b):nzV (dS s):=by
 have:=(AN h);unfold dg at this;unfold nzV;have h1:=this.1;have h2:=this.2;unfold aB0 at h2;dsimp only at h2;split at h1
 .omega
 .omega
def LK{s t:S}:rD s t=0↔cross (dS s) (dS t)=0:=by rw[sT];unfold ba dS loS hiS cross aB0;split<;>split<;>dsimp only<;>constructor<;>intro h<;>grind
def km{l:List S}(H:Sgs l){a b:Nat}(hb:b<(vsP l).length)(h:a<b):ltQ (rp (aP (vsP l) a)) (rp (aP (vsP l) b)):=ri (um H) hb h
def wG{l:List S}(H:Sgs l){i j a b c d:Nat}(hi:i<l.length)(hj:j<l.length)(hd:rD (aK l i) (aK l j)=0)
  (h1:OnV l i a) (h2:OnV l j a) (h3:OnV l i c) (h4:OnV l j b) (h5:OnV l j d) (hb:b<c) (hc:c<d) (hl:d<(vsP l).length):OnV l j c:=by
 unfold OnV at*;obtain⟨a1,a2,a3⟩:=(gQ (H i hi).ne).1 h1;obtain⟨b1,b2,b3⟩:=(gQ (H j hj).ne).1 h2;obtain⟨c1,c2,c3⟩:=(gQ (H i hi).ne).1 h3;obtain⟨d1,d2,d3⟩:=(gQ (H j hj).ne).1 h4;obtain⟨e1,e2,e3⟩:=(gQ (H j hj).ne).1 h5;have p1:=km H (by omega) hb;have p2:=km H hl hc;refine(gQ (H j hj).ne).2 ⟨?_,?_,?_⟩
 .rw[lZ]at a1 b1 c1|-;exact(wM (H i hi).ne (H j hj).ne hd a1 b1).1 c1
 .intro h;exact d2 (fX p1 h)
 .intro h;exact e3 (fX h p2)
def JN{l:List S}(H:Sgs l){i j a b c:Nat}(hi:i<l.length)(hj:j<l.length)(hd:rD (aK l i) (aK l j)=0)(h1:Adj l i a b)(h2:Adj l j a c):b=c:=by
 rcases gn b c with h|h|h
 .exact absurd (wG H hi hj hd h1.oa h2.oa h1.ob h2.oa h2.ob h1.lt h h2.bd) (h2.no b h1.lt h)
 .exact h
 .have hd':rD (aK l j) (aK l i)=0:=by rw[vl,hd];grind
  exact absurd (wG H hj hi hd' h2.oa h1.oa h2.ob h1.oa h1.ob h2.lt h h1.bd) (h1.no c h2.lt h)
def Yp{l:List S}(H:Sgs l){i j a b c:Nat}(hi:i<l.length)(hj:j<l.length)(hd:rD (aK l i) (aK l j)=0)(h1:Adj l i a c)(h2:Adj l j b c):a=b:=by
 rcases gn a b with h|h|h
 .have hd':rD (aK l j) (aK l i)=0:=by rw[vl,hd];grind
  exact absurd (wG H hj hi hd' h2.ob h1.ob h2.oa h1.oa h1.ob h h2.lt h1.bd) (h1.no b h h2.lt)
 .exact h
 .exact absurd (wG H hi hj hd h1.ob h2.ob h1.oa h2.oa h2.ob h h1.lt h2.bd) (h2.no a h h1.lt)
def uu{n:Nat}{h:Int}(h0:0<=h)(h1:h<2*n):∃k,k<n/\(h=((2*k:Nat):Int)\/h=((2*k+1:Nat):Int)):=by refine⟨(h/2).toNat,by omega,by omega⟩
def yw(a b:V):cross (aB0 ⟨0,0⟩ a) (aB0 ⟨0,0⟩ b)=cross a b:=by unfold cross aB0;dsimp only;grind
def A6{l:List S}(H:Sgs l){h:Int}(hh:HIn (aA l) h):nzV (bO (aA l) h):=by
 obtain⟨k,hk,e⟩:=uu hh.1 hh.2;obtain⟨a,b,i,E⟩:=pK H hk;have:=Zm (H i E.il).ne;rcases e with rfl|rfl
 .rw[(mg E).1];exact this
 .rw[(qG E).1];unfold nzV aB0 at*;dsimp only;omega
def XE{l:List S}(H:Sgs l)(q:Int->Bool):LvO (aA l) q:=by
 intro v hv;have hin:∀h∈lvR (aA l) q v (2*(aA l).es.length),HIn (aA l) h:=tF;refine⟨λx hx y hy z hz h1 h2=> ?_,λx hx y hy h1=> ?_,λx hx y hy h1 h2=> ?_⟩
 .exact decide_eq_true (TE (A6 H (hin x hx)) (A6 H (hin y hy)) (A6 H (hin z hz)) (of_decide_eq_true h1) (of_decide_eq_true h2))
 .exact decide_eq_false (rr (of_decide_eq_true h1))
 .have h1:¬cfH (aA l) x y<0:=of_decide_eq_false h1;have h2:¬cfH (aA l) y x<0:=of_decide_eq_false h2;unfold cfH at h1 h2;rw[Ab]at h1 h2;have ec:cross (bO (aA l) y) (bO (aA l) x)= -cross (bO (aA l) x) (bO (aA l) y):=by unfold cross;grind
  obtain⟨j,hj,ex⟩:=uu (hin x hx).1 (hin x hx).2;obtain⟨k,hk,ey⟩:=uu (hin y hy).1 (hin y hy).2;have sx:=(oU.1 hx).2.2.2;have sy:=(oU.1 hy).2.2.2;obtain⟨a,b,i,E⟩:=pK H hj;obtain⟨c,d,m,F⟩:=pK H hk;have p1:=AN (H i E.il).ne;have p2:=AN (H m F.il).ne;rcases ex with rfl|rfl
  .rw[(mg E).1]at h1 h2 ec;rw[(mg E).2]at sx;rcases ey with rfl|rfl
   .rw[(mg F).1]at h1 h2 ec;rw[(mg F).2]at sy;have hac:a=c:=by omega
    subst hac;have hbd:=JN H E.il F.il (LK.2 (by omega)) E.adj F.adj;subst hbd;have:j=k:=HN hj hk (by rw[E.ed,F.ed]) (by rw[E.ed,F.ed]);rw[this]
   .rw[(qG F).1]at h1 h2;omega
  .rw[(qG E).1]at h1 h2 ec;rw[(qG E).2]at sx;rcases ey with rfl|rfl
   .rw[(mg F).1]at h1 h2;omega
   .rw[(qG F).1]at h1 h2 ec;rw[(qG F).2]at sy;rw[yw]at h1 h2;have hbd:b=d:=by omega
    subst hbd;have hac:=Yp H E.il F.il (LK.2 (by rw[yw,yw]at ec;omega)) E.adj F.adj;subst hac;have:j=k:=HN hj hk (by rw[E.ed,F.ed]) (by rw[E.ed,F.ed]);rw[this]
def GK{k:Nat×Nat}{v:Int}:∀M:MF,(eK M k v).length<=M.length+1
 |[] =>by unfold eK;simp
 |p::M=>by
  unfold eK;split
  .simp
  .have:=GK (k:=k) (v:=v) M;simp only[iE];omega
def E8(vs pts:List Pt)(i:Int)(M:MF):∀j,(dE vs pts i M j).length<=M.length+j
 |0=>bA _
 |j+1=>by
  have:=E8 vs pts i M j;unfold dE;split
  .have:=GK (k:=(ptX (aP pts (j-1)) vs,ptX (aP pts j) vs)) (v:=i) (dE vs pts i M j);omega
  .omega
def E6(l:List S):∀k,(cT l k).length<=k*(3*l.length+2)
 |0=>by unfold cT;simp
 |k+1=>by
  have h1:=E6 l k;have h2:=E8 (vsP l) (bB l k) k (cT l k) (bB l k).length;have h3:=sE l k;unfold cT;rw[lL,nv];omega
def WV(l:List S):(vsP l).length<=l.length*(3*l.length+2):=by have h1:=yx (aY (ltC aW) (vsK l l.length));have h2:=(fP (ltC aW) (vsK l l.length)).length_eq;have h3:=vj l l.length;unfold vsP;omega
def Ai{l:List S}(h:fF l=0):Sgs l:=by
 unfold fF at h;split at h
 .cases h
 .rename_i h1;split at h
  .cases h
  .rename_i h2;intro k hk;have hm:=vS (l:=l) (i:=k) hk;have e1:¬gC (aK l k)=true:=λe=>h1 (nr.2 ⟨_,hm,e⟩);have e2:¬ff (aK l k)=true:=λe=>h2 (nr.2 ⟨_,hm,e⟩);unfold gC at e1;have e3:bP (aK l k).a 2000=true/\bP (aK l k).b 2000=true:=by unfold ff at e2;cases h3:bP (aK l k).a 2000<;>cases h4:bP (aK l k).b 2000<;>simp_all
   simp only[decide_eq_true_eq]at e1;unfold bP at e3;simp only[bv,decide_eq_true_eq]at e3;refine⟨e1,?_,?_⟩<;>unfold bd<;>omega
def Wq{l:List S}(hl:l.length<=100)(H:Sgs l):PlOk (aA l):=by
 have hm:l.length*(3*l.length+2)<=100*302:=Nat.mul_le_mul hl (by omega);refine⟨?_,?_,?_,?_,?_,?_,?_⟩
 .show l.length<=1000;omega
 .show(vsP l).length<=100000;have:=WV l;omega
 .show(esP l).length<=400000;have:=E6 l l.length;have e:=AM l;unfold edM at e;rw[d6]at e;omega
 .intro e he;obtain⟨a,b,h1,rfl⟩:=(sf H).1 he;obtain⟨x,hx⟩:=List.exists_mem_of_ne_nil _ h1;obtain⟨i,h2,h3,h4⟩:=oJ.1 hx;have:=h4.lt;have:=h4.bd;show(0:Int)<=a/\(a:Int)<(vsP l).length/\(0:Int)<=b/\(b:Int)<(vsP l).length;omega
 .intro e he;obtain⟨a,b,h1,rfl⟩:=(sf H).1 he;refine⟨by show 0<(eV l a b l.length).length;rcases h:eV l a b l.length with _|⟨x,r⟩<;>simp_all,λx hx=> ?_⟩;obtain⟨i,h2,h3,h4⟩:=oJ.1 hx;show 0<=x/\x<l.length;omega
 .intro s hs;obtain⟨k,hk,e⟩:=mK.1 hs;have:aK l k=s:=by rw[show aK l k=l[k]from cR hk];exact e
  rw[<-this];exact⟨(H k hk).a,(H k hk).b⟩
 .intro v hv;exact qK H hv
def itN(g:Int->Int):Nat->Int->Int
 |0,h=>h
 |n+1,h=>itN g n (g h)
def kB(g:Int->Int):∀n h,itN g (n+1) h=g (itN g n h)
 |0,_=>rfl
 |n+1,h=>kB g n (g h)
def orb(g:Int->Int)(m:Nat)(h:Int):List Int:=(bM m).map λj=>itN g j h
def sF(g:Int->Int)(m:Nat)(h:Int):orb g (m+1) h=h::orb g m (g h):=by unfold orb;rw[List.range_succ_eq_map,cO,gY];rfl
def oS{g:Int->Int}{m:Nat}{h x:Int}:x∈orb g m h↔∃j,j<m/\itN g j h=x:=by
 unfold orb;rw[cC];constructor
 .rintro⟨j,h1,h2⟩;exact⟨j,dR.1 h1,h2⟩
 .rintro⟨j,h1,h2⟩;exact⟨j,dR.2 h1,h2⟩
def Hq(p:Pl)(q:Int->Bool)(h:Int):Prop:=HIn p h/\q h=true
def zK{l:List Bool}{i j:Nat}(h:i<l.length):cN (l.set i true) j=true↔cN l j=true\/j=i:=by
 unfold cN;rw[b8,b8,iG];by_cases e:i=j
 .subst e;simp[h]
 .rw[if_neg e];constructor
  .exact .inl
  .rintro(h|h)
   .exact h
   .exact absurd h.symm e
def S5{l:List Bool}(h:l.count false=0){i:Nat}(hi:i<l.length):cN l i=true:=by
 have:false∉l:=List.count_eq_zero.1 h;have hm:cN l i∈l:=by rw[show cN l i=l[i]from cR hi];exact eG hi
 cases hb:cN l i with
 |true=>rfl
 |false=>rw[hb]at hm;exact absurd hm this
section
variable {p:Pl} {q:Int->Bool} {L:List (List Int)} (G:∀h,Hq p q h->Hq p q (nxP p L h))
include G
theorem HZ:∀(f:Nat) (D:List Bool) (h:Int) (c:List Int),D.length=2*p.es.length->f=D.count false->Hq p q h->
  ∃m,(cyT p q L f D h c).2=c++orb (nxP p L) m h/\(cyT p q L f D h c).1.length=2*p.es.length/\
   (∀x,cN (cyT p q L f D h c).1 x=true↔cN D x=true\/(x:Int)∈orb (nxP p L) m h)/\
   (∀y∈orb (nxP p L) m h,Hq p q y/\cN D y.toNat=false)/\(orb (nxP p L) m h).Nodup/\cN (cyT p q L f D h c).1 (itN (nxP p L) m h).toNat=true/\(cN D h.toNat=false->0<m)/\Hq p q (itN (nxP p L) m h)
 |0,D,h,c,hD,hf,hh=>by
  have hi:h.toNat<D.length:=by have:=hh.1.1;have:=hh.1.2;omega
  have ht:=S5 hf.symm hi;refine⟨0,?_,hD,λx=> ?_,λy hy=> ?_,List.nodup_nil,ht,λe=> ?_,hh⟩
  .show c=c++[];simp
  .show cN D x=true↔cN D x=true\/(x:Int)∈[];simp
  .cases hy
  .rw[ht]at e;cases e
 |f+1,D,h,c,hD,hf,hh=>by
  have hi:h.toNat<D.length:=by have:=hh.1.1;have:=hh.1.2;omega
  by_cases hb:cN D h.toNat=false
  .rw[wL ⟨hh.1.1,hb,hh.2⟩];have hc:=pk hi hb;obtain⟨m,e1,e2,e3,e4,e5,e6,e7,e8⟩:=HZ f (D.set h.toNat true) (nxP p L h) (c++[h]) (by rw[fG];exact hD) (by omega) (G h hh);refine⟨m+1,?_,e2,λx=> ?_,λy hy=> ?_,?_,e6,λ_=>by omega,e8⟩
   .rw[e1,sF,lN];rfl
   .rw[e3,zK hi,sF,bc];have hx:x=h.toNat↔(x:Int)=h:=by have:=hh.1.1;omega
    rw[hx];constructor
    .rintro((h1|h1)|h1)
     .exact .inl h1
     .exact .inr (.inl h1)
     .exact .inr (.inr h1)
    .rintro(h1|h1|h1)
     .exact .inl (.inl h1)
     .exact .inl (.inr h1)
     .exact .inr h1
   .rw[sF]at hy;rcases bc.1 hy with rfl|hy
    .exact⟨hh,hb⟩
    .refine⟨(e4 y hy).1,?_⟩;have h2:=(e4 y hy).2;cases h3:cN D y.toNat with
     |false=>rfl
     |true=>rw[(zK hi).2 (.inl h3)]at h2;cases h2
   .rw[sF,jz];refine⟨λhm=> ?_,e5⟩;have h2:=(e4 h hm).2;rw[(zK hi).2 (.inr rfl)]at h2;cases h2
  .rw[vt (λh2=>hb h2.2.1)];refine⟨0,?_,hD,λx=> ?_,λy hy=> ?_,List.nodup_nil,?_,λe=>absurd e hb,hh⟩
   .show c=c++[];simp
   .show cN D x=true↔cN D x=true\/(x:Int)∈[];simp
   .cases hy
   .show cN D h.toNat=true;cases h3:cN D h.toNat with
    |true=>rfl
    |false=>exact absurd h3 hb
structure IsCy(p:Pl)(q:Int->Bool)(L:List (List Int))(c:List Int):Prop where
 ne:0<c.length
 orb:c=orb (nxP p L) c.length (aM c 0)
 close:itN (nxP p L) c.length (aM c 0)=aM c 0
 nd:c.Nodup
 mem:∀h∈c,Hq p q h
 least:∀h∈c,aM c 0<=h
structure CyInv(p:Pl)(q:Int->Bool)(L:List (List Int))(k:Nat)(y:List Bool×List (List Int)):Prop where
 len:y.1.length=2*p.es.length
 shut:∀h,Hq p q h->(cN y.1 h.toNat=true↔cN y.1 (nxP p L h).toNat=true)
 done:∀x:Nat,cN y.1 x=true↔∃c∈y.2,(x:Int)∈c
 low:∀h,Hq p q h->h<k->cN y.1 h.toNat=true
 cyc:∀c∈y.2,IsCy p q L c/\aM c 0<k
 asc:y.2.Pairwise λa b=>aM a 0<aM b 0
 dis:y.2.Pairwise λa b=>∀x∈a,x∉b
theorem qj{h:Int}(hh:Hq p q h):∀j,Hq p q (itN (nxP p L) j h)
 |0=>hh
 |j+1=>by rw[kB];exact G _ (qj hh j)
theorem Hb(I:∀a b,Hq p q a->Hq p q b->nxP p L a=nxP p L b->a=b):∀k,k<=2*p.es.length->CyInv p q L k (cyO p q L k)
 |0,_=>by
  refine⟨mH ..,λh hh=> ?_,λx=> ?_,λh hh h2=> ?_,λc hc=> ?_,uH,uH⟩
  .have e:∀x,cN (cyO p q L 0).1 x=false:=λx=>by
    show(bS _ false).getD x false=false;rw[b8];by_cases hx:x<2*p.es.length
    .rw[jY,if_pos hx];rfl
    .rw[jY,if_neg hx];rfl
   rw[e,e]
  .have e:cN (cyO p q L 0).1 x=false:=by
    show(bS _ false).getD x false=false;rw[b8];by_cases hx:x<2*p.es.length
    .rw[jY,if_pos hx];rfl
    .rw[jY,if_neg hx];rfl
   rw[e];constructor
   .intro h;cases h
   .rintro⟨c,hc,_⟩;cases hc
  .have:=hh.1.1;omega
  .cases hc
 |k+1,hk=>by
  have V:=Hb I k (by omega);by_cases hgo:cN (cyO p q L k).1 k=false/\q k=true
  .obtain⟨hb,hqk⟩:=hgo;have hh:Hq p q k:=⟨⟨by omega,by omega⟩,hqk⟩;obtain⟨m,e1,e2,e3,e4,e5,e6,e7,e8⟩:=HZ G ((cyO p q L k).1.count false) (cyO p q L k).1 k [] V.len rfl hh;have e1:(cyS p q L (cyO p q L k).1 k).2=orb (nxP p L) m k:=e1;have hm:0<m:=e7 (by rw[jZ];exact hb);have hlen:(orb (nxP p L) m k).length=m:=by unfold orb;simp
   have hnew:∀j,cN (cyO p q L k).1 (itN (nxP p L) j k).toNat=false:=by
    intro j;induction j with
    |zero=>show cN _ ((k:Int).toNat)=false;rw[jZ];exact hb
    |succ j ih=>
     rw[kB];have:=V.shut _ (qj G hh j);cases h3:cN (cyO p q L k).1 (nxP p L (itN (nxP p L) j k)).toNat with
     |false=>rfl
     |true=>rw[this.2 h3]at ih;cases ih
   have hclose:itN (nxP p L) m k=k:=by
    have h0:=(e3 (itN (nxP p L) m k).toNat).1 e6;rw[hnew m]at h0;have h1:=h0.resolve_left (by decide);rw[rU e8.1.1]at h1;obtain⟨i,hi,e⟩:=oS.1 h1;have back:∀i d,itN (nxP p L) i k=itN (nxP p L) (i+d) k->itN (nxP p L) d k=k:=by
     intro i;induction i with
     |zero=>intro d h;rw[gX]at h;exact h.symm
     |succ i ih=>
      intro d h;rw[show i+1+d=(i+d)+1 by omega,kB,kB]at h;exact ih d (I _ _ (qj G hh i) (qj G hh (i+d)) h)
    have e9:=back i (m-i) (by rw[e];congr 1;omega);by_cases h0:i=0
    .subst h0;exact e9
    .exfalso;have hnd:=e5;unfold orb rT at hnd;rw[ue,nx]at hnd;have:=hnd 0 (m-i) (by simp;omega) (by simp;omega) (by omega);rw[ub,ub]at this;exact this e9.symm
   have hlow:∀y∈orb (nxP p L) m k,(k:Int)<=y:=by
    intro y hy;rcases pL y k with h|h
    .have h1:=V.low y (e4 y hy).1 h;rw[(e4 y hy).2]at h1;cases h1
    .exact h
   have h0:aM (orb (nxP p L) m k) 0=k:=by
    rcases m with _|m
    .omega
    .rw[sF];rfl
   have hc:IsCy p q L (orb (nxP p L) m k):=⟨by omega,by rw[hlen,h0],by rw[hlen,h0];exact hclose,e5,λh hm=>(e4 h hm).1,by rw[h0];exact hlow⟩;have ey:cyO p q L (k+1)=((cyS p q L (cyO p q L k).1 k).1,(cyO p q L k).2++[orb (nxP p L) m k]):=by show(_,if _ then _ else _)=_;rw[if_pos (by rw[e1,hlen];exact hm),e1]
   rw[ey];have hD:∀x,cN (cyS p q L (cyO p q L k).1 k).1 x=true↔cN (cyO p q L k).1 x=true\/(x:Int)∈orb (nxP p L) m k:=e3;refine⟨e2,λh hh2=> ?_,λx=> ?_,λh hh2 h2=> ?_,λc hc2=> ?_,?_,?_⟩
   .dsimp only;have g2:=(G h hh2).1.1;rw[hD,hD,rU hh2.1.1,rU g2,V.shut h hh2];have:h∈orb (nxP p L) m k↔nxP p L h∈orb (nxP p L) m k:=by
     rw[oS,oS];constructor
     .rintro⟨j,h1,rfl⟩;by_cases e:j+1=m
      .refine⟨0,hm,?_⟩;rw[<-kB (nxP p L),e,hclose];rfl
      .exact⟨j+1,by omega,kB _ _ _⟩
     .rintro⟨j,h1,h2⟩;rcases j with _|j
      .refine⟨m-1,by omega,?_⟩;refine I _ _ (qj G hh _) hh2 ?_;rw[<-kB (nxP p L),show m-1+1=m by omega,hclose];exact h2
      .refine⟨j,by omega,?_⟩;rw[kB]at h2;exact I _ _ (qj G hh _) hh2 h2
    rw[this]
   .dsimp only;rw[hD,V.done];constructor
    .rintro(⟨c,h1,h2⟩|h1)
     .exact⟨c,List.mem_append_left _ h1,h2⟩
     .exact⟨_,List.mem_append_right _ eD,h1⟩
    .rintro⟨c,h1,h2⟩;rcases eA.1 h1 with h1|h1
     .exact .inl ⟨c,h1,h2⟩
     .rw[bN.1 h1]at h2;exact .inr h2
   .dsimp only;rw[hD];by_cases e:h=k
    .right;rw[rU hh2.1.1,e];exact oS.2 ⟨0,hm,rfl⟩
    .exact .inl (V.low h hh2 (by omega))
   .rcases eA.1 hc2 with h1|h1
    .have:=V.cyc c h1;exact⟨this.1,by omega⟩
    .rw[bN.1 h1];exact⟨hc,by rw[h0];omega⟩
   .rw[List.pairwise_append];refine⟨V.asc,C9 _ _,λa ha b hb2=> ?_⟩;rw[bN.1 hb2,h0];exact(V.cyc a ha).2
   .rw[List.pairwise_append];refine⟨V.dis,C9 _ _,λa ha b hb2 x hx hx2=> ?_⟩;rw[bN.1 hb2]at hx2;have k1:=(e4 x hx2).2;have k2:=(V.done x.toNat).2 ⟨a,ha,by rw[rU (e4 x hx2).1.1.1];exact hx⟩;rw[k1]at k2;cases k2
  .have ey:cyO p q L (k+1)=cyO p q L k:=by
    have e:cyS p q L (cyO p q L k).1 k=((cyO p q L k).1,[]):=by unfold cyS;exact vt (λh=>hgo ⟨by have:=h.2.1;rwa[jZ]at this,h.2.2⟩)
    show(_,if _ then _ else _)=_;rw[e,if_neg (by simp)]
   rw[ey];refine⟨V.len,V.shut,V.done,λh hh h2=> ?_,λc hc=> ?_,V.asc,V.dis⟩
   .by_cases e:h=k
    .subst e;cases h3:cN (cyO p q L k).1 k with
     |true=>rw[jZ];exact h3
     |false=>exact absurd ⟨h3,hh.2⟩ hgo
    .exact V.low h hh (by omega)
   .have:=V.cyc c hc;exact⟨this.1,by omega⟩
end
section
variable {p:Pl} (P:PlOk p) {q:Int->Bool} (O:LvO p q)
include P O
omit P O in
theorem IR{v:Nat}(hv:v<p.vs.length):aO (lvP p q) v=aY (ltC (cfH p)) (lvR p q v (2*p.es.length)):=by unfold aO lvP lvM;rw[b8,du,kX hv];show(if v<p.vs.length then _ else _)=_;rw[if_pos hv]
omit P O in
theorem GX{v:Nat}(hv:v<p.vs.length){h:Int}:h∈aO (lvP p q) v↔Hq p q h/\stP p h=v:=by
 rw[IR hv,(fP _ _).mem_iff,oU];unfold Hq HIn;constructor
 .rintro⟨h1,h2,h3,h4⟩;exact⟨⟨⟨h1,by omega⟩,h3⟩,h4⟩
 .rintro⟨⟨⟨h1,h2⟩,h3⟩,h4⟩;exact⟨h1,by omega,h3,h4⟩
omit P O in
theorem T1(v k:Nat):(lvR p q v k).Nodup:=by unfold lvR;unfold rT;refine List.Pairwise.filter _ ?_;rw[ue];exact List.nodup_range.imp λ{a b} h e=>h (by omega)
omit P in
theorem Sf{v:Nat}(hv:v<p.vs.length):(aO (lvP p q) v).Pairwise λa b=>bj (bO p a) (bO p b)<0:=by
 rw[IR hv];have hs:=pW (O v hv) (lvR p q v (2*p.es.length)) λ_ h=>h;have hn:(aY (ltC (cfH p)) (lvR p q v (2*p.es.length))).Nodup:=(fP _ _).nodup_iff.2 (T1 v _);have hm:∀x∈aY (ltC (cfH p)) (lvR p q v (2*p.es.length)),x∈lvR p q v (2*p.es.length):=λx h=>(fP _ _).mem_iff.1 h;generalize aY (ltC (cfH p)) (lvR p q v (2*p.es.length))=l at*;refine List.Pairwise.imp_of_mem (λ{a b} ha hb h=> ?_) (hs.and hn);obtain⟨h1,h2⟩:=h;cases h3:ltC (cfH p) a b with
 |true=>exact of_decide_eq_true h3
 |false=>exact absurd ((O v hv).tot a (hm a ha) b (hm b hb) h3 h1) h2
omit P in
theorem wA{v:Nat}(hv:v<p.vs.length){i j:Nat}(hj:j<(aO (lvP p q) v).length)(hij:i<j):bj (bO p (aM (aO (lvP p q) v) i)) (bO p (aM (aO (lvP p q) v) j))<0:=by have h:=nx.1 (Sf O hv) i j (by omega) hj hij;rw[show aM (aO (lvP p q) v) i=(aO (lvP p q) v)[i]from cR (by omega),show aM (aO (lvP p q) v) j=(aO (lvP p q) v)[j]from cR hj];exact h
omit P in
theorem Wm{v:Nat}(hv:v<p.vs.length){i j:Nat}(hi:i<(aO (lvP p q) v).length)(hj:j<(aO (lvP p q) v).length)(e:aM (aO (lvP p q) v) i=aM (aO (lvP p q) v) j):i=j:=by
 rcases gn i j with h|h|h
 .have:=wA O hv hj h;rw[e]at this;exact absurd this (rr this)
 .exact h
 .have:=wA O hv hi h;rw[e]at this;exact absurd this (rr this)
omit P in
theorem Xi{v:Nat}(hv:v<p.vs.length){k:Nat}(hk:k<(aO (lvP p q) v).length):bsP (λx=>bj (bO p x) (bO p (aM (aO (lvP p q) v) k))) (aO (lvP p q) v)=k:=by
 have key:∀i,i<(aO (lvP p q) v).length->(bj (bO p (aM (aO (lvP p q) v) i)) (bO p (aM (aO (lvP p q) v) k))<0↔i<k):=by
  intro i hi;constructor
  .intro h;rcases gn i k with h2|h2|h2
   .exact h2
   .subst h2;exact absurd h (rr h)
   .exact absurd h (rr (wA O hv hi h2))
  .exact λh=>wA O hv hk h
 obtain⟨h1,h2,h3⟩:=Hk (f:=λx=>bj (bO p x) (bO p (aM (aO (lvP p q) v) k))) (l:=aO (lvP p q) v) (λi j hij hj h=>(key i (by omega)).2 (by have:=(key j hj).1 h;omega));rcases gn (bsP (λx=>bj (bO p x) (bO p (aM (aO (lvP p q) v) k))) (aO (lvP p q) v)) k with h4|h4|h4
 .exact absurd ((key _ (by omega)).2 h4) (h3 _ (bA _) (by omega))
 .exact h4
 .exact absurd ((key k hk).1 (h2 k h4)) (Cg _)
theorem AA{h:Int}(hh:HIn p h)(ht:q (twX h)=true):∃v k,v<p.vs.length/\stP p (twX h)=(v:Int)/\k<(aO (lvP p q) v).length/\aM (aO (lvP p q) v) k=twX h/\
  nxP p (lvP p q) h=aM (aO (lvP p q) v) ((k+(aO (lvP p q) v).length-1) % (aO (lvP p q) v).length):=by
 have ht1:=hh.tw P;have hs:=la P ht1;have hv:(stP p (twX h)).toNat<p.vs.length:=by omega
 have hm:=(GX (p:=p) (q:=q) hv).2 ⟨⟨ht1,ht⟩,by omega⟩;obtain⟨k,hk,e⟩:=mK.1 hm;have e:aM (aO (lvP p q) (stP p (twX h)).toNat) k=twX h:=by rw[show aM (aO (lvP p q) (stP p (twX h)).toNat) k=(aO (lvP p q) (stP p (twX h)).toNat)[k]from cR hk];exact e
 refine⟨_,k,hv,by omega,hk,e,?_⟩;have hb:=Xi O hv hk;rw[e]at hb;unfold nxP;dsimp only;rw[if_neg (by omega),hb]
omit O in
theorem JQ{h:Int}(hh:HIn p h):twX (twX h)=h:=by have:=P.le;have h2:=hh.tw P;rw[v6 h2.1 (by have:=h2.2;omega),v6 hh.1 (by have:=hh.2;omega)];split<;>split<;>omega
theorem wV(hq:∀h,HIn p h->q h=true->q (twX h)=true)(h:Int)(hh:Hq p q h):Hq p q (nxP p (lvP p q) h)/\stP p (nxP p (lvP p q) h)=stP p (twX h):=by obtain⟨v,k,hv,e1,hk,e2,e3⟩:=AA P O hh.1 (hq h hh.1 hh.2);have hl:(k+(aO (lvP p q) v).length-1) % (aO (lvP p q) v).length<(aO (lvP p q) v).length:=fg _ (by omega);have:=(GX (p:=p) (q:=q) hv).1 (kA hl);rw[e3,e1];exact this
theorem YB(hq:∀h,HIn p h->q h=true->q (twX h)=true)(a b:Int)(ha:Hq p q a)(hb:Hq p q b)(h:nxP p (lvP p q) a=nxP p (lvP p q) b):a=b:=by
 obtain⟨v,k,hv,e1,hk,e2,e3⟩:=AA P O ha.1 (hq a ha.1 ha.2);obtain⟨w,j,hw,f1,hj,f2,f3⟩:=AA P O hb.1 (hq b hb.1 hb.2);have s1:=(wV P O hq a ha).2;have s2:=(wV P O hq b hb).2;rw[h,s2,e1,f1]at s1;have hvw:w=v:=by omega
 subst hvw;rw[e3,f3]at h;have n0:0<(aO (lvP p q) w).length:=by omega
 have h1:=Wm O hw (fg _ n0) (fg _ n0) h;have hkj:k=j:=by
  have c:∀{k n:Nat},k<n->(k+n-1) % n=if k=0 then n-1 else k-1:=by
   intro k n hk;split
   .rename_i h0;subst h0;rw[ni (by omega)];omega
   .rw[show k+n-1=(k-1)+n by omega,Nat.add_mod_right,ni (by omega)]
  rw[c hk,c hj]at h1;split at h1<;>split at h1<;>omega
 subst hkj;rw[e2]at f2;have:=congrArg twX f2;rwa[JQ P ha.1,JQ P hb.1]at this
end
theorem qP{p:Pl}(P:PlOk p)(O:LvO p aC):CyInv p aC (lvP p aC) (2*p.es.length) (cyO p aC (lvP p aC) (2*p.es.length)):=
 Hb (λh hh=>(wV P O (λ_ _ _=>rfl) h hh).1) (λa b ha hb h=>YB P O (λ_ _ _=>rfl) a b ha hb h) _ (bA _)
def Ib{k:Int}{o c:List Int}{x:Nat}:∀{j:Nat},j<=c.length->(∀h∈c,0<=h/\h<o.length)->
  ((∃i,i<j/\aM c i=x)->aM (ofC k o c j) x=k)/\((¬∃i,i<j/\aM c i=x)->aM (ofC k o c j) x=aM o x)
 |0,_,_=>⟨λ⟨i,h,_⟩=>by omega,λ_=>rfl⟩
 |j+1,hj,hc=>by
  obtain⟨h1,h2⟩:=Ib (k:=k) (o:=o) (x:=x) (j:=j) (by omega) hc;have hm:=hc _ (kA (l:=c) (i:=j) (by omega));have hl:=sW k o c j;unfold ofC;rw[fH];by_cases e:aM c j=x
  .rw[if_pos ⟨by omega,by omega⟩];exact⟨λ_=>rfl,λh=>absurd ⟨j,by omega,e⟩ h⟩
  .rw[if_neg (λh=>e (by omega))];constructor
   .rintro⟨i,h3,h4⟩;refine h1 ⟨i,?_,h4⟩;rcases jC i j with h5|h5
    .exact h5
    .have:i=j:=by omega
     subst this;exact absurd h4 e
   .intro h;exact h2 λ⟨i,h3,h4⟩=>h ⟨i,by omega,h4⟩
def FZ{l:List Int}{x:Int}(h:x∈l):∃i,i<l.length/\aM l i=x:=by obtain⟨i,hi,e⟩:=mK.1 h;exact⟨i,hi,by rw[show aM l i=l[i]from cR hi];exact e⟩
section
variable {p:Pl} (P:PlOk p) (O:LvO p aC)
include P O
theorem pD{j:Nat}(hj:j<(cyP p aC).length):aO (cyP p aC) j∈cyP p aC:=pp hj
theorem Iw{i j:Nat}(hj:j<(cyP p aC).length)(hij:i<j):(∀x∈aO (cyP p aC) i,x∉aO (cyP p aC) j)/\aM (aO (cyP p aC) i) 0<aM (aO (cyP p aC) j) 0:=by have V:=qP P O;have h1:=nx.1 V.dis i j (by show i<(cyP p aC).length;omega) hj hij;have h2:=nx.1 V.asc i j (by show i<(cyP p aC).length;omega) hj hij;rw[show aO (cyP p aC) i=(cyP p aC)[i]from cR (by omega),show aO (cyP p aC) j=(cyP p aC)[j]from cR hj];exact⟨h1,h2⟩
theorem Be:∀k,k<=(cyP p aC).length->∀j,j<k->∀h∈aO (cyP p aC) j,aM (ph1 p k).2.1 h.toNat=(j:Int)
 |0,_,j,hj,_,_=>by omega
 |k+1,hk,j,hj,h,hh=>by
  have V:=qP P O;have hlen:=(mW p k).2;have hc:∀x∈aO (cyP p aC) k,0<=x/\x<(ph1 p k).2.1.length:=λx hx=>by have:=((V.cyc _ (pD P O (j:=k) (by omega))).1.mem x hx).1;rw[hlen];exact⟨this.1,by have:=this.2;omega⟩
  have e:(ph1 p (k+1)).2.1=ofC k (ph1 p k).2.1 (aO (cyP p aC) k) (aO (cyP p aC) k).length:=by show(if _ then _ else _:PhA).2.1=_;split<;>rfl
  have hp:=((V.cyc _ (pD P O (j:=j) (by omega))).1.mem h hh).1.1;obtain⟨h1,h2⟩:=Ib (k:=(k:Int)) (o:=(ph1 p k).2.1) (c:=aO (cyP p aC) k) (x:=h.toNat) (bA _) hc;rw[e];by_cases ejk:j=k
  .subst ejk;obtain⟨i,hi,ei⟩:=FZ hh;exact h1 ⟨i,hi,by rw[ei];omega⟩
  .rw[h2 ?_]
   .exact Be k (by omega) j (by omega) h hh
   .rintro⟨i,hi,ei⟩;have hm:h∈aO (cyP p aC) k:=by have:=kA (l:=aO (cyP p aC) k) hi;rw[ei,rU hp]at this;exact this
    exact(Iw P O (i:=j) (j:=k) (by omega) (by omega)).1 h hh hm
theorem LO{h:Int}(hh:HIn p h):∃j,j<(cyP p aC).length/\h∈aO (cyP p aC) j:=by have V:=qP P O;obtain⟨c,hc,hm⟩:=(V.done h.toNat).1 (V.low h ⟨hh,rfl⟩ (by have:=hh.2;omega));rw[rU hh.1]at hm;obtain⟨j,hj,e⟩:=mK.1 hc;have hj:j<(cyP p aC).length:=hj;exact⟨j,hj,by rw[show aO (cyP p aC) j=(cyP p aC)[j]from cR hj];exact e▸hm⟩
theorem YA{j:Nat}(hj:j<(cyP p aC).length){h:Int}(hh:h∈aO (cyP p aC) j):nxP p (lvP p aC) h∈aO (cyP p aC) j:=by
 have C:=((qP P O).cyc _ (pD P O hj)).1;generalize aO (cyP p aC) j=c at*;rw[C.orb]at hh|-;obtain⟨i,hi,rfl⟩:=oS.1 hh;by_cases e:i+1=c.length
 .refine oS.2 ⟨0,C.ne,?_⟩;rw[<-kB (nxP p (lvP p aC)),e,C.close];rfl
 .exact oS.2 ⟨i+1,by omega,kB _ _ _⟩
omit P O in
theorem Ik{c:List Int}:∀{k:Nat},k<=c.length->∀i,i<k->ft p c k<=stP p (aM c i)
 |0,_,i,hi=>by omega
 |k+1,hk,i,hi=>by
  unfold ft;by_cases e:i=k
  .subst e;omega
  .have:=Ik (c:=c) (k:=k) (by omega) i (by omega);omega
omit P O in
theorem G2{c:List Int}{h:Int}(hh:h∈c):b9 p c<=stP p h:=by obtain⟨i,hi,rfl⟩:=FZ hh;exact Ik (bA _) i hi
end
structure BwIs(q:Pt)(e:BwE):Prop where
 dx:(aB0 e.b e.a).x≠0
 lf:e.lf.x*q.den<=q.x*e.lf.den
 rt:q.x*e.rt.den<e.rt.x*q.den
 n:bwN q e<q.y*(aB0 e.b e.a).x
theorem I5(p:Pl)(q:Pt):∀k,(bwK p q k).1<0\/∃j,j<k/\(bwK p q k).1=(bwE p j).h/\BwIs q (bwE p j)
 |0=> .inl (by show(-1:Int)<0;decide)
 |k+1=>by
  have ih:(bwK p q k).1<0\/∃j,j<k+1/\(bwK p q k).1=(bwE p j).h/\BwIs q (bwE p j):=(I5 p q k).imp_right λ⟨j,h1,h2⟩=>⟨j,by omega,h2⟩;show(bwS q (bwE p k) (bwK p q k)).1<0\/∃j,j<k+1/\(bwS q (bwE p k) (bwK p q k)).1=(bwE p j).h/\BwIs q (bwE p j);unfold bwS;split
  .exact ih
  .rename_i h1;split
   .exact ih
   .rename_i h2;split
    .exact .inr ⟨k,by omega,rfl,⟨by omega,by omega,by omega,by omega⟩⟩
    .exact ih
def Fg{c d L R Q:Q2}(D:c.x<d.x)(hL:cr c d L=0)(hR:cr c d R=0)(h1:L.x<=Q.x)(h2:Q.x<R.x)
  (h3:c.y*(d.x-c.x)+(d.y-c.y)*(Q.x-c.x)<Q.y*(d.x-c.x)):L.y<Q.y\/R.y<Q.y:=by
 unfold cr at hL hR;have hp:0<d.x-c.x:=by grind
 have can:∀{u v:Rat},u*(d.x-c.x)<v*(d.x-c.x)->u<v:=λh=>Rat.lt_of_mul_lt_mul_right h (Rat.le_of_lt hp);by_cases hy:0<=d.y-c.y
 .left;have:=Rat.mul_le_mul_of_nonneg_left (show L.x-c.x<=Q.x-c.x by grind) hy;exact can (by grind)
 .right;have:=Rat.mul_le_mul_of_nonneg_left (show Q.x-c.x<=R.x-c.x by grind) (show 0<= -(d.y-c.y) by grind);exact can (by grind)
def S4{a b c d:Rat}(hb:0<b)(hd:0<d):a/b<=c/d↔a*d<=c*b:=by rw[<-Rat.not_lt,<-Rat.not_lt,ux hd hb]
def I3{q:Pt}{e:BwE}(hq:0<q.den)(hl:0<e.lf.den)(hr:0<e.rt.den)(B:BwIs q e):
  (rp e.lf).x<=(rp q).x/\(rp q).x<(rp e.rt).x/\(rv e.a).y*((rv e.b).x-(rv e.a).x)+((rv e.b).y-(rv e.a).y)*((rp q).x-(rv e.a).x)<(rp q).y*((rv e.b).x-(rv e.a).x):=by
 have hq':(0:Rat)<q.den:=by exact_mod_cast hq
 have hl':(0:Rat)<e.lf.den:=by exact_mod_cast hl
 have hr':(0:Rat)<e.rt.den:=by exact_mod_cast hr
 refine⟨?_,?_,?_⟩
 .show(e.lf.x:Rat)/e.lf.den<=q.x/q.den;rw[S4 hl' hq']
  exact_mod_cast B.lf
 .show(q.x:Rat)/q.den<e.rt.x/e.rt.den;rw[ux hq' hr']
  exact_mod_cast B.rt
 .have n:=B.n;unfold bwN aB0 at n;dsimp only at n;have n:(e.a.y:Rat)*(e.b.x-e.a.x)*q.den+(e.b.y-e.a.y)*(q.x-e.a.x*q.den)<q.y*(e.b.x-e.a.x):=by exact_mod_cast n
  show(e.a.y:Rat)*(e.b.x-e.a.x)+(e.b.y-e.a.y)*(q.x/q.den-e.a.x)<q.y/q.den*(e.b.x-e.a.x);have hne:(q.den:Rat)≠0:=λh=>by rw[h]at hq';exact Rat.lt_irrefl hq'
  refine Rat.lt_of_mul_lt_mul_right (c:=(q.den:Rat)) ?_ (Rat.le_of_lt hq');have e1:((e.a.y:Rat)*(e.b.x-e.a.x)+(e.b.y-e.a.y)*(q.x/q.den-e.a.x))*q.den=(e.a.y:Rat)*(e.b.x-e.a.x)*q.den+(e.b.y-e.a.y)*(q.x-e.a.x*q.den):=by grind
  have e2:((q.y:Rat)/q.den*(e.b.x-e.a.x))*q.den=q.y*(e.b.x-e.a.x):=by grind
  rw[e1,e2];exact n
section
variable {l:List S} (H:Sgs l)
include H
theorem Ad{v:Nat}(hv:v<(vsP l).length):0<(aP (vsP l) v).den:=by have:=(qK H (mX hv)).1.den;omega
theorem Gi{i v:Nat}(hi:i<l.length)(h:OnV l i v):cr (lo (aK l i)) (Go.Proofs.YtdnhebjljnfjaaaGreat.hi (aK l i)) (rp (aP (vsP l) v))=0:=((gQ (H i hi).ne).1 h).1
end
theorem JA{l:List S}{k a b i:Nat}(E:EdAt l k a b i):bwE (aA l) k=if(hiS (aK l i)).x<(loS (aK l i)).x then⟨2*k+1,aP (vsP l) b,aP (vsP l) a,hiS (aK l i),loS (aK l i)⟩else⟨2*k,aP (vsP l) a,aP (vsP l) b,loS (aK l i),hiS (aK l i)⟩:=by unfold bwE;dsimp only;rw[E.ln];dsimp only;have e:aU (aA l).es k=⟨a,b,0,0,eV l a b l.length⟩:=E.ed;rw[e];dsimp only;rw[jZ,jZ];rfl
theorem Yj{l:List S}(H:Sgs l){k a b i:Nat}(E:EdAt l k a b i){q:Pt}(hq:0<q.den)(B:BwIs q (bwE (aA l) k)):ltQ (rp (aP (vsP l) a)) (rp q):=by
 have ab:=km H E.adj.bd E.adj.lt;have da:=Ad H (v:=a) (by have:=E.adj.lt;have:=E.adj.bd;omega);have db:=Ad H E.adj.bd;have ca:=Gi H E.il E.adj.oa;have cb:=Gi H E.il E.adj.ob;have lh:=wb (H i E.il).ne;rw[JA E]at B;have fin:(rp (aP (vsP l) a)).y<(rp q).y\/(rp (aP (vsP l) b)).y<(rp q).y:=by
  split at B
  .rename_i hx;obtain⟨h1,h2,h3⟩:=I3 hq db da B;have hx':(hi (aK l i)).x<(lo (aK l i)).x:=by show((hiS (aK l i)).x:Rat)<(loS (aK l i)).x;exact_mod_cast hx
   have c1:cr (hi (aK l i)) (lo (aK l i)) (rp (aP (vsP l) b))=0:=by unfold cr at*;grind
   have c2:cr (hi (aK l i)) (lo (aK l i)) (rp (aP (vsP l) a))=0:=by unfold cr at*;grind
   exact(Fg hx' c1 c2 h1 h2 h3).symm
  .rename_i hx;obtain⟨h1,h2,h3⟩:=I3 hq da db B;have hd:=B.dx;unfold aB0 at hd;dsimp only at hd;have hx':(lo (aK l i)).x<(hi (aK l i)).x:=by show((loS (aK l i)).x:Rat)<(hiS (aK l i)).x;exact_mod_cast (show(loS (aK l i)).x<(hiS (aK l i)).x by omega)
   exact Fg hx' ca cb h1 h2 h3
 unfold ltQ at*;rcases fin with h|h
 .exact .inl h
 .left;rcases ab with h2|⟨h2,_⟩
  .grind
  .rw[h2];exact h
theorem XS{l:List S}{j k:Nat}(hj:j<(esP l).length)(h:(aU (esP l) j).fr<(aU (esP l) k).fr):j<k:=by
 have hs:(esP l).Pairwise λa b=>ltC gk b a=false:=pW (xC (HU (pf l l.length))) (edM (cT l l.length)) λ_ h=>h;rcases gn j k with h1|h1|h1
 .exact h1
 .subst h1;omega
 .have h2:=nx.1 hs k j (by omega) hj h1;have h3:¬gk (esP l)[j] (esP l)[k] <0:=of_decide_eq_false h2;rw[oZ]at h3;rw[sY hj,sY (show k<(esP l).length by omega)]at h;omega
theorem AW{l:List S}(hl:l.length<=100)(h0:fF l=0):BdOk l:=by
 have H:=Ai h0;have P:=Wq hl H;have O:=XE H aC;refine⟨hl,λi hi p hp=>(wC H hi hp).1.1,P,O,?_⟩;intro k hk hin hb;have V:=qP P O;have hk:k<(cyP (aA l) aC).length:=hk;have C:=(V.cyc _ (pD P O hk)).1;generalize hc:aO (cyP (aA l) aC) k=c at*;obtain⟨h1,hm1,e1⟩:=AF C.ne c.length (bA _);have hs:=la P (C.mem h1 hm1).1;have e1:b9 (aA l) c=stP (aA l) h1:=e1;have hv0:(b9 (aA l) c).toNat<(vsP l).length:=by have:stP (aA l) h1<(vsP l).length:=hs.2;omega
 have hq:=Ad H hv0;have hbw:bwQ (aA l) c=(bwK (aA l) (aP (vsP l) (b9 (aA l) c).toNat) (esP l).length).1:=rfl;rcases I5 (aA l) (aP (vsP l) (b9 (aA l) c).toNat) (esP l).length with hneg|⟨j,hj,ej,B⟩
 .rw[hbw]at hb;omega
 .obtain⟨a,b,i,E⟩:=pK H hj;have hlow:=Yj H E hq B;have hbj:bwQ (aA l) c=2*j\/bwQ (aA l) c=2*j+1:=by
   rw[hbw,ej,JA E];split
   .exact .inr rfl
   .exact .inl rfl
  have hav:a<(b9 (aA l) c).toNat:=by
   rcases gn a (b9 (aA l) c).toNat with h|h|h
   .exact h
   .rw[<-h]at hlow;exact absurd hlow fA
   .exact absurd (fX hlow (km H (by have:=E.adj.lt;have:=E.adj.bd;omega) h)) fA
  have hm0:aM c 0∈c:=kA C.ne;have hin0:=(C.mem _ hm0).1;obtain⟨m,hm,em⟩:=uu hin0.1 hin0.2;have hm:m<(esP l).length:=hm;obtain⟨a',b',i',F⟩:=pK H hm;have hnx:nxP (aA l) (lvP (aA l) aC) (aM c 0)∈c:=by have:=YA P O hk (h:=aM c 0) (by rw[hc];exact hm0);rwa[hc]at this
  have l1:=G2 (p:=aA l) hm0;have l2:=G2 (p:=aA l) hnx;rw[(wV P O (λ_ _ _=>rfl) (aM c 0) (C.mem _ hm0)).2]at l2;have hfr:b9 (aA l) c<=a':=by
   rcases em with em|em
   .rw[em,(mg F).2]at l1;exact l1
   .have htw:twX (aM c 0)=((2*m:Nat):Int):=by have:=P.le;rw[v6 hin0.1 (by have:=hin0.2;omega),em,if_neg (by omega)];omega
    rw[htw,(mg F).2]at l2;exact l2
  have hjm:j<m:=XS hj (by rw[E.ed,F.ed];show(a:Int)<a';omega);have hlt:bwQ (aA l) c<aM c 0:=by omega
  have hbin:HIn (aA l) (bwQ (aA l) c):=⟨hb,by show _<2*((esP l).length:Int);omega⟩;obtain⟨n,hn,hmem⟩:=LO P O hbin;have e2:=Be P O (nC (aA l)) (bA _) n hn _ hmem;rw[e2];have hlast:=(V.cyc _ (pD P O hn)).1.least _ hmem;rcases gn n k with h|h|h
  .omega
  .subst h;rw[hc]at hlast;omega
  .have:=(Iw P O (i:=k) (j:=n) hn h).2;rw[hc]at this;omega
def gU(p:Pl)(j:Nat):Bool:=inP p (aO (cyP p aC) j) (lvP p aC)
def niC(p:Pl):Nat->Nat
 |0=>0
 |k+1=>if gU p k=true then niC p k else niC p k+1
def bgF(p:Pl):Nat->List (List (List Int))
 |0=>[[]]
 |k+1=>if gU p k=true then bgF p k else bgF p k++[[aO (cyP p aC) k]]
def nA(p:Pl):∀k,(bgF p k).length=niC p k+1
 |0=>rfl
 |k+1=>by
  unfold bgF niC;split
  .exact nA p k
  .rw[dn,nA p k];rfl
def VZ(p:Pl){j k:Nat}(h:j<=k):niC p j<=niC p k:=by
 induction k with
 |zero=>have:j=0:=by omega
        subst this;exact bA _
 |succ k ih=>
  by_cases e:j=k+1
  .subst e;exact bA _
  .have:=ih (by omega);show _<=(if gU p k=true then niC p k else niC p k+1);split<;>omega
def If(p:Pl){j k:Nat}(h:j<k)(hj:gU p j=false):niC p j<niC p k:=by
 have h1:=VZ p (show j+1<=k by omega);have h2:niC p (j+1)=niC p j+1:=by show(if gU p j=true then _ else _)=_;rw[hj];rfl
 omega
def zJ{l r:List (List (List Int))}{i:Nat}:cK (l++r) i=if i<l.length then cK l i else cK r (i-l.length):=by unfold cK;rw[b8,b8,b8,List.getElem?_append];split<;>rfl
def JC(p:Pl):∀k j,j<k->gU p j=false->cK (bgF p k) (niC p j+1)=[aO (cyP p aC) j]
 |0,j,h,_=>by omega
 |k+1,j,h,hj=>by
  unfold bgF;by_cases e:j=k
  .subst e;rw[hj,if_neg (by decide),zJ,nA,if_neg (by omega)];rw[show niC p j+1-(niC p j+1)=0 by omega];rfl
  .have ih:=JC p k j (by omega) hj;split
   .exact ih
   .rw[zJ,nA,if_pos (by have:=If p (show j<k by omega) hj;omega)];exact ih
def qA(p:Pl):∀k,k<=nC p->(ph1 p k).2.2=bgF p k/\∀j,j<k->aM (ph1 p k).1 j=if gU p j=true then-1 else((niC p j+1:Nat):Int)
 |0,_=>⟨rfl,λj h=>by omega⟩
 |k+1,hk=>by
  obtain⟨h1,h2⟩:=qA p k (by omega);have hl:=(mW p k).1;unfold ph1 bgF;by_cases e:gU p k=true
  .rw[if_pos e,if_pos (show inP p _ _=true from e)];refine⟨h1,λj hj=> ?_⟩;dsimp only;rw[fH];by_cases ej:j=k
   .subst ej;rw[if_pos ⟨rfl,by omega⟩,if_pos e]
   .rw[if_neg (λh=>ej h.1.symm)];exact h2 j (by omega)
  .rw[if_neg e,if_neg (show¬inP p _ _=true from e)];refine⟨by dsimp only;rw[h1],λj hj=> ?_⟩;dsimp only;rw[fH];by_cases ej:j=k
   .subst ej;rw[if_pos ⟨rfl,by rw[fG];omega⟩,if_neg e,h1,nA]
   .rw[if_neg (λh=>ej h.1.symm),fH,if_neg (λh=>ej h.1.symm)];exact h2 j (by omega)
def VV{L:List (List (List Int))}{i j:Nat}{v:List (List Int)}(h:i<L.length):cK (L.set i v) j=if i=j then v else cK L j:=by
 unfold cK;rw[b8,b8,iG];by_cases e:i=j
 .rw[if_pos e,if_pos h,if_pos e];rfl
 .rw[if_neg e,if_neg e]
def fcC(p:Pl)(k:Nat):Int:=aM (ph2 p (nC p)).1 k
def inF(p:Pl)(i:Nat):Nat->List (List Int)
 |0=>[]
 |k+1=>if gU p k=true/\fcC p k=i then inF p i k++[aO (cyP p aC) k]else inF p i k
def YV{p:Pl}{o fa c:List Int}{k j:Nat}(h:j≠k):aM (fdP p o fa c k) j=aM fa j:=by
 unfold fdP;split
 .split
  .rw[fH,if_neg (λe=>h e.1.symm),fH,if_neg (λe=>h e.1.symm)]
  .rw[fH,if_neg (λe=>h e.1.symm)]
 .rfl
def wD(p:Pl)(k:Nat):(ph2 p (k+1)).1=fdP p (ph1 p (nC p)).2.1 (ph2 p k).1 (aO (cyP p aC) k) k:=by show(if _ then _ else _:PhB).1=_;split<;>rfl
def FM(p:Pl){j k:Nat}(h:j<k):∀n,aM (ph2 p (k+n)).1 j=aM (ph2 p k).1 j
 |0=>rfl
 |n+1=>by
  rw[<-Nat.add_assoc,wD,YV (by omega)];exact FM p h n
def wK(p:Pl){j k:Nat}(h:j<k)(hk:k<=nC p):aM (ph2 p k).1 j=fcC p j:=by have:=FM p h (nC p-k);rw[show k+(nC p-k)=nC p by omega]at this;exact this.symm
section
variable {l:List aBZ} (B:BdOk l)
include B
theorem Az{k:Nat}(hk:k<nC (aA l))(h:gU (aA l) k=false):fcC (aA l) k=((niC (aA l) k+1:Nat):Int):=by
 have I:=oR B k (by omega);have h1:=(qA (aA l) (nC (aA l)) (bA _)).2 k hk;rw[h,if_neg (by decide)]at h1;have h2:aM (ph2 (aA l) k).1 k=((niC (aA l) k+1:Nat):Int):=by rw[I.v2 k (bA _),h1]
 rw[<-wK (aA l) (show k<k+1 by omega) (by omega),wD];unfold fdP;rw[if_neg (by omega)];exact h2
theorem YW{k:Nat}(hk:k<nC (aA l))(h:gU (aA l) k=true):aM (ph2 (aA l) k).1 k= -1/\
  fcC (aA l) k=if 0<=bwQ (aA l) (aO (cyP (aA l) aC) k)then fcC (aA l) (aM (ph1 (aA l) (nC (aA l))).2.1 (bwQ (aA l) (aO (cyP (aA l) aC) k)).toNat).toNat else 0:=by
 have I:=oR B k (by omega);have h1:=(qA (aA l) (nC (aA l)) (bA _)).2 k hk;rw[h,if_pos rfl]at h1;have h2:aM (ph2 (aA l) k).1 k= -1:=by rw[I.v2 k (bA _),h1]
 have hl:k<(ph2 (aA l) k).1.length:=by rw[I.l1];exact hk
 refine⟨h2,?_⟩;rw[<-wK (aA l) (show k<k+1 by omega) (by omega),wD];unfold fdP;rw[if_pos (by omega)];by_cases hb:0<=bwQ (aA l) (aO (cyP (aA l) aC) k)
 .rw[if_pos hb,if_pos hb];have S:=zH B hk I (by omega) hb;have hbel:=B.bel k hk h hb;have hj:=S.j;rw[fH,if_pos ⟨rfl,by rw[fG];exact hl⟩,fH,if_neg (λe=>by omega)];exact wK (aA l) (by omega) (by omega)
 .rw[if_neg hb,if_neg hb,fH,if_pos ⟨rfl,hl⟩]
theorem Le{k:Nat}(hk:k<nC (aA l)):0<=fcC (aA l) k/\fcC (aA l) k<niC (aA l) (nC (aA l))+1:=by have I:=oR B (nC (aA l)) (bA _);have:=I.v1 k hk;rw[(qA (aA l) (nC (aA l)) (bA _)).1,nA]at this;exact this
theorem u9:∀k,k<=nC (aA l)->(ph2 (aA l) k).2.length=niC (aA l) (nC (aA l))+1/\∀i,cK (ph2 (aA l) k).2 i=cK (bgF (aA l) (nC (aA l))) i++inF (aA l) i k
 |0,_=>by
  have e:(ph2 (aA l) 0).2=bgF (aA l) (nC (aA l)):=(qA (aA l) (nC (aA l)) (bA _)).1;rw[e];exact⟨nA _ _,λi=>by show _=_++[];rw[jE]⟩
 |k+1,hk=>by
  obtain⟨h1,h2⟩:=u9 k (by omega);have hfin:=Le B (k:=k) (by omega);have efa:=wD (aA l) k;have efk:=wK (aA l) (show k<k+1 by omega) hk;rw[efa]at efk;by_cases hi:gU (aA l) k=true
  .obtain⟨n1,n2⟩:=YW B (k:=k) (by omega) hi;have ho:ouP (ph2 (aA l) k).1 (ph2 (aA l) k).2 (aO (cyP (aA l) aC) k) k=false:=by unfold ouP;rw[n1];rfl
   have e2:(ph2 (aA l) (k+1)).2=(ph2 (aA l) k).2.set (fcC (aA l) k).toNat (cK (ph2 (aA l) k).2 (fcC (aA l) k).toNat++[aO (cyP (aA l) aC) k]):=by show(if _ then _ else _:PhB).2=_;rw[ho,if_neg (by decide)];dsimp only;rw[show fdP (aA l) (ph1 (aA l) (cyP (aA l) aC).length).2.1 (ph2 (aA l) k).1 (aO (cyP (aA l) aC) k) k=fdP (aA l) (ph1 (aA l) (nC (aA l))).2.1 (ph2 (aA l) k).1 (aO (cyP (aA l) aC) k) k from rfl,efk]
   rw[e2];refine⟨by rw[fG];exact h1,λi=> ?_⟩;rw[VV (by omega)];unfold inF;by_cases e:(fcC (aA l) k).toNat=i
   .rw[if_pos e,if_pos ⟨hi,by omega⟩,e,h2,lN]
   .rw[if_neg e,if_neg (λh=>e (by omega)),h2]
  .have hi:gU (aA l) k=false:=by cases h:gU (aA l) k<;>simp_all
   have hf:=Az B (k:=k) (by omega) hi;have I:=oR B k (by omega);have g1:=(qA (aA l) (nC (aA l)) (bA _)).2 k (by omega);rw[hi,if_neg (by decide)]at g1;have g2:aM (ph2 (aA l) k).1 k=((niC (aA l) k+1:Nat):Int):=by rw[I.v2 k (bA _),g1]
   have hb:=JC (aA l) (nC (aA l)) k (by omega) hi;have ho:ouP (ph2 (aA l) k).1 (ph2 (aA l) k).2 (aO (cyP (aA l) aC) k) k=true:=by unfold ouP;rw[g2,jZ,h2,hb];have:aO ([aO (cyP (aA l) aC) k] ++inF (aA l) (niC (aA l) k+1) k) 0=aO (cyP (aA l) aC) k:=rfl;rw[this];simp
   have e2:(ph2 (aA l) (k+1)).2=(ph2 (aA l) k).2:=by show(if _ then _ else _:PhB).2=_;rw[ho,if_pos rfl]
   rw[e2];refine⟨h1,λi=> ?_⟩;unfold inF;rw[hi,if_neg (λh=>by cases h.1)];exact h2 i
end
def IW(p:Pl)(o fa:List Int){k:Nat}(hk:k<p.es.length):∀e,aU (ph3 p o fa e) k=if k<e then{aU p.es k with lf:=aM fa (aM o (2*k)).toNat,rt:=aM fa (aM o (2*k+1)).toNat}else aU p.es k
 |0=>by rw[if_neg (by omega)];rfl
 |e+1=>by
  have ih:=IW p o fa hk e;have hl:=sU p o fa e;have e1:aU (ph3 p o fa (e+1)) k=if e=k then{aU (ph3 p o fa e) e with lf:=aM fa (aM o (2*e)).toNat,rt:=aM fa (aM o (2*e+1)).toNat}else aU (ph3 p o fa e) k:=by
   show aU ((ph3 p o fa e).set e _) k=_;unfold aU;rw[b8,iG];by_cases h:e=k
   .rw[if_pos h,if_pos (by omega),if_pos h];rfl
   .rw[if_neg h,if_neg h,b8]
  rw[e1];by_cases h:e=k
  .subst h;rw[if_pos rfl,if_pos (by omega),ih,if_neg (by omega)]
  .rw[if_neg h,ih];by_cases h2:k<e
   .rw[if_pos h2,if_pos (by omega)]
   .rw[if_neg h2,if_neg (by omega)]
def cyN(p:Pl)(h:Int):Nat:=(aM (ph1 p (nC p)).2.1 h.toNat).toNat
section
variable {l:List S} (B:BdOk l)
include B
theorem Yc{h:Int}{j:Nat}(hj:j<nC (aA l))(hh:h∈aO (cyP (aA l) aC) j):cyN (aA l) h=j:=by have:=Be B.pl B.ord (nC (aA l)) (bA _) j hj h hh;unfold cyN;omega
theorem Yb{h:Int}(hh:HIn (aA l) h):cyN (aA l) h<nC (aA l)/\h∈aO (cyP (aA l) aC) (cyN (aA l) h):=by obtain⟨j,hj,hm⟩:=LO B.pl B.ord hh;rw[Yc B hj hm];exact⟨hj,hm⟩
def fcH(p:Pl)(h:Int):Int:=fcC p (cyN p h)
omit B in
theorem A3{k:Nat}(hk:k<(esP l).length):aU (co (aA l)).es k={aU (esP l) k with lf:=fcH (aA l) (2*k:Nat),rt:=fcH (aA l) (2*k+1:Nat)}:=by have h:=IW (aA l) (ph1 (aA l) (nC (aA l))).2.1 (ph2 (aA l) (nC (aA l))).1 (k:=k) hk (aA l).es.length;rw[if_pos (show k<(aA l).es.length from hk)]at h;exact h
theorem G7:(co (aA l)).es.length=(esP l).length/\(co (aA l)).vs=vsP l/\(co (aA l)).sg=l/\(co (aA l)).fs.length=niC (aA l) (nC (aA l))+1:=
 ⟨sU _ _ _ _,rfl,rfl,(u9 B (nC (aA l)) (bA _)).1⟩
omit B in
theorem HE{i:Nat}{c:List Int}:∀{k},k<=nC (aA l)->(c∈inF (aA l) i k↔∃j,j<k/\gU (aA l) j=true/\fcC (aA l) j=i/\c=aO (cyP (aA l) aC) j)
 |0,_=>by unfold inF;simp
 |k+1,hk=>by
  have ih:=HE (i:=i) (c:=c) (k:=k) (by omega);unfold inF;split
  .rename_i h;rw[eA,ih,bN];constructor
   .rintro(⟨j,h1,h2⟩|rfl)
    .exact⟨j,by omega,h2⟩
    .exact⟨k,by omega,h.1,h.2,rfl⟩
   .rintro⟨j,h1,h2,h3,h4⟩;by_cases e:j=k
    .subst e;exact .inr h4
    .exact .inl ⟨j,by omega,h2,h3,h4⟩
  .rename_i h;rw[ih];constructor
   .rintro⟨j,h1,h2⟩;exact⟨j,by omega,h2⟩
   .rintro⟨j,h1,h2,h3,h4⟩;by_cases e:j=k
    .subst e;exact absurd ⟨h2,h3⟩ h
    .exact⟨j,by omega,h2,h3,h4⟩
omit B in
theorem Hl{i:Nat}{c:List Int}:∀{k},k<=nC (aA l)->(c∈cK (bgF (aA l) k) i↔∃j,j<k/\gU (aA l) j=false/\niC (aA l) j+1=i/\c=aO (cyP (aA l) aC) j)
 |0,_=>by
  constructor
  .intro h;exfalso;unfold bgF cK at h;rw[b8]at h;rcases i with _|i
   .cases h
   .simp at h
  .rintro⟨j,h,_⟩;omega
 |k+1,hk=>by
  have ih:=Hl (i:=i) (c:=c) (k:=k) (by omega);unfold bgF;split
  .rename_i h;rw[ih];constructor
   .rintro⟨j,h1,h2⟩;exact⟨j,by omega,h2⟩
   .rintro⟨j,h1,h2,h3⟩;by_cases e:j=k
    .subst e;rw[h]at h2;cases h2
    .exact⟨j,by omega,h2,h3⟩
  .rename_i h;have h:gU (aA l) k=false:=by cases h2:gU (aA l) k<;>simp_all
   rw[zJ,nA];split
   .rename_i hi;rw[ih];constructor
    .rintro⟨j,h1,h2⟩;exact⟨j,by omega,h2⟩
    .rintro⟨j,h1,h2,h3⟩;by_cases e:j=k
     .subst e;omega
     .exact⟨j,by omega,h2,h3⟩
   .rename_i hi;constructor
    .intro hc;have h0:i-(niC (aA l) k+1)=0:=by
      rcases h0:i-(niC (aA l) k+1)with _|n
      .rfl
      .rw[h0]at hc;unfold cK at hc;rw[b8]at hc;simp at hc
     rw[h0]at hc;exact⟨k,by omega,h,by omega,bN.1 hc⟩
    .rintro⟨j,h1,h2,h3,rfl⟩;by_cases e:j=k
     .subst e;rw[show i-(niC (aA l) j+1)=0 by omega];exact eD
     .have:=If (aA l) (show j<k by omega) h2;omega
theorem Vv{i:Nat}{c:List Int}:c∈cK (co (aA l)).fs i↔∃j,j<nC (aA l)/\fcC (aA l) j=i/\c=aO (cyP (aA l) aC) j:=by
 have e:cK (co (aA l)).fs i=_:=(u9 B (nC (aA l)) (bA _)).2 i;rw[e,eA,Hl (bA _),HE (bA _)];constructor
 .rintro(⟨j,h1,h2,h3,h4⟩|⟨j,h1,h2,h3,h4⟩)
  .exact⟨j,h1,by rw[Az B h1 h2,h3],h4⟩
  .exact⟨j,h1,h3,h4⟩
 .rintro⟨j,h1,h2,h3⟩;cases hi:gU (aA l) j with
  |true=>exact .inr ⟨j,h1,hi,h2,h3⟩
  |false=>exact .inl ⟨j,h1,hi,by have:=Az B h1 hi;omega,h3⟩
end
def rs(n:Nat)(f:Nat->Nat):Nat:=((bM n).map f).sum
def cf(h:Int)(f:List (List Int)):Nat:=(f.map (List.count h)).sum
def Ig(p:Pl):∀k,niC p k<=k
 |0=>bA _
 |k+1=>by
  have:=Ig p k;unfold niC;split<;>omega
def HF(p:Pl)(i:Nat):∀k,(inF p i k).length<=k
 |0=>bA _
 |k+1=>by
  have:=HF p i k;unfold inF;split
  .rw[dn,eL];omega
  .omega
def BF(p:Pl):∀k,∀f∈bgF p k,f.length<=1
 |0,f,h=>by rw[bN.1 h];exact cu _
 |k+1,f,h=>by
  unfold bgF at h;split at h
  .exact BF p k f h
  .rcases eA.1 h with h|h
   .exact BF p k f h
   .rw[bN.1 h];exact bA _
def E5(l:List S)(a b:Nat):∀k,(eV l a b k).length<=k
 |0=>bA _
 |k+1=>by
  have:=E5 l a b k;unfold eV;rw[dn];split
  .rw[eL];omega
  .rw[iM];omega
section
variable {l:List S} (B:BdOk l)
include B
theorem Gg(H:Sgs l):PlS (co (aA l)):=by
 obtain⟨e1,e2,e3,e4⟩:=G7 B;have P:=B.pl;have hle:=P.le;have hes:(aA l).es.length=(esP l).length:=rfl;have he:∀e∈(co (aA l)).es,∃k,k<(esP l).length/\e={aU (esP l) k with lf:=fcH (aA l) (2*k:Nat),rt:=fcH (aA l) (2*k+1:Nat)}/\aU (esP l) k∈(aA l).es:=λe hm=>by
  obtain⟨k,hk,rfl⟩:=mK.1 hm;rw[e1]at hk;refine⟨k,hk,?_,?_⟩
  .rw[<-A3 hk,show aU (co (aA l)).es k=_ from cR (by rw[e1];exact hk)]
  .rw[show aU (esP l) k=(esP l)[k]from cR hk];exact eG hk
 have hn:niC (aA l) (nC (aA l))<=nC (aA l):=Ig _ _;have hcy:=wu P;have hc:nC (aA l)<=800000:=cZ hcy.1 (by omega);have hf:∀h,HIn (aA l) h->0<=fcH (aA l) h/\fcH (aA l) h<(co (aA l)).fs.length:=λh hh=>by have:=Le B (Yb B hh).1;rw[e4];exact this
 refine⟨⟨P.ls,P.lv,by rw[e1];exact hle,λe hm=> ?_,λe hm=> ?_,P.bd,P.pt⟩,⟨λe hm=> ?_,by rw[e4];omega,λf hm=> ?_⟩⟩
 .obtain⟨k,hk,rfl,h2⟩:=he e hm;exact P.fr (aU (esP l) k) h2
 .obtain⟨k,hk,rfl,h2⟩:=he e hm;exact P.src (aU (esP l) k) h2
 .obtain⟨k,hk,rfl,h2⟩:=he e hm;have f1:=hf (2*k:Nat) ⟨by omega,by omega⟩;have f2:=hf (2*k+1:Nat) ⟨by omega,by omega⟩;refine⟨f1.1,f1.2,f2.1,f2.2,?_⟩;obtain⟨a,b,_,e5⟩:=(sf H).1 h2;show(aU (esP l) k).src.length<=1000000;rw[e5];have h5:=E5 l a b l.length;have h6:=B.len;show(eV l a b l.length).length<=1000000;omega
 .obtain⟨i,hi,rfl⟩:=mK.1 hm;rw[<-show cK (co (aA l)).fs i=(co (aA l)).fs[i]from cR hi];refine⟨?_,λc hc=> ?_⟩
  .rw[show cK (co (aA l)).fs i=_ from(u9 B (nC (aA l)) (bA _)).2 i,dn];have h1:=HF (aA l) i (nC (aA l));have h2:(cK (bgF (aA l) (nC (aA l))) i).length<=1:=by
    by_cases hi2:i<(bgF (aA l) (nC (aA l))).length
    .rw[show cK (bgF (aA l) (nC (aA l))) i=(bgF (aA l) (nC (aA l)))[i]from cR hi2];exact BF _ _ _ (eG hi2)
    .unfold cK;rw[b8,List.getElem?_eq_none (by omega)];exact cu _
   omega
  obtain⟨j,h1,_,rfl⟩:=(Vv B).1 hc;have C:=((qP B.pl B.ord).cyc _ (pD B.pl B.ord h1)).1;refine⟨by have:=(hcy.2 _ (pD P B.ord h1)).2.1;omega,λh hh=> ?_⟩;have:=(C.mem h hh).1;exact⟨this.1,by have:=this.2;rw[e1];omega⟩
end
noncomputable section
set_option warn.classDefReducibility false
class Chk (l:List Prop) where
 b:Bool
 h:b=true->∀p∈l,p
instance:Chk [] :=⟨true,λ_ _ h=>(dM h).elim⟩
instance chkCons(p:Prop)(l:List Prop) [d:Decidable p] [c:Chk l] :Chk (p::l):=⟨(match d with| .isTrue _=>c.b| .isFalse _=>false),λh q hq=>by
 split at h
 .rcases bc.1 hq with rfl|hq
  .assumption
  .exact c.h h q hq
 .cases h⟩
instance chkApp(a b:List Prop) [c:Chk a] [d:Chk b] :Chk (a++b):=⟨(match c.b with|true=>d.b|false=>false),λh q hq=>by
 split at h
 .rcases eA.1 hq with hq|hq
  .exact c.h (by assumption) q hq
  .exact d.h h q hq
 .cases h⟩
def LP(l:List Prop):Chk l:=⟨false,λh=>nomatch h⟩
instance(x:Int):Decidable (aH x):=inferInstanceAs (Decidable (_/\_))
instance(a:Int)(n:Nat):Decidable (ix a n):=inferInstanceAs (Decidable (_/\_))
instance chkOv:∀(ov:List (Nat×SV)) (a:Nat),Chk (iz ov a)
 |[],_=>inferInstanceAs (Chk [])
 |q::l,a=> @chkCons (a≠q.1) (iz l a) inferInstance (chkOv l a)
def ChO{α:Type}(s:Option (List Prop×α)):Type:=∀q,s=some q->Chk q.1
def qH(k:IntKind)(x:Int)(raw:Bool):Chk (jp raw k x).1:=by unfold jp;split<;>infer_instance
def TA(raw:Bool)(op:BinOp)(k:IntKind)(a b:Int):ChO (tA raw op k a b):=by intro q h;have:=qH k (a+b) raw;have:=qH k (a-b) raw;have:=qH k (a*b) raw;have:=qH k (a.tdiv b) raw;cases op<;>unfold tA at h<;>cases h<;>(first|infer_instance|(dsimp only;infer_instance))
def WA(P:Program)(e:EqT)(raw:Bool)(op:BinOp)(t:TypeId)(x y:SV):ChO (tn P e raw op t x y):=by
 intro q h;unfold tn at h
 repeat' split at h
 all_goals first
  |exact TA _ _ _ _ _ q h
  |(cases h<;>(first|infer_instance|(dsimp only;infer_instance)))
def Xg(raw:Bool)(op:UnOp)(x:SV):ChO (sun raw op x):=by
 intro q h;unfold sun at h
 repeat' split at h
 all_goals (cases h<;>first|exact qH _ _ _|first|infer_instance|(dsimp only;infer_instance))
def UW(P:Program)(raw:Bool)(s d:TypeId)(x:SV):ChO (tW P raw s d x):=by
 intro q h;unfold tW at h
 repeat' split at h
 all_goals (cases h<;>exact qH _ _ _)
def S8(P:Program)(t:TypeId)(x:SV)(lo hi:Option Int):ChO (su P t x lo hi):=by
 intro q h;unfold su at h
 repeat' split at h
 all_goals (cases h<;>(first|infer_instance|(dsimp only;infer_instance)))
def S9(P:Program)(t:TypeId)(x i:SV):ChO (sv P t x i):=by
 intro q h;unfold sv at h
 repeat' split at h
 all_goals (cases h<;>(first|infer_instance|(dsimp only;infer_instance)))
def UV(P:Program)(t:TypeId)(x:SV)(σ:Sg):ChO (tV P t x σ):=by
 intro q h;unfold tV at h
 repeat' split at h
 all_goals (cases h<;>(first|infer_instance|(dsimp only;infer_instance)))
def S7(P:Program)(t:TypeId)(a v:SV)(σ:Sg):ChO (od P t a v σ):=by
 intro q h;unfold od at h
 repeat' split at h
 all_goals (cases h<;>(first|infer_instance|(dsimp only;infer_instance)))
def WC(σ:Sg)(e:TypeId)(lt:LT)(x:SV):ChO (pB σ e lt x):=by
 intro q h;unfold pB at h
 repeat' split at h
 all_goals (cases h<;>(first|infer_instance|(dsimp only;infer_instance)))
def V9(σ:Sg)(lt:LT)(x:SV):ChO (qT σ lt x):=by
 intro q h;unfold qT at h
 repeat' split at h
 all_goals (cases h<;>(first|infer_instance|(dsimp only;infer_instance)))
def WB(P:Program)(ltOf:TypeId->Option LT)(n:Nat)(t t':TypeId)(σ:Sg)(x y:SV):ChO (qr P ltOf n t t' σ x y):=by
 intro q h;unfold qr at h;split at h
 .exact LP _
 unfold tX at h;split at h
 case h_2=>cases h
 split at h
 case h_2=>cases h
 split at h
 case h_2=>cases h
 rename_i h1 h2;have:=WC _ _ _ _ _ h1;have:=V9 _ _ _ _ h2;cases h;dsimp only at*;infer_instance
def UU(P:Program)(ltOf:TypeId->Option LT)(σ:Sg)(n:Nat)(t:TypeId)(x y:SV):ChO (tU P ltOf σ n t x y):=by
 intro q h;unfold tU at h
 repeat' split at h
 all_goals (cases h<;>(first|infer_instance|(dsimp only;infer_instance)))
def p6{f:SV->Option (List Prop×SV)}(hf:∀x,ChO (f x)):∀l:List SV,ChO (gH f l)
 |[],q,h=>by cases h;exact inferInstanceAs (Chk [])
 |x::l,q,h=>by
  unfold gH at h;split at h
  .rename_i h1 h2;have:=hf x _ h1;have:=p6 hf l _ h2;cases h;dsimp only at*;infer_instance
  .cases h
def UT(d:Nat)(σ:Sg)(x n:Nat):ChO (qV d σ x n):=by
 intro q h;unfold qV at h
 repeat' split at h
 all_goals (cases h<;>(first|infer_instance|(dsimp only;infer_instance)))
def SZ{σ:Sg}{x:SV}{q:List Prop×SV}(h:eZ 0 σ x=some q):q.1=[] :=by cases x<;>unfold eZ at h<;>first|(cases h;rfl)|(split at h<;>cases h;rfl)
def rq:∀(d:Nat) (σ:Sg) (x:SV),ChO (eZ d σ x)
 |0,_,_=>λq h=>by
  have e:=SZ h;rw[e];exact inferInstanceAs (Chk [])
 |d+1,σ,x=>λq h=>by
  have ih:= @p6 _ (rq d σ);cases x
  case ownx s n=>
   unfold eZ at h;split at h
   .split at h
    .rename_i hm;cases h;exact ih _ _ hm
    .cases h
   .cases h
  case ptr s n=>
   unfold eZ at h;split at h
   .split at h
    .rename_i hm;cases h;exact ih _ _ hm
    .cases h
   .cases h
  case owF x n=>exact UT _ _ _ _ q h
  case agg l=>
   unfold eZ at h;split at h
   .rename_i hm;cases h;exact ih _ _ hm
   .cases h
  case fn f a b=>
   unfold eZ at h;split at h
   .rename_i h1 h2;have:=ih _ _ h1;have:=ih _ _ h2;cases h;dsimp only at*;infer_instance
   .cases h
  all_goals
   unfold eZ at h
   repeat' split at h
   all_goals (cases h<;>(first|infer_instance|(dsimp only;infer_instance)))
def p7(o:Option SV):ChO (lC o):=by
 intro q h;unfold lC at h
 repeat' split at h
 all_goals (cases h<;>(first|infer_instance|(dsimp only;infer_instance)))
def vH{o:Option (List Prop×SV)}(ho:ChO o):ChO (nO o):=by
 intro q h;unfold nO at h;split at h
 .rename_i h1;split at h
  .rename_i ps r _ _;have:=ho _ rfl;cases h;exact this
  .cases h
 .cases h
def En{o:SR}(ho:ChO o):ChO (l0 o):=by
 intro q h;unfold l0 at h;split at h
 .split at h
  .have:=ho _ rfl;cases h;exact this
  .cases h
 .cases h
end
noncomputable section
set_option warn.classDefReducibility false
def Hg(X:Cx)(raw:Bool)(n:Nat)(o:Op)(E:SE)(σ:Sg):ChO (sop X raw n o E σ):=by
 intro q h;unfold sop at h;split at h
 .cases h;exact inferInstanceAs (Chk [])
 .cases h;exact inferInstanceAs (Chk [])
 .exact p7 _ q h
 .unfold tB at h;split at h<;>cases h;exact inferInstanceAs (Chk [])
 .unfold tm at h;split at h<;>cases h;exact inferInstanceAs (Chk [])
 .unfold sz at h
  repeat' split at h
  all_goals (cases h<;>exact inferInstanceAs (Chk []))
 .unfold sS at h
  repeat' split at h
  all_goals (cases h<;>(first|infer_instance|(dsimp only;infer_instance)))
 .exact En (UV _ _ _ _) q h
 .exact S7 _ _ _ _ _ q h
 .split at h<;>cases h;exact inferInstanceAs (Chk [])
 .exact vH (WA _ _ _ _ _ _ _) q h
 .exact vH (Xg _ _ _) q h
 .exact vH (UW _ _ _ _ _) q h
 .cases h;exact inferInstanceAs (Chk [])
 .split at h
  .exact vH (S8 _ _ _ _ _) q h
  .cases h
 .split at h<;>cases h;exact inferInstanceAs (Chk [])
 .exact p7 _ q h
 .split at h
  .rename_i h1;have:=S9 _ _ _ _ _ h1;cases h;exact this
  .cases h
 .exact p7 _ q h
 .exact LP _
 .exact p7 _ q h
 .exact WB _ _ _ _ _ _ _ _ q h
 .exact p7 _ q h
 .exact p7 _ q h
 .exact En (UU _ _ _ _ _ _ _) q h
 .cases h
structure EC where
 c:Con
 k:∀x,Chk (c.pre x)
abbrev d9:=Nat->Option EC
def d9.t(T:d9):Tab:=λf=>match T f with|some e=>some e.c|none=>none
def fzN{R:Type}(n:Nat)(k:Nat->R):R:=match n with
 |0=>k 0
 |m+1=>k (m+1)
def kj{R:Type}(n:Nat)(k:Nat->R):fzN n k=k n:=by cases n<;>rfl
def fzI{R:Type}(n:Int)(k:Int->R):R:=match n with
 | .ofNat m=>fzN m λm=>k (.ofNat m)
 | .negSucc m=>fzN m λm=>k (.negSucc m)
def og{R:Type}(n:Int)(k:Int->R):fzI n k=k n:=by cases n<;>(unfold fzI;dsimp only;rw[kj])
def xL{R:Type}:List Int->(List Int->R)->R
 |[],k=>k []
 |a::l,k=>fzI a λa=>xL l λl=>k (a::l)
def HJ{R:Type}:∀(l:List Int) (k:List Int->R),xL l k=k l
 |[],_=>rfl
 |a::l,k=>by unfold xL;rw[og,HJ l]
def xJ{R:Type}:List V->(List V->R)->R
 |[],k=>k []
 |a::l,k=>fzI a.x λx=>fzI a.y λy=>xJ l λl=>k (⟨x,y⟩::l)
def HH{R:Type}:∀(l:List V) (k:List V->R),xJ l k=k l
 |[],_=>rfl
 |a::l,k=>by unfold xJ;rw[og,og,HH l]
def xK{R:Type}:List Pt->(List Pt->R)->R
 |[],k=>k []
 |a::l,k=>fzI a.x λx=>fzI a.y λy=>fzI a.den λd=>xK l λl=>k (⟨x,y,d⟩::l)
def HI{R:Type}:∀(l:List Pt) (k:List Pt->R),xK l k=k l
 |[],_=>rfl
 |a::l,k=>by unfold xK;rw[og,og,og,HI l]
def fzL{R:Type}:(t:LT)->List t.ty->(List t.ty->R)->R
 | .I,l,k=>xL l k
 | .V,l,k=>xJ l k
 | .T,l,k=>xK l k
 | .S,l,k=>k l
 | .R,l,k=>k l
 | .B,l,k=>k l
 | .P,l,k=>k l
 | .Q,l,k=>k l
 | .U,l,k=>k l
 | .E,l,k=>k l
 | .F,l,k=>k l
def Io{R:Type}(t:LT)(l:List t.ty)(k:List t.ty->R):fzL t l k=k l:=by cases t<;>first|rfl|exact HJ _ _|exact HH _ _|exact HI _ _
def na{R:Type}(f:SV->(SV->R)->R)(l:List SV):(List SV->R)->R:=
 rV (motive:=λ_=>(List SV->R)->R) (λk=>k []) (λx _ ih k=>f x λx=>ih λl=>k (x::l)) l
def fzA{R:Type}(f:SV->(SV->R)->R)(v:SV)(k:SV->R):R:=match v with
 | .int t n=>fzI n λn=>k (.int t n)
 | .bool b=>(match b with|true=>k (.lit true)|false=>k (.lit false))
 | .lit b=>(match b with|true=>k (.lit true)|false=>k (.lit false))
 | .prop _ e=>(match e with| .isTrue _=>k (.lit true)| .isFalse _=>k (.lit false))
 | .agg l=>na f l λl=>k (.agg l)
 | .tup l=>na f l λl=>k (.tup l)
 | .own s t n=>fzN n λn=>k (.own s t n)
 | .owns s t o n=>fzN o λo=>fzN n λn=>k (.owns s t o n)
 | .ownx s n=>fzN n λn=>k (.ownx s n)
 | .sl n cs=>fzN n λn=>na f cs λcs=>k (.sl n cs)
 | .lst t l=>fzL t l λl=>k (.lst t l)
 | .ptr s o=>fzN o λo=>k (.ptr s o)
 | .pte s t i o=>fzN i λi=>fzN o λo=>k (.pte s t i o)
 | .pe t l i o=>fzN i λi=>fzN o λo=>k (.pe t l i o)
 | .pro cs o=>fzN o λo=>na f cs λcs=>k (.pro cs o)
 |v=>k v
def fz0{R:Type}(v:SV)(k:SV->R):R:=k v
def fz1{R:Type}:SV->(SV->R)->R:=fzA fz0
def fz2{R:Type}:SV->(SV->R)->R:=fzA fz1
def CE{R:Type}:SV->(SV->R)->R:=fzA fz2
def xW{R:Type}(f:SV->(SV->R)->R):Prop:=∀v,∃v',v'.av=v.av/\(v.ok->v'.ok)/\∀k,f v k=k v'
def AK{R:Type}{f:SV->(SV->R)->R}(hf:xW f):∀l,∃l',avs l'=avs l/\∀k,na f l k=k l'
 |[] =>⟨[],rfl,λ_=>rfl⟩
 |x::l=>by
  obtain⟨v,h1,_,h2⟩:=hf x;obtain⟨m,h3,h4⟩:=AK hf l;refine⟨v::m,by rw[avs,avs,h1,h3],λk=> ?_⟩;show f x (λx=>na f l λl=>k (x::l))=_;rw[h2,h4]
def tK{R:Type}{f:SV->(SV->R)->R}(hf:xW f):xW (fzA f):=by
 intro v;have ih:=AK hf;cases v
 case bool b=>exact⟨.lit b,rfl,λ_=>trivial,λ_=>by cases b<;>rfl⟩
 case lit b=>exact⟨.lit b,rfl,λ_=>trivial,λ_=>by cases b<;>rfl⟩
 case prop p e=>exact⟨.lit (@decide p e),rfl,λ_=>trivial,λ_=>by cases e<;>rfl⟩
 case agg l=>
  obtain⟨m,h1,h2⟩:=ih l;exact⟨.agg m,by simp only[SV.av,h1],λ_=>trivial,λk=>h2 _⟩
 case tup l=>
  obtain⟨m,h1,h2⟩:=ih l;exact⟨.tup m,by simp only[SV.av,h1],λ_=>trivial,λk=>h2 _⟩
 case sl n l=>
  obtain⟨m,h1,h2⟩:=ih l;exact⟨.sl n m,by simp only[SV.av,h1],λ_=>trivial,λk=>by unfold fzA;dsimp only;rw[kj,h2]⟩
 case pro l n=>
  obtain⟨m,h1,h2⟩:=ih l;exact⟨.pro m n,by simp only[SV.av,h1],λ_=>trivial,λk=>by unfold fzA;dsimp only;rw[kj,h2]⟩
 all_goals first
  |exact⟨_,rfl,id,λ_=>rfl⟩
  |exact⟨_,rfl,id,λ_=>by unfold fzA;dsimp only;first|exact og _ _|exact kj _ _|exact Io _ _ _|(rw[kj];exact kj _ _)⟩
def XP{R:Type}:xW (CE (R:=R)):=tK (tK (tK λv=>⟨v,rfl,id,λ_=>rfl⟩))
def aJ.cX(d:Nat)(v:Option SOb)(F:aJ)(t:Nat):aJ.at ((d,v)::F) t=if t=d then v else aJ.at F t:=by
 conv=>lhs;unfold aJ.at
 split
 .simp_all
 .rename_i h;rw[if_neg (fz h)]
def Frm.atR(F:Frm):Nat->SV:=rV (motive:=λ_=>Nat->SV) (λ_=> .undef) (λq _ ih t=>cond (ae t q.1) q.2 (ih t)) F
def Frm.tR(F:Frm):F.atR=F.at:=by
 funext t
 induction F with
 |nil=>rfl
 |cons q F ih=>
  obtain⟨d,v⟩:=q;show cond (ae t d) v (Frm.atR F t)=match ae t d with|true=>v|false=>Frm.at F t
  rw[ih];cases ae t d<;>rfl
def aJ.atR(F:aJ):Nat->Option SOb:=rV (motive:=λ_=>Nat->Option SOb) (λ_=>none) (λq _ ih t=>cond (ae t q.1) q.2 (ih t)) F
def aJ.tR(F:aJ):F.atR=F.at:=by
 funext t
 induction F with
 |nil=>rfl
 |cons q F ih=>
  obtain⟨d,v⟩:=q;show cond (ae t d) v (aJ.atR F t)=match ae t d with|true=>v|false=>aJ.at F t
  rw[ih];cases ae t d<;>rfl
def td(n:Nat)(F:Frm):Operand->SV
 | .tmp t=>cond (dD t n) (F.atR t) .any
 | .const v=>svC v
 | .func f=> .fnp f [] []
 | .global _=> .any
def Fw(n:Nat)(F:Frm):td n F=br n F:=by
 funext x
 cases x with
 |tmp t=>
  show cond (dD t n) (F.atR t) .any=match dD t n with|true=>F.at t|false=>SV.any
  rw[Frm.tR];cases dD t n<;>rfl
 |_=>rfl
def gJ(m d:Nat):Bool:=ae (Nat.land (Nat.shiftRight m d) 1) 1
def AU(m d:Nat):gJ m d=m.testBit d:=by
 have e:gJ m d=ae ((m>>>d)&&&1) 1:=rfl;rw[e,Nat.and_one_is_mod,Nat.testBit_eq_decide_div_mod_eq,Nat.shiftRight_eq_div_pow];cases h:decide (m/2^d % 2=1)with
 |true=>rw[of_decide_eq_true h];rfl
 |false=>
  have:=of_decide_eq_false h;cases hb:ae (m/2^d % 2) 1 with
  |true=>exact(this (bk hb)).elim
  |false=>rfl
def kM(m d:Nat):Nat:=Nat.lor m (Nat.shiftLeft 1 d)
def sq(m d t:Nat):gJ (kM m d) t=(gJ m t||decide (t=d)):=by
 rw[AU,AU];have e:kM m d=m|||(1<<<d):=rfl
 rw[e,Nat.testBit_or,Nat.one_shiftLeft,Nat.testBit_two_pow]
 congr 1
 by_cases h:t=d
 .subst h;simp
 .rw[decide_eq_false h,decide_eq_false (λe:d=t=>h e.symm)]
def ddF{R:Type}(F:Frm):Nat->(Frm->R)->R:=rV (motive:=λ_=>Nat->(Frm->R)->R) (λ_ k=>k [])
 (λq _ ih m k=>cond (gJ m q.1) (ih m k) (fzN (kM m q.1) λm=>ih m λF=>k (q::F))) F
def A8{R:Type}:∀(F:Frm) (m:Nat),∃F',(∀t,gJ m t=false->Frm.at F' t=F.at t)/\∀k:Frm->R,ddF F m k=k F'
 |[],m=>⟨[],λ_ _=>rfl,λ_=>rfl⟩
 |(d,v)::F,m=>by
  cases hb:gJ m d with
  |true=>
   obtain⟨F',h1,h2⟩:=A8 (R:=R) F m;refine⟨F',λt ht=> ?_,λk=> ?_⟩
   .rw[Frm.cX,if_neg (λe=>by rw[e,hb]at ht;cases ht)];exact h1 t ht
   .show cond (gJ m d) (ddF F m k) _=_;rw[hb];exact h2 k
  |false=>
   obtain⟨F',h1,h2⟩:=A8 (R:=R) F (kM m d);refine⟨(d,v)::F',λt ht=> ?_,λk=> ?_⟩
   .rw[Frm.cX,Frm.cX];split
    .rfl
    .rename_i h;exact h1 t (by rw[sq,ht,decide_eq_false h];rfl)
   .show cond (gJ m d) _ (fzN (kM m d) λm=>ddF F m λF=>k ((d,v)::F))=_;rw[hb,kj];exact h2 _
def ddL{R:Type}(F:aJ):Nat->(aJ->R)->R:=rV (motive:=λ_=>Nat->(aJ->R)->R) (λ_ k=>k [])
 (λq _ ih m k=>cond (gJ m q.1) (ih m k) (fzN (kM m q.1) λm=>ih m λF=>match q.2 with|some _=>k (q::F)|none=>k F)) F
def A7{R:Type}:∀(F:aJ) (m:Nat),∃F',(∀t,gJ m t=false->aJ.at F' t=F.at t)/\(∀t,gJ m t=true->aJ.at F' t=none)/\∀k:aJ->R,ddL F m k=k F'
 |[],m=>⟨[],λ_ _=>rfl,λ_ _=>rfl,λ_=>rfl⟩
 |(d,v)::F,m=>by
  cases hb:gJ m d with
  |true=>
   obtain⟨F',h1,h0,h2⟩:=A7 (R:=R) F m;refine⟨F',λt ht=> ?_,h0,λk=> ?_⟩
   .rw[aJ.cX,if_neg (λe=>by rw[e,hb]at ht;cases ht)];exact h1 t ht
   .show cond (gJ m d) (ddL F m k) _=_;rw[hb];exact h2 k
  |false=>
   obtain⟨F',h1,h0,h2⟩:=A7 (R:=R) F (kM m d);have e1:∀t,t≠d->gJ m t=false->gJ (kM m d) t=false:=λt h ht=>by rw[sq,ht,decide_eq_false h];rfl
   have e2:gJ (kM m d) d=true:=by rw[sq,decide_eq_true rfl,Bool.or_true]
   cases v with
   |some o=>
    refine⟨(d,some o)::F',λt ht=> ?_,λt ht=> ?_,λk=> ?_⟩
    .rw[aJ.cX,aJ.cX];split
     .rfl
     .rename_i h;exact h1 t (e1 t h ht)
    .rw[aJ.cX,if_neg (λe=>by rw[e,hb]at ht;cases ht)];exact h0 t (by rw[sq,ht];rfl)
    .show cond (gJ m d) _ (fzN (kM m d) λm=>ddL F m λF=>k ((d,some o)::F))=_;rw[hb,kj];exact h2 _
   |none=>
    refine⟨F',λt ht=> ?_,λt ht=>h0 t (by rw[sq,ht];rfl),λk=> ?_⟩
    .rw[aJ.cX];split
     .rename_i h;subst h;exact h0 t e2
     .rename_i h;exact h1 t (e1 t h ht)
    .show cond (gJ m d) _ (fzN (kM m d) λm=>ddL F m λF=>k F)=_;rw[hb,kj];exact h2 _
def qv{R:Type}(n:Nat)(F:Frm)(d:Option Nat)(r:SV)(k:Frm->R):R:=match d with
 |none=>k F
 |some d=>cond (dD d n) (k ((d,r)::F)) (k F)
def Ge{R:Type}(n:Nat)(F:Frm)(d:Option Nat)(r:SV):∃F',(∀t,F'.at t=(dj n F d r).at t)/\∀k:Frm->R,qv n F d r k=k F':=by
 cases d with
 |none=>exact⟨F,λ_=>rfl,λ_=>rfl⟩
 |some d=>
  unfold qv dj;dsimp only;cases dD d n with
  |true=>exact⟨(d,r)::F,λ_=>rfl,λ_=>rfl⟩
  |false=>exact⟨F,λ_=>rfl,λ_=>rfl⟩
def Frm.BG{n:Nat}{F F':Frm}(h:∀t,F'.at t=F.at t):F'.av n=F.av n:=List.map_congr_left λt _=>by rw[h]
def Frm.Aq{F F':Frm}(h:∀t,F'.at t=F.at t)(hF:F.ok):F'.ok:=λt=>by rw[h];exact hF t
def nK(a b:Option SOb):Prop:=(∀x,a.map (SOb.ob x)=b.map (SOb.ob x))/\∀i,a.bind (SOb.inner i)=b.bind (SOb.inner i)
def nK.rfl{a:Option SOb}:nK a a:=⟨λ_=>Eq.refl _,λ_=>Eq.refl _⟩
def XQ{L L':aJ}(h:∀s,nK (L.at s) (L'.at s)):L.fn=L'.fn:=by
 funext s
 unfold aJ.fn Sg.a;split
 .split
  .exact(h _).1 _
  .exact(h _).2 _
 .rfl
def fzO{R:Type}(o:Option SOb)(k:Option SOb->R):R:=match o with
 |some (.box ty cs)=>na fz2 cs λcs=>k (some (.box ty cs))
 |some (.arr ty ez cs)=>na fz2 cs λcs=>k (some (.arr ty ez cs))
 |some (.row ty t l)=>fzL t l λl=>k (some (.row ty t l))
 |o=>k o
def YT{R:Type}(o:Option SOb):∃o',nK o' o/\∀k:Option SOb->R,fzO o k=k o':=by
 have hs:=AK (R:=R) (f:=fz2) (tK (tK λv=>⟨v,rfl,id,λ_=>rfl⟩));unfold fzO;split
 .rename_i ty cs;obtain⟨m,h1,h2⟩:=hs cs;exact⟨some (.box ty m),⟨λx=>by simp only[dm,SOb.ob,h1],λ_=>rfl⟩,λk=>h2 _⟩
 .rename_i ty ez cs;obtain⟨m,h1,h2⟩:=hs cs;exact⟨some (.arr ty ez m),⟨λx=>by simp only[dm,SOb.ob,h1],λ_=>rfl⟩,λk=>h2 _⟩
 .exact⟨_,nK.rfl,λk=>Io _ _ _⟩
 .exact⟨_,nK.rfl,λk=>rfl⟩
def xA{R:Type}(W:aJ):aJ->(aJ->R)->R:=rV (motive:=λ_=>aJ->(aJ->R)->R) (λL k=>k L) (λq _ ih L k=>ih L λL=>fzO q.2 λo=>k ((q.1,o)::L)) W
def Gc{R:Type}:∀(W L:aJ),∃L',(∀s,nK (aJ.at L' s) (aJ.at (W++L) s))/\∀k:aJ->R,xA W L k=k L'
 |[],L=>⟨L,λ_=>nK.rfl,λ_=>rfl⟩
 |(s,o)::W,L=>by
  obtain⟨L',h1,h2⟩:=Gc (R:=R) W L;obtain⟨o',h3,h4⟩:=YT (R:=R) o;refine⟨(s,o')::L',λt=> ?_,λk=>by show xA W L (λL=>fzO o λo=>k ((s,o)::L))=_;rw[h2,h4]⟩;rw[aJ.cX,mG,aJ.cX];split
  .exact h3
  .exact h1 t
def wj(T:d9)(σ:Sg)(f:Nat)(xs:List SV):Option (SV×List Nat×aJ):=match T f with
 |some ⟨⟨_,dec,_,.val fr res⟩,k⟩=>(match hm:gH (eZ 3 σ) xs with
  |some (ps,bs)=>(match(p6 (rq 3 σ) xs (ps,bs) hm).b with
   |true=>(match dec bs with
    |some x=>(match(k x).b,(res x).ape,bJ (avs xs)with
     |true,false,some _=>some (res x,[],[])
     |true,false,none=>(match fr,ql (res x)with
      |false,false=>(match xs.all (iw 3 σ)with|true=>some (res x,bD (cg 3 σ) xs,(bD (cg 3 σ) xs).map (·,none))|false=>none)
      |_,_=>some (res x,bD (cg 3 σ) xs,[]))
     |_,_,_=>none)
    |none=>none)
   |false=>none)
  |none=>none)
 |_=>none
def GE{T:d9}{n:Nat}{σ:Sg}{f:Nat}{xs:List SV}{q:SV×List Nat×aJ}(h:wj T σ f xs=some q):∃ps,qW T.t n σ f xs=some (ps,q)/\∀p∈ps,p:=by
 unfold wj at h;split at h
 case h_2=>cases h
 rename_i Y dec pre fr res k hT;have e1:T.t f=some ⟨Y,dec,pre,.val fr res⟩:=by unfold d9.t;rw[hT]
 split at h
 case h_2=>cases h
 rename_i ps bs hm;split at h
 case h_2=>cases h
 rename_i hc;have hps:=(p6 (rq 3 σ) xs (ps,bs) hm).h hc;split at h
 case h_2=>cases h
 rename_i x hx;refine⟨ps++pre x,?_⟩;unfold qW;rw[e1];dsimp only;rw[hm];dsimp only;rw[hx];dsimp only;split at h
 .rename_i h1 h2 h3;have hk:=(k x).h h1;cases h;rw[h2,h3];exact⟨rfl,λp hp=>(eA.1 hp).elim (hps p) (hk p)⟩
 .rename_i h1 h2 h3;have hk:=(k x).h h1;rw[h2,h3];dsimp only;refine⟨?_,λp hp=>(eA.1 hp).elim (hps p) (hk p)⟩;split at h
  .rename_i h4;rw[h4];split at h
   .rename_i h5;cases h;dsimp only;rw[h5]
   .cases h
  .rename_i hn;cases h;split
   .rename_i h4;exact(hn rfl h4).elim
   .rfl
 .cases h
def AQ(T:d9)(σ:Sg)(fv:SV)(xs:List SV):Option (SV×List Nat×aJ):=match fv with
 | .fn g a b=>wj T σ g (a++xs++b)
 | .fnp g a b=>(match bJ (avs a),bJ (avs b)with|some _,some _=>wj T σ g (a++xs++b)|_,_=>none)
 |_=>none
def TB{P:Program}{T:d9}{n:Nat}{σ:Sg}{fv:SV}{xs:List SV}{q:SV×List Nat×aJ}(h:AQ T σ fv xs=some q):∃ps,sR P T.t n σ fv xs=some (ps,q)/\∀p∈ps,p:=by
 unfold AQ at h;unfold sR;split at h
 .exact GE h
 .split at h
  .rename_i h1 h2;dsimp only;rw[h1,h2];exact GE h
  .cases h
 .cases h
def B8:Op->Bool
 | .assign _=>false
 |_=>true
def Iz:Op->Option (Operand×List Operand)
 | .call {callee:= .value f,args, .. }=>some (f,args.toList)
 |_=>none
def opE(X:Cx)(T:d9)(more:Nat->Op->SE->Sg->Option (SV×List Nat×aJ))(n:Nat)(o:Op)(E:SE)(σ:Sg):Option (SV×List Nat×aJ):=match Iz o with
 |some (f,args)=>AQ T σ (E f) (args.map E)
 |none=>(match h:sop X (B8 o) n o E σ with
  |some q=>(match(Hg X (B8 o) n o E σ q h).b with|true=>some q.2|false=>none)
  |none=>more n o E σ)
def lq(P:Program)(more:Nat->Op->SE->Sg->Option (SV×List Nat×aJ)):Prop:=∀(n:Nat) (o:Oper) (E:SE) (σ:Sg) r rd W,(∀x,(E x).ok)->more n o.op E σ=some (r,rd,W)->(∃R' W',a7 P o E.a σ.a n r.av R' W'/\bI σ rd W R' W')/\r.ok
def X7{X:Cx}(hX:X.Ok){T:d9}(hT:T.t.Ok X.P){more:Nat->Op->SE->Sg->Option (SV×List Nat×aJ)}(hM:lq X.P more){n:Nat}{o:Oper}{E:SE}{σ:Sg}{r:SV}{rd:List Nat}{W:aJ}(hE:∀x,(E x).ok)(h:opE X T more n o.op E σ=some (r,rd,W)):
  (∃R' W',a7 X.P o E.a σ.a n r.av R' W'/\bI σ rd W R' W')/\r.ok:=by
 have key:∀(Y:Cx),Y.Ok->Y.P=X.P->∀raw ps,sop Y raw n o.op E σ=some (ps,r,rd,W)->(∀p∈ps,p)->(∃R' W',a7 X.P o E.a σ.a n r.av R' W'/\bI σ rd W R' W')/\r.ok:=by intro Y hY hP raw ps h1 h2;rw[<-hP];exact GS hY (raw:=raw) hE ps r rd W (by unfold Bz;rw[h1];rfl) h2
 unfold opE at h;split at h
 .rename_i f args hc;obtain⟨ps,h1,h2⟩:=TB (P:=X.P) (n:=n) h;refine key {X with T:=T.t} ⟨hT,hX.2.1,hX.2.2⟩ rfl true ps ?_ h2;unfold Iz at hc;split at hc
  .rename_i ho;cases hc;rw[ho];unfold sop;exact h1
  .cases hc
 .split at h
  .rename_i q hq;split at h
   .rename_i hc;have hc:=(Hg X (B8 o.op) n o.op E σ q hq).h hc;obtain⟨ps,q2⟩:=q;cases h;exact key X hX rfl _ ps hq hc
   .cases h
  .exact hM n o E σ r rd W hE h
end
noncomputable section
set_option warn.classDefReducibility false
abbrev iL:=Nat->Op->SE->Sg->Option (SV×List Nat×aJ)
abbrev EKt:=Frm->aJ->dQ->Option SV
abbrev ENt:=Nat->Frm->aJ->dQ->EKt->Option SV
def CL(X:Cx)(T:d9)(M:iL)(n N:Nat)(ds:List (Option Nat))(o:Oper)(next:ENt):ENt:=λi F L log K=>
 let go:Unit->Option SV:=λ_=>match opE X T M (N+i) o.op (td n F) L.atR with
  |some (r,rd,W)=>CE r λr=>xA W L λL=>qv n F o.dst r λF=>next (i+1) F L (log++[(rd.map ncl,W.map λ(q:Nat×Option SOb)=>ncl q.1)]) K
  |none=>none
 let no:Unit->Option SV:=λ_=>qv n F o.dst .undef λF=>next (i+1) F L (log++[([],[])]) K
 match o.guard with
 |none=>go ()
 |some (j,want)=>(match(ds[j]?).join with
  |some d=>(match dD d n,F.atR d with
   |true,.lit b=>(match b,want with
    |true,true=>go ()
    |false,false=>go ()
    |_,_=>no ())
   |true,.undef=>no ()
   |_,_=>none)
  |none=>none)
def rE(X:Cx)(T:d9)(M:iL)(n N:Nat)(ds:List (Option Nat))(l:List Oper):ENt:=
 rV (motive:=λ_=>ENt) (λ_ F L log K=>K F L log) (λo _ ih=>CL X T M n N ds o ih) l
def Tl(n:Nat)(FA:List AV)(LA:Sto)(G:Frm->aJ->Prop):Prop:=∃F' L',FA=F'.av n/\LA=L'.fn/\F'.ok/\G F' L'
def vq{X:Cx}(hX:X.Ok){T:d9}(hT:T.t.Ok X.P){M:iL}(hM:lq X.P M){n N:Nat}{ds:List (Option Nat)}{K:Frm->aJ->dQ->Option SV}{v:SV}:
  ∀(l:List Oper) (i:Nat) (F:Frm) (L:aJ) (log:dQ),F.ok->rE X T M n N ds l i F L log K=some v->
   cJ X.P N ds l i (F.av n) L.fn log λFA LA log'=>Tl n FA LA λF' L'=>K F' L' log'=some v
 |[],i,F,L,log,hF,h=>by
  unfold cJ;exact⟨F,L,rfl,rfl,hF,h⟩
 |o::rest,i,F,L,log,hF,h=>by
  have run:(match opE X T M (N+i) o.op (td n F) L.atR with
   |some (r,rd,W)=>CE r λr=>xA W L λL=>qv n F o.dst r λF=>rE X T M n N ds rest (i+1) F L (log++[(rd.map ncl,W.map λ(q:Nat×Option SOb)=>ncl q.1)]) K
   |none=>none)=some v->
    ∃r R W Rc Wc,a7 X.P o (dA (F.av n)) L.fn (N+i) r R W/\inC R Rc/\inC (W.map (·.1)) Wc/\cJ X.P N ds rest (i+1) (cE (F.av n) o.dst r) (aX L.fn W) (log++[(Rc,Wc)]) λFA LA log'=>Tl n FA LA λF' L'=>K F' L' log'=some v:=by
   intro h;split at h
   case h_2=>cases h
   rename_i r R W hs;rw[Fw,aJ.tR]at hs;obtain⟨⟨R',W',h5,f1,f2,f3⟩,h4⟩:=X7 hX hT hM (Fv hF) hs;have e1:SE.a (br n F)=dA (F.av n):=funext λx=>eI x;rw[e1]at h5;have e3:aX L.fn W'=aJ.fn (W++L):=by unfold aJ.fn;rw[f3,aJ.ow]
   obtain⟨r',g1,g2,g3⟩:=XP (R:=Option SV) r;rw[g3]at h;obtain⟨L',k1,k2⟩:=Gc (R:=Option SV) W L;rw[k2]at h;obtain⟨F',m1,m2⟩:=Ge (R:=Option SV) n F o.dst r';rw[m2]at h;refine⟨r.av,R',W',_,_,h5,f1,f2,?_⟩;rw[e3,<-XQ k1,<-g1,ir,<-Frm.BG m1];exact vq hX hT hM rest (i+1) F' L' _ (Frm.Aq m1 (mr hF (g2 h4))) h
  have skip:(qv n F o.dst .undef λF=>rE X T M n N ds rest (i+1) F L (log++[([],[])]) K)=some v->
    cJ X.P N ds rest (i+1) (cE (F.av n) o.dst .undef) L.fn (log++[([],[])]) λFA LA log'=>Tl n FA LA λF' L'=>K F' L' log'=some v:=by
   intro h;obtain⟨F',m1,m2⟩:=Ge (R:=Option SV) n F o.dst .undef;rw[m2]at h;have e:AV.undef=SV.av .undef:=rfl;rw[e,ir,<-Frm.BG m1];exact vq hX hT hM rest (i+1) F' L _ (Frm.Aq m1 (mr hF (show SV.ok .undef from trivial))) h
  replace h:CL X T M n N ds o (rE X T M n N ds rest) i F L log K=some v:=h;unfold CL at h;unfold cJ;dsimp only at h;split at h
  .rename_i hg;rw[hg];exact run h
  .rename_i j want hg;rw[hg];dsimp only;split at h
   case h_2=>cases h
   rename_i d hdj;have gd:d<n->gdA ds (F.av n) j=(match(F.at d).av with| .p (.bool b)=>some (some b)| .undef=>some none|_=>none):=by intro hlt;unfold gdA;rw[hdj];dsimp only;rw[Frm.fY hlt];rfl
   split at h
   .rename_i b hlt hb;rw[Frm.tR]at hb;rw[gd ((dV _ _).1 hlt),hb];show(if b=want then _ else _);cases b<;>cases want<;>dsimp only at h
    .rw[if_pos rfl];exact run h
    .rw[if_neg (by decide)];exact skip h
    .rw[if_neg (by decide)];exact skip h
    .rw[if_pos rfl];exact run h
   .rename_i hlt hb;rw[Frm.tR]at hb;rw[gd ((dV _ _).1 hlt),hb];exact skip h
   .cases h
def CJ(X:Cx)(T:d9)(M:iL)(n:Nat)(ops:List Oper)(draw:Bool)(F:Frm)(L:aJ)(N:Nat)(K:Frm->aJ->Option SV):Option SV:=match draw with
 |true=>(match X.P.follows .mixedOrders,qi ops (oq ops),dOk ops n with
  |true,true,true=>rE X T M n N (ops.map (·.dst)) ops 0 F L [] λF L log=>(match nF (oq ops) log with|true=>K F L|false=>none)
  |_,_,_=>none)
 |false=>(match gOk ops with
  |true=>rE X T M n N (ops.map (·.dst)) ops 0 F L [] λF L _=>K F L
  |false=>none)
def XT{X:Cx}(hX:X.Ok){T:d9}(hT:T.t.Ok X.P){M:iL}(hM:lq X.P M){n:Nat}{ops:List Oper}{draw:Bool}{F:Frm}{L:aJ}{N:Nat}{K:Frm->aJ->Option SV}{v:SV}(hF:F.ok)(h:CJ X T M n ops draw F L N K=some v):
  xV X.P draw ops (F.av n) L.fn N λFA LA=>Tl n FA LA λF' L'=>K F' L'=some v:=by
 unfold CJ at h;split at h
 .split at h
  .rename_i h1 h2 h3;refine⟨_,h1,h2,by rw[Frm.d7];exact h3,?_⟩;refine d8 ?_ (vq hX hT hM ops 0 F L [] hF h);rintro FA LA log ⟨F',L',rfl,rfl,hF',hh⟩;split at hh
   .rename_i hf;exact⟨hf,F',L',rfl,rfl,hF',hh⟩
   .cases hh
  .cases h
 .split at h
  .rename_i h1;exact⟨h1,vq hX hT hM ops 0 F L [] hF h⟩
  .cases h
abbrev tj:=Exit->Frm->aJ->Nat->Option SV
def Bm(body:tj->Frm->aJ->Nat->Option SV)(Q:tj):Nat->Frm->aJ->Nat->Option SV
 |0,_,_,_=>none
 |k+1,F,L,N=>ddF F 0 λF=>ddL L 0 λL=>body (λe F' L' N'=>match e with| .normal=>Bm body Q k F' L' N'|e=>Q e F' L' N') F L N
def iK(X:Cx)(T:d9)(M:iL)(n lf:Nat):Code->tj->Frm->aJ->Nat->Option SV
 | .skip,Q,F,L,N=>Q .normal F L N
 | .region _ ops draw,Q,F,L,N=>fzN (N+ops.size) λN'=>CJ X T M n ops.toList draw F L N λF L=>Q .normal F L N'
 | .seq a b,Q,F,L,N=>iK X T M n lf a (λe F L N=>match e with| .normal=>iK X T M n lf b Q F L N|e=>Q e F L N) F L N
 | .cond c t e,Q,F,L,N=>(match td n F c with
   | .lit true=>iK X T M n lf t Q F L N
   | .lit false=>iK X T M n lf e Q F L N
   | .bool true=>iK X T M n lf t Q F L N
   | .bool false=>iK X T M n lf e Q F L N
   |_=>none)
 | .block id c,Q,F,L,N=>iK X T M n lf c (λe F L N=>match e with| .exit id'=>(match ae id' id with|true=>Q .normal F L N|false=>Q (.exit id') F L N)|e=>Q e F L N) F L N
 | .loop c,Q,F,L,N=>Bm (λQ F L N=>iK X T M n lf c Q F L N) Q lf F L N
 | .exit id,Q,F,L,N=>Q (.exit id) F L N
 | .ret,Q,F,L,N=>Q .ret F L N
 | .scope c,Q,F,L,N=>iK X T M n lf c (λe F L N=>match e with| .goto _=>none|e=>Q e F L N) F L N
 | .label _,Q,F,L,N=>Q .normal F L N
 |_,_,_,_,_=>none
def V1{X:Cx}(hX:X.Ok){T:d9}(hT:T.t.Ok X.P){M:iL}(hM:lq X.P M){n lf:Nat}{v:SV}:∀(c:Code) (Q:tj) (F:Frm) (L:aJ) (N:Nat),F.ok->iK X T M n lf c Q F L N=some v->
  awp X.P c (λe FA LA N'=>Tl n FA LA λF' L'=>Q e F' L' N'=some v) (F.av n) L.fn N:=by
 intro c;induction c with
 |skip=>intro Q F L N hF h;exact⟨F,L,rfl,rfl,hF,h⟩
 |region id ops draw=>
  intro Q F L N hF h;unfold iK at h;rw[kj]at h;exact .inl (XT hX hT hM hF h)
 |seq a b iha ihb=>
  intro Q F L N hF h;refine⟨λFA LA N'=>Tl n FA LA λF' L'=>iK X T M n lf b Q F' L' N'=some v,gp a ?_ (iha _ F L N hF h),?_⟩
  .intro e FA LA N' ht;cases e<;>exact ht
  .rintro FA LA N' ⟨F',L',rfl,rfl,hF',hh⟩;exact⟨_,_,_,cV.rfl,ihb Q F' L' N' hF' hh⟩
 |cond c t e iht ihe=>
  intro Q F L N hF h;unfold iK at h;have ev:∀u,td n F c=u->dA (F.av n) c=u.av:=λu hu=>by rw[<-eI,<-Fw,hu]
  split at h
  .rename_i hc;exact⟨true,ev _ hc,λ_=>iht Q F L N hF h,λhh=>by cases hh⟩
  .rename_i hc;exact⟨false,ev _ hc,(λhh=>by cases hh),λ_=>ihe Q F L N hF h⟩
  .rename_i hc;exact⟨true,ev _ hc,λ_=>iht Q F L N hF h,λhh=>by cases hh⟩
  .rename_i hc;exact⟨false,ev _ hc,(λhh=>by cases hh),λ_=>ihe Q F L N hF h⟩
  .cases h
 |block id c ih=>
  intro Q F L N hF h;refine gp c ?_ (ih _ F L N hF h);intro e FA LA N' ht;cases e
  case exit id'=>
   dsimp only at ht|-;cases hb:ae id' id with
   |true=>rw[hb]at ht;rw[if_pos (bk hb)];exact ht
   |false=>rw[hb]at ht;rw[if_neg (fz hb)];exact ht
  all_goals exact ht
 |loop c ih=>
  intro Q F L N hF h;unfold iK at h
  let rep:Nat->List AV->Sto->Nat->Prop:=λk FA LA N'=>Tl n FA LA λF' L'=>Bm (λQ F L N=>iK X T M n lf c Q F L N) Q k F' L' N'=some v
  have hmu:∃μ:List AV->Sto->Nat->Nat,∀FA LA N',(∃k,rep k FA LA N')->rep (μ FA LA N') FA LA N'/\∀k,rep k FA LA N'->μ FA LA N'<=k:=by
   have:∀FA LA N',∃k,(∃k,rep k FA LA N')->rep k FA LA N'/\∀j,rep j FA LA N'->k<=j:=by
    intro FA LA N';by_cases hh:∃k,rep k FA LA N'
    .obtain⟨k,h1,h2⟩:=least hh;exact⟨k,by grind⟩
    .exact⟨0,λh=>(hh h).elim⟩
   exact⟨λFA LA N'=>Classical.choose (this FA LA N'),λFA LA N'=>Qj (this FA LA N')⟩
  obtain⟨μ,hμ⟩:=hmu;refine Es (λFA LA N'=>∃k,rep k FA LA N') μ ⟨_,_,_,cV.rfl,lf,⟨F,L,rfl,rfl,hF,h⟩⟩ ?_;intro FA LA N' hr;have hk:=(hμ FA LA N' hr).1;generalize hkk:μ FA LA N'=k at hk|-;obtain⟨F',L',rfl,rfl,hF',hh⟩:=hk;cases k with
  |zero=>cases hh
  |succ k=>
   obtain⟨F2,d1,d2⟩:=A8 (R:=Option SV) F' 0;obtain⟨L2,d3,_,d4⟩:=A7 (R:=Option SV) L' 0;have z:∀t,gJ 0 t=false:=λt=>by rw[AU,Nat.zero_testBit]
   have hh:ddF F' 0 _=some v:=hh;rw[d2,d4]at hh;rw[<-Frm.BG λt=>d1 t (z t),show L'.fn=L2.fn from congrArg Sg.a (funext λt=>(d3 t (z t)).symm)];refine gp c ?_ (ih _ F2 L2 N' (Frm.Aq (λt=>d1 t (z t)) hF') hh);intro e FA LA N2 ht;cases e
   case normal=>
    have hr2:rep k FA LA N2:=ht;exact⟨_,_,_,cV.rfl,⟨k,hr2⟩,Nat.lt_succ_of_le ((hμ _ _ _ ⟨k,hr2⟩).2 k hr2)⟩
   all_goals exact ht
 |exit id=>intro Q F L N hF h;exact⟨F,L,rfl,rfl,hF,h⟩
 |ret=>intro Q F L N hF h;exact⟨F,L,rfl,rfl,hF,h⟩
 |rangeFunc f params x y _ _=>intro Q F L N hF h;cases h
 |scope c ih=>
  intro Q F L N hF h;refine gp c ?_ (ih _ F L N hF h);intro e FA LA N' ht;cases e<;>first|exact ht|(obtain⟨_,_,_,_,_,hh⟩:=ht;cases hh)
 |label l=>intro Q F L N hF h;exact⟨F,L,rfl,rfl,hF,h⟩
 |goto l=>intro Q F L N hF h;cases h
 |refuse s=>intro Q F L N hF h;cases h
def xS(P:Program)(n:Nat)(rs:List ResultVar)(F:Frm)(L:aJ):Option SV:=match kN P n F L.at rs with
 |some l=>(match hm:gH (eZ 3 L.at) l with
  |some (ps,m)=>(match(p6 (rq 3 L.at) l (ps,m) hm).b with|true=>some (pE m)|false=>none)
  |none=>none)
 |none=>none
def OY(P:Program)(n:Nat)(rs:List ResultVar):tj:=λe F L _=>match e with
 | .normal=>xS P n rs F L
 | .ret=>xS P n rs F L
 |_=>none
def X6{m:List SV}{u:List PV}(h2:avs m=u.map .p):(pE m).av= .p (jR u):=by
 cases m with
 |nil=>
  have:u=[] :=by have:=congrArg fh h2;simp[avs]at this;grind
  subst this;rfl
 |cons x m=>
  cases m with
  |nil=>
   cases u with
   |nil=>simp[avs]at h2
   |cons y u=>
    have h5:u=[] :=by have:=congrArg fh h2;simp only[avs,cO,iE,iM,d6]at this;grind
    subst h5;simp only[avs,cO,lK,List.cons.injEq,and_true]at h2;exact h2
  |cons y m=>
   have h5:(pE (x::y::m)).av=iJ (avs (x::y::m)):=rfl;rw[h5,h2];unfold iJ;rw[cQ];cases u with
   |nil=>simp[avs]at h2
   |cons a u=>
    cases u with
    |nil=>simp[avs]at h2
    |cons b u=>rfl
def Wo{P:Program}{n:Nat}{rs:List ResultVar}{v:SV}{e:Exit}{F:Frm}{L:aJ}{N:Nat}(h:OY P n rs e F L N=some v):∃q,v.av= .p q/\qt P rs q e (F.av n) L.fn N:=by
 have key:xS P n rs F L=some v->∃q,v.av= .p q/\fp P rs (F.av n) L.fn λl=>∃m,cI (ci 3 L.fn) l=some m/\jR m=q:=by
  intro h;unfold xS at h;split at h
  case h_2=>cases h
  rename_i l hl;split at h
  case h_2=>cases h
  rename_i ps m hm;split at h
  case h_2=>cases h
  rename_i hc;cases h;obtain⟨u,h1,h2⟩:=qD (λx ps y=>rz) hm (Chk.h (self:=p6 (rq 3 L.at) l (ps,m) hm) hc);exact⟨_,X6 h2,lV hl ⟨u,h1,rfl⟩⟩
 cases e<;>first|exact key h|cases h
def tq(X:Cx)(T:d9)(M:iL)(lf f:Nat)(args:List SV):Option SV:=match gF X.P f,X.P.funcs[f]? with
 |true,some fn=>(match fn.body with
  |some c=>(match iP args.length fn.ntmps,cq (λv=>match v.ape with|true=>false|false=>true) args with
   |true,true=>iK X T M fn.ntmps lf c (OY X.P fn.ntmps fn.results.toList) (js args 0) [] 0
   |_,_=>none)
  |none=>none)
 |_,_=>none
def FH{X:Cx}(hX:X.Ok){T:d9}(hT:T.t.Ok X.P){M:iL}(hM:lq X.P M){lf f:Nat}{args:List SV}{v:SV}{A:List PV}(hA:avs args=A.map .p)(h:tq X T M lf f args=some v)(hv:∃q,v.av= .p q):∃q,v.av= .p q/\Sat X.P false f A q:=by
 obtain⟨q,hq⟩:=hv;unfold tq at h;split at h
 case h_2=>cases h
 rename_i fn hok hf;split at h
 case h_2=>cases h
 rename_i c hb;split at h
 case h_2=>cases h
 rename_i hn hpe;have hn:=jF hn;have hpe:∀v∈args,v.ape=false:=λv hv=>by have:=dG hpe v hv;grind
 have hal:(A.map AV.p).length=A.length:=by grind
 have hAF:A.map .p++bS (fn.ntmps-A.length) .undef=(js args 0).av fn.ntmps:=by rw[zk hn,hA,hal]
 refine⟨q,hq,uq hok hf hb (.inl ⟨Iq,rfl⟩) ?_⟩;rw[hAF];refine gp c ?_ (V1 hX hT hM c _ _ [] 0 (vz hpe) h);rintro e FA LA N' ⟨F',L',rfl,rfl,_,hh⟩;obtain⟨q',h1,h2⟩:=Wo hh;rw[hq]at h1;cases h1;exact h2
def isP(v:SV):Bool:=match v.av with
 | .p _=>true
 |_=>false
def OW(X:Cx)(T:d9)(M:iL)(lf f:Nat)(args:List SV):Option (List SV×SV):=match bJ (avs args)with
 |some _=>(match tq X T M lf f args with
  |some v=>(match isP v with|true=>some (args,v)|false=>none)
  |none=>none)
 |none=>none
def CP(X:Cx)(T:d9)(M:iL)(lf f:Nat):EC:=⟨⟨List SV×SV,OW X T M lf f,λ_=>[],.val false (·.2)⟩,λ_=>inferInstanceAs (Chk [])⟩
def Xb{X:Cx}(hX:X.Ok){T:d9}(hT:T.t.Ok X.P){M:iL}(hM:lq X.P M)(lf f:Nat):(CP X T M lf f).c.Ok X.P f:=by
 intro xs x h _;unfold CP OW at h;dsimp only at h;split at h
 case h_2=>cases h
 rename_i A hA;split at h
 case h_2=>cases h
 rename_i v hv;split at h
 case h_2=>cases h
 rename_i hp;cases h;have hA:=fJ hA;obtain⟨q,h1,h2⟩:=FH hX hT hM hA hv (by
  unfold isP at hp;split at hp
  .rename_i q hq;exact⟨q,hq⟩
  .cases hp)
 exact⟨A,q,hA,h1,h2⟩
def wv(X:Cx)(T0:d9)(M:iL)(lf:Nat):Nat->d9
 |0=>T0
 |k+1=>λf=>match T0 f with
  |some e=>some e
  |none=>some (CP X (wv X T0 M lf k) M lf f)
def GO{X:Cx}(hX:X.Ok){T0:d9}(h0:T0.t.Ok X.P){M:iL}(hM:lq X.P M){lf:Nat}:∀k,(wv X T0 M lf k).t.Ok X.P
 |0=>h0
 |k+1=>by
  intro f c hc;unfold d9.t wv at hc;split at hc
  .rename_i e he;cases hc;split at he
   .rename_i e' h1;cases he;exact h0 f _ (by unfold d9.t;rw[h1])
   .cases he;exact Xb hX (GO hX h0 hM k) hM lf f
  .cases hc
end
section
variable {P:Program} {o:Oper} {E:Operand->AV} {σ:Nat->Option Ob} {n:Nat}
def V5{c:Call}{x y:Operand}{t t' e:TypeId}{s off m k:Nat}{ob:Ob}{cs:List PV}(ho:o.op= .call c)(hc:c.callee= .builtin .copy)(hargs:c.args= #[x,y])(hat:c.argTypes= #[t,t'])(ht:P.underlying t=some (.slice e))
  (hsz:(P.info? e).map (·.size)=some 1) (ex:E x= .own s off m) (ey:E y= .p (.sl k cs)) (hob:σ s=some ob) (he1:ob.esz=1) (hk:k=cs.length) (hoff:off+m<=ob.cells.length):
  a7 P o E σ n (.p (.int .i64 (lO k m:Nat))) [s] [(s,some ⟨ob.ty,ob.esz,cn ob.cells off ((cs.take (lO k m)).map .p)⟩)] :=by
 have he:ob.esz≠0:=by omega
 intro C0 ρ g V w B hs hB hR hn hgn hE;have g1:=hE x (by rw[ho];simp[cA,fw,hargs]);have g2:=hE y (by rw[ho];simp[cA,fw,hargs]);rw[ex]at g1;rw[ey]at g2;have hgs:g s=some ob:=by grind
 have hcl:∀v w',(Builtin.copy_ #[t,t'] o.type #[bE V x,bE V y]).run P w= .ok v w'->(execOp (bE V) o).run P w= .ok (.value v) w':=by intro v w' h;unfold execOp;simp only[ho,resolve,hc,invoke,builtin,hargs,hat,bi,cF,bq,List.map_toArray,cO,lK]at*;rw[h];rfl
 obtain⟨mn,hmn⟩:∃mn,mn=lO k m:=⟨_,rfl⟩;rw[<-hmn];have hmk:mn<=k:=by rw[hmn];exact Nat.min_le_left _ _
 have hmm:mn<=m:=by rw[hmn];exact Nat.min_le_right _ _
 obtain⟨l,hl⟩:∃l:List AV,l=(cs.take mn).map .p:=⟨_,rfl⟩;rw[<-hl];have hll:l.length=mn:=by rw[hl,d6,fV];omega
 obtain⟨q,cp,hρ,hcase⟩:=g1;obtain⟨a2,c2,hv2,hc2,hn2,hcc⟩:=g2;by_cases hm:mn=0
 .have hl0:l=[] :=ig.1 (by rw[hll,hm]);subst hl0;have hr:(Builtin.copy_ #[t,t'] o.type #[bE V x,bE V y]).run P w= .ok (goInt 0) w:=by
   rcases hcase with⟨_,hv,h0,_⟩|⟨b,p0,c',_,hv,_⟩
   .rw[hv,hv2];exact run_copy_none w t t' o.type e _ _ _ _ _ _ ht hsz (by rw[<-hm,hmn];first|rfl|(congr 1;omega))
   .rw[hv,hv2];exact run_copy_none w t t' o.type e _ _ _ _ _ _ ht hsz (by rw[<-hm,hmn])
  have hup:aX g [(s,some (⟨ob.ty,ob.esz,cn ob.cells off []⟩:Ob))] =g:=by
   funext s'
   unfold aX;by_cases h:s'=s
   .subst h;simp[cG,cn,hgs]
   .simp[cG,beq_eq_false_iff_ne.2 h]
  unfold cS;rw[hcl _ _ hr,hup];exact⟨ρ,λ_ _=>rfl,λ_ _ _ h=>h,hs,by rw[hm];rfl,Below.refl _ _⟩
 have hm0:m≠0:=by omega
 have hk0:0<k:=by omega
 have hmc:lO mn cs.length=mn:=by rw[<-hk];exact Nat.min_eq_left hmk
 have hom:off+mn<=ob.cells.length:=by omega
 obtain⟨b,p0,c',rfl,hv,h5,h6,h7⟩:=hcase.resolve_left (λh=>hm0 h.2.2.1);have:=h6 hm0;subst this;obtain⟨hBb,arr,hO⟩:=hs.at hgs hρ;obtain⟨ad,rfl⟩:∃ad,a2=some ad:=by
  cases a2 with
  |none=>have:=(hn2 rfl).2;subst this;simp at hk;omega
  |some ad=>exact⟨ad,rfl⟩
 obtain⟨hspot,hcells⟩:=hcc ad rfl;have hspot:=hspot hk0;obtain⟨vs,hvl,hvc,hvr,r2⟩:=(hcells.take mn).vals;have hvl:vs.length=mn:=by rw[hvl,fV];exact hmc
 have r1:ak ρ (ai C0 B w ρ g) l vs:=by rw[hl];exact bK.toA hvr
 have hlen:=r1.length;have hoff:p0+l.length<=ob.cells.length:=by rw[hll];exact hom
 have hle:ob.cells.length<=arr.size:=(hO.row he).2.1;have hr:(Builtin.copy_ #[t,t'] o.type #[bE V x,bE V y]).run P w= .ok (goInt vs.length) (w.setRow b (arr.toList.take p0++vs++arr.toList.drop (p0+vs.length)).toArray):=by
  have hfit:p0+vs.length<=arr.size:=by rw[hvl,<-hll];exact cZ hoff hle
  rw[hv,hv2];exact run_copy_row P w t t' o.type e b p0 m _ ad k c2 arr ob.ty vs ht hsz hO.blk (by rw[hvl,hmn]) (λj v hj=>by
   have:=(hvc j v hj).1;have e:ad.add j=⟨ad.block,ad.off+j,none⟩:=by
    obtain⟨a1,a2,a3⟩:=ad;cases hspot;unfold Addr.add;split
    .rename_i h;subst h;rfl
    .rfl
   rw[e];exact this) hfit r2
 unfold cS;rw[hcl _ _ hr];clear hcase hr;have hblk:(w.setRow b (arr.toList.take p0++vs++arr.toList.drop (p0+vs.length)).toArray).heap[b]? =some (.cells (arr.toList.take p0++vs++arr.toList.drop (p0+vs.length)).toArray ob.ty (0,0)):=setRow_heap w b arr _ ob.ty _ hO.blk;have hold:∀k,k≠b->(w.setRow b (arr.toList.take p0++vs++arr.toList.drop (p0+vs.length)).toArray).heap[k]? =w.heap[k]? :=by intro k hk;unfold uR;simp only[Array.getElem?_modify];rw[if_neg (by grind)]
 have hsize:(w.setRow b (arr.toList.take p0++vs++arr.toList.drop (p0+vs.length)).toArray).heap.size=w.heap.size:=by unfold uR;simp
 have hlk:∀s',s'≠s->[(s,some (⟨ob.ty,ob.esz,cn ob.cells p0 l⟩:Ob))].lookup s'=none:=by intro s' hs';simp[cG,beq_eq_false_iff_ne.2 hs']
 have hup:∀s',s'≠s->aX g [(s,some ⟨ob.ty,ob.esz,cn ob.cells p0 l⟩)] s'=g s':=by intro s' hs';unfold aX;rw[hlk s' hs']
 have hmono:∀b' o' x,ai C0 B w ρ g b' o' x->ai C0 B (w.setRow b (arr.toList.take p0++vs++arr.toList.drop (p0+vs.length)).toArray) ρ (aX g [(s,some ⟨ob.ty,ob.esz,cn ob.cells p0 l⟩)]) b' o' x:=by
  intro b' o' x ⟨e1,e2,e0⟩;have hne:b'≠b:=λe=>by grind
  refine⟨(World.cell?_of_block (hold b' hne)).trans e1,?_,e0⟩;intro s' c' e3;by_cases e:s'=s
  .grind
  .grind
 refine⟨ρ,λ_ _=>rfl,hmono,?_,by rw[hvl];rfl,⟨rfl,rfl,rfl,by omega,by grind⟩⟩;refine hs.step (by grind) (λ_ _ h=>h) hmono ?_ ?_ λk es clock hk=>hold k (li hk hO.blk)
 .intro s' o' b' c' e1 e2 e3;refine hold b' λe=> ?_;subst e;have:=hs.inj s s' ob o' b' cp c' hgs e2 hρ e3;grind
 .intro s' o' e;have e1:s'=s:=by
   rcases Nat.decEq s' s with h|h
   .grind
   .exact h
  subst e1;have e2:o'=⟨ob.ty,ob.esz,cn ob.cells p0 l⟩:=by simp[cG]at e;exact e.symm
  subst e2;have hasz:(arr.toList.take p0++vs++arr.toList.drop (p0+vs.length)).toArray.size=arr.size:=by simp[fV];omega
  refine⟨some b,cp,hρ,.inr ⟨b,_,rfl,hBb,⟨hblk,?_,?_,?_⟩,?_⟩⟩
  .intro hz;rw[hasz,hO.box hz];exact(mM _ _ _).symm
  .intro hz;obtain⟨k1,k2,k3⟩:=hO.row hz;rw[hasz];exact⟨k1,by rw[mM];exact k2,k3⟩
  .intro j y hj;rcases vP l ob.cells p0 hoff j y hj with⟨h1,h2⟩|⟨h1,h2⟩
   .obtain⟨u,k1,k2⟩:=r1.get _ _ _ y h2;refine⟨u,?_,r2 u (by grind),aR.mono (λ_ _ h=>h) hmono y u k2⟩;grind
   .obtain⟨u,k1,k3,k2⟩:=hO.cells j y h2;refine⟨u,?_,k3,aR.mono (λ_ _ h=>h) hmono y u k2⟩;grind
  .intro s2 o' c' hne e3 e4;rw[hup s2 hne]at e3;exact hne (hs.inj s' s2 ob o' b cp c' hgs e3 hρ e4).symm
def EO{op:BinOp}{t t':TypeId}{x y:Operand}(ho:o.op= .binOp op t x y t'){k k':IntKind}{a b:Int}(ea:E x= .p (.int k a))(eb:E y= .p (.int k' b))(hb:0<=b){r:Int}(hr:(op= .shl/\r=k.wrap (a*2^min b.toNat k.bits))\/(op= .shr/\r=a.fdiv (2^min b.toNat k.bits))):a7 P o E σ n (.p (.int k r)) [] [] :=by
 have hx:x∈o.op.operands.toList:=by rw[ho];simp[cA]
 have hy:y∈o.op.operands.toList:=by rw[ho];simp[cA]
 refine a7.val ?_;intro ρ C V w hE;have h1:=hE x hx;have h2:=hE y hy;rw[ea]at h1;rw[eb]at h2;unfold aR az at h1 h2;have h3:(do eqGuard op t x y (.int k a) (.int k' b);binOp op t (.int k a) (.int k' b):Sem Value).run P w= .ok (.int k r) w:=by
  rcases hr with⟨rfl,rfl⟩|⟨rfl,rfl⟩
  .simp only[eqGuard,binOp,Op.shift,bi,cF,bq,if_neg (show¬b<0 by omega)];rfl
  .simp only[eqGuard,binOp,Op.shift,bi,cF,bq,if_neg (show¬b<0 by omega)];rfl
 refine⟨.int k r,?_,by rfl⟩;unfold execOp;rw[ho];simp only[h1,h2,bi (x:=(do eqGuard op t x y (.int k a) (.int k' b);binOp op t (.int k a) (.int k' b):Sem Value)),h3,bq,cF]
def XL{t:TypeId}{x i:Operand}(ho:o.op= .index t x i){s:ByteArray}{k:IntKind}{m:Nat}{b:UInt8}(ht:P.underlying t=some .string)(ex:E x= .p (.str s))(ei:E i= .p (.int k (m:Int)))(hb:s[m]? =some b):a7 P o E σ n (.p (.int .u8 (b.toNat:Nat))) [] [] :=by
 have hx:x∈o.op.operands.toList:=by rw[ho];simp[cA]
 have hy:i∈o.op.operands.toList:=by rw[ho];simp[cA]
 refine a7.val ?_;intro ρ C V w hE;have h1:=hE x hx;have h2:=hE i hy;rw[ex]at h1;rw[ei]at h2;unfold aR az at h1 h2;refine⟨.int .u8 (b.toNat:Nat),?_,by rfl⟩;unfold execOp;rw[ho];simp[h1,h2,Instr.index,asIntOf,run_underlying ht,hb]
end
noncomputable section
set_option warn.classDefReducibility false
def mkE(P:Program)(n:Nat)(σ:Sg)(t:TypeId)(x y:SV):Option (SV×List Nat×aJ):=match x,y with
 | .int _ (.ofNat m),.int _ (.ofNat m')=>(match ae m' m,bm P t,frs σ n with
   |true,some e,true=>(match P.info? e,oz P e with
    |some i,some (z::zs)=>(match iP (m*ag P e) 1000000,iP (m*i.bytes) 1000000000 with
     |true,true=>some (.ownx n m,[],[(n,some (.arr e (ag P e) (qu m (z::zs))))])
     |_,_=>none)
    |_,_=>none)
   |_,_,_=>none)
 |_,_=>none
def YF{P:Program}{n:Nat}{o:Oper}{E:SE}{σ:Sg}{t:TypeId}{x y:Operand}(ho:o.op= .makeSlice t x y){r:SV}{rd:List Nat}{W:aJ}(h:mkE P n σ t (E x) (E y)=some (r,rd,W)):
  AOp P n o E.a σ.a (λr' R' W'=>r'=r.av/\bI σ rd W R' W')/\r.ok:=by
 unfold mkE at h;split at h
 case h_2=>cases h
 rename_i k1 m k2 m' ex ey;split at h
 case h_2=>cases h
 rename_i e hm he hf;have hm:=bk hm;subst hm;split at h
 case h_2=>cases h
 rename_i i z zs hi hz;split at h
 case h_2=>cases h
 rename_i b1 b2;cases h;obtain⟨f1,f2⟩:=gb hf;obtain⟨z1,z2⟩:=oI hz;refine⟨?_,trivial⟩;unfold AOp;rw[ho];dsimp only;refine .inl ⟨k1,k2,m',e,_,i,?_,?_,he,hi,z1,z2,by simp[avs],jF b1,jF b2,?_,?_⟩
 .unfold SE.a;rw[ex];rfl
 .unfold SE.a;rw[ey];rfl
 .show _=AV.own (aD n) 0 _;rw[f1]
 .rw[<-zw];exact bI.new (ob:= .arr e (ag P e) (qu m' (z::zs))) f2 f1 rfl
def slE(P:Program)(t:TypeId)(x:SV)(lo hi:Option Int):Option SV:=match x,bm P t with
 | .sl m cs,some e=>(match(P.info? e).isSome,ae (ag P e) 0,bJ (avs cs)with
   |true,false,some _=>(match(inferInstance:Decidable (0<=lo.getD 0/\lo.getD 0<=hi.getD m/\hi.getD m<=m))with
    | .isTrue _=>some (.sl ((hi.getD m).toNat-(lo.getD 0).toNat) ((cs.take ((hi.getD m).toNat*ag P e)).drop ((lo.getD 0).toNat*ag P e)))
    | .isFalse _=>none)
   |_,_,_=>none)
 |_,_=>none
def Xx{P:Program}{n:Nat}{o:Oper}{E:SE}{σ:Sg}{t:TypeId}{x:Operand}{lo hi:Option Operand}(ho:o.op= .slice t x lo hi none){a b:Option Int}(ha:lF E lo=some a)(hb:lF E hi=some b){r:SV}(h:slE P t (E x) a b=some r):
  AOp P n o E.a σ.a (λr' R' W'=>r'=r.av/\bI σ [] [] R' W')/\r.ok:=by
 unfold slE at h;split at h
 case h_2=>cases h
 rename_i m cs e ex he;split at h
 case h_2=>cases h
 rename_i q h1 h2 hq;split at h
 case h_2=>cases h
 rename_i hd _;cases h;refine⟨?_,trivial⟩;unfold AOp;rw[ho];dsimp only;have key:∀(z:Option Operand) (c:Option Int) (d:Int),lF E z=some c->loA E.a z d=some (c.getD d):=by
  intro z c d hz;cases z with
  |none=>cases hz;rfl
  |some z=>
   unfold lF at hz;dsimp only at hz;split at hz<;>cases hz;rename_i k hk;exact G9 hk
 have e1:(E x).av= .p (.sl m q):=by rw[ex];simp only[SV.av,hq]
 have e2:qO ((E x).av)=m:=by rw[e1];rfl
 have e0:E.a x=(E x).av:=rfl;rw[e0,key lo a 0 ha,key hi b _ hb,e1];have e3:qO (.p (.sl m q))=(m:Int):=rfl;rw[e3];refine⟨e,_,_,he,h1,fz h2,rfl,rfl,hd.1,hd.2.1,hd.2.2,?_,bI.read σ []⟩;have e4:avs ((cs.take ((b.getD m).toNat*ag P e)).drop ((a.getD 0).toNat*ag P e))=((q.take ((b.getD m).toNat*ag P e)).drop ((a.getD 0).toNat*ag P e)).map .p:=by rw[vg,sM,fJ hq,List.map_drop,rP]
 simp only[SV.av,e4,cQ]
def cpE(P:Program)(σ:Sg)(t:TypeId)(x y:SV):Option (SV×List Nat×aJ):=match x,y with
 | .ownx s m,.sl k cs=>(match σ s,bm P t with
   |some (.arr ty ez ds),some e=>(match P.info? e,ae ez 1,bJ (avs cs)with
    |some i,true,some _=>(match ae i.size 1,ae k cs.length,iP m ds.length with
     |true,true,true=>some (.int .i64 (lO k m:Nat),[s],[(s,some (.arr ty ez (jQ ds 0 (cs.take (lO k m)))))])
     |_,_,_=>none)
    |_,_,_=>none)
   |_,_=>none)
 |_,_=>none
def Ye{P:Program}{n:Nat}{o:Oper}{E:SE}{σ:Sg}{c:Call}{t t':TypeId}{x y:Operand}(ho:o.op= .call c)(hc:c.callee= .builtin .copy)(hargs:c.args= #[x,y])(hat:c.argTypes= #[t,t']){r:SV}{rd:List Nat}{W:aJ}(h:cpE P σ t (E x) (E y)=some (r,rd,W)):
  (∃R' W',a7 P o E.a σ.a n r.av R' W'/\bI σ rd W R' W')/\r.ok:=by
 unfold cpE at h;split at h
 case h_2=>cases h
 rename_i s m k cs ex ey;split at h
 case h_2=>cases h
 rename_i ty ez ds e hs he;split at h
 case h_2=>cases h
 rename_i i q hi h1 hq;split at h
 case h_2=>cases h
 rename_i h2 h3 h4;cases h;have h1:=bk h1;have h2:=bk h2;have h3:=bk h3;have h4:=jF h4;subst h1;have hqq:=fJ hq;have hql:q.length=cs.length:=by have:=congrArg fh hqq;simpa[fW]using this.symm
 have e1:E.a x= .own (aD s) 0 m:=by unfold SE.a;rw[ex];rfl
 have e2:E.a y= .p (.sl k q):=by unfold SE.a;rw[ey];simp only[SV.av,hq]
 have:=V5 (P:=P) (E:=E.a) (σ:=σ.a) (n:=n) ho hc hargs hat (iq he) (by rw[hi];simp[h2]) e1 e2 (by rw[Sg.bW,hs];rfl) rfl (by rw[h3,hql]) (by rw[gX];show m<=(avs ds).length;rw[fW];exact h4);refine⟨⟨_,_,this,?_⟩,trivial⟩;have e3:cn (avs ds) 0 ((q.take (lO k m)).map .p)=avs (jQ ds 0 (cs.take (lO k m))):=by rw[p9,sM,hqq,rP]
 have f:=bI.flat (σ:=σ) (rd:=[s]) (W:=[(s,some (.arr ty 1 (jQ ds 0 (cs.take (lO k m)))))]) λq hq=>by rw[bN.1 hq,hs];exact⟨rfl,rfl⟩
 have e4:aJ.sto [(s,some (.arr ty 1 (jQ ds 0 (cs.take (lO k m)))))] =[(aD s,some ⟨ty,1,cn (avs ds) 0 ((q.take (lO k m)).map .p)⟩)] :=by rw[e3];rfl
 rw[e4]at f;exact f
def shE(op:BinOp)(x y:SV):Option SV:=match x,y with
 | .int k a,.int _ (.ofNat m)=>(match op with
   | .shl=>some (.int k (OU k a m))
   | .shr=>some (.int k (l6 k a m))
   |_=>none)
 |_,_=>none
def Xy{P:Program}{n:Nat}{o:Oper}{E:SE}{σ:Sg}{op:BinOp}{t t':TypeId}{x y:Operand}(ho:o.op= .binOp op t x y t'){r:SV}(h:shE op (E x) (E y)=some r):(∃R' W',a7 P o E.a σ.a n r.av R' W'/\bI σ [] [] R' W')/\r.ok:=by
 unfold shE at h;split at h
 case h_2=>cases h
 rename_i k a k' m ex ey;have e1:E.a x= .p (.int k a):=by unfold SE.a;rw[ex];rfl
 have e2:E.a y= .p (.int k' (m:Int)):=by unfold SE.a;rw[ey];rfl
 split at h<;>cases h
 .exact⟨⟨_,_,EO ho e1 e2 (x4 _) (.inl ⟨rfl,rfl⟩),bI.read σ []⟩,trivial⟩
 .exact⟨⟨_,_,EO ho e1 e2 (x4 _) (.inr ⟨rfl,rfl⟩),bI.read σ []⟩,trivial⟩
def idE(P:Program)(t:TypeId)(x i:SV):Option SV:=match x,i,P.underlying t with
 | .str s,.int _ (.ofNat m),some .string=>(match s[m]? with|some b=>some (.int .u8 (b.toNat:Nat))|none=>none)
 |_,_,_=>none
def YM{P:Program}{n:Nat}{o:Oper}{E:SE}{σ:Sg}{t:TypeId}{x i:Operand}(ho:o.op= .index t x i){r:SV}(h:idE P t (E x) (E i)=some r):(∃R' W',a7 P o E.a σ.a n r.av R' W'/\bI σ [] [] R' W')/\r.ok:=by
 unfold idE at h;split at h
 case h_2=>cases h
 rename_i s k m ex ei ht;split at h<;>cases h;rename_i b hb;exact⟨⟨_,_,XL ho ht (by unfold SE.a;rw[ex];rfl) (by unfold SE.a;rw[ei];rfl) hb,bI.read σ []⟩,trivial⟩
def wY(P:Program):iL:=λn o E σ=>match o with
 | .makeSlice t a b=>mkE P n σ t (E a) (E b)
 | .slice t x lo hi none=>(match lF E lo,lF E hi with
   |some a,some b=>(match slE P t (E x) a b with|some r=>some (r,[],[])|none=>none)
   |_,_=>none)
 | .call {callee:= .builtin .copy,args:=⟨[x,y]⟩,argTypes:=⟨[t,_]⟩}=>cpE P σ t (E x) (E y)
 | .index t x i=>(match idE P t (E x) (E i)with|some r=>some (r,[],[])|none=>none)
 | .binOp op _ x y _=>(match shE op (E x) (E y)with|some r=>some (r,[],[])|none=>none)
 |_=>none
def FV(P:Program):lq P (wY P):=by
 intro n o E σ r rd W hE h;generalize ho:o.op=op at h;have fin:AOp P n o E.a σ.a (λr' R' W'=>r'=r.av/\bI σ rd W R' W')/\r.ok->(∃R' W',a7 P o E.a σ.a n r.av R' W'/\bI σ rd W R' W')/\r.ok:=by rintro⟨h1,h2⟩;obtain⟨r',R',W',h3,rfl,h4⟩:=y4 h1;exact⟨⟨R',W',h3,h4⟩,h2⟩
 unfold wY at h;split at h
 .exact fin (YF ho h)
 .split at h
  .rename_i a b ha hb;split at h<;>cases h;rename_i hr;exact fin (Xx ho ha hb hr)
  .cases h
 .exact Ye ho rfl rfl rfl h
 .split at h<;>cases h;rename_i hr;exact YM ho hr
 .split at h<;>cases h;rename_i hr;exact Xy ho hr
 .cases h
def EC.at{X:Type}(dec:List SV->Option X)(t:X->Bool)(fr:Bool)(r:SV):EC:=⟨⟨Unit,λxs=>match dec xs with
 |some x=>(match t x with|true=>some ()|false=>none)
 |none=>none,λ_=>[],.val fr λ_=>r⟩,λ_=>inferInstanceAs (Chk [])⟩
def wm{P:Program}{f:Nat}{X:Type}{dec:List SV->Option X}{pre:X->List Prop}{fr:Bool}{res:X->SV}(h:Con.Ok P f ⟨X,dec,pre,.val fr res⟩){t:X->Bool}{x0:X}{r:SV}(ht:∀x,t x=true->x=x0)(hp:∀p∈pre x0,p)(hr:(res x0).av=r.av):(EC.at dec t fr r).c.Ok P f:=by
 intro xs u hd _;change (match dec xs with|some x=>(match t x with|true=>some ()|false=>none)|none=>none)=some u at hd;split at hd
 .rename_i x hx;split at hd
  .rename_i h1;have:=ht x h1;subst this;obtain⟨A,q,h1,h2,h3⟩:=h xs x hx hp;exact⟨A,q,h1,by rw[<-hr];exact h2,h3⟩
  .cases hd
 .cases hd
def X3{X:Cx}(hX:X.Ok){T:d9}(hT:T.t.Ok X.P){M:iL}(hM:lq X.P M){lf f:Nat}{α:Type}{A:Arl α}(x0:α){t:α->Bool}{v:SV}(ht:∀x,t x=true->x=x0)(hv:isP v=true)(h:tq X T M lf f (A.enc x0)=some v):(EC.at A.dec t false v).c.Ok X.P f:=by
 intro xs u hd _;change (match A.dec xs with|some x=>(match t x with|true=>some ()|false=>none)|none=>none)=some u at hd;split at hd
 .rename_i x hx;split at hd
  .rename_i h1;have:=ht x h1;subst this;obtain⟨B,hB⟩:=A.pl x;obtain⟨q,h2,h3⟩:=FH hX hT hM hB h (by
    unfold isP at hv;split at hv
    .rename_i q hq;exact⟨q,hq⟩
    .cases hv)
   exact⟨B,q,by rw[A.ok xs x hx,hB],h2,h3⟩
  .cases hd
 .cases hd
def tZ{X:Type}:List ((X->Bool)×SV)->X->Option SV
 |[],_=>none
 |(t,v)::l,x=>match t x with|true=>some v|false=>tZ l x
def EC.pts{X:Type}(dec:List SV->Option X)(l:List ((X->Bool)×SV)):EC:=⟨⟨SV,λxs=>match dec xs with
 |some x=>tZ l x
 |none=>none,λ_=>[],.val false λv=>v⟩,λ_=>inferInstanceAs (Chk [])⟩
def X5{P:Program}{f:Nat}{X:Type}{dec:List SV->Option X}:∀{l:List ((X->Bool)×SV)},(∀q∈l,(EC.at dec q.1 false q.2).c.Ok P f)->(EC.pts dec l).c.Ok P f:=by
 intro l hl xs v hd _;change (match dec xs with|some x=>tZ l x|none=>none)=some v at hd;split at hd
 .rename_i x hx;have key:∀l:List ((X->Bool)×SV),tZ l x=some v->∃q∈l,q.1 x=true/\q.2=v:=by
   intro l;induction l with
   |nil=>intro h;cases h
   |cons q l ih=>
    obtain⟨t,u⟩:=q;intro h;unfold tZ at h;split at h
    .rename_i h1;cases h;exact⟨_,eD,h1,rfl⟩
    .obtain⟨q,h1,h2⟩:=ih h;exact⟨q,dT _ h1,h2⟩
  obtain⟨q,h1,h2,rfl⟩:=key l hd;exact hl q h1 xs () (by show(match dec xs with|some x=>(match q.1 x with|true=>some ()|false=>none)|none=>none)=some ();rw[hx];dsimp only;rw[h2]) (λp hp=>(dM hp).elim)
 .cases hd
def wR:List (Nat×EC)->d9
 |[],_=>none
 |(g,c)::l,f=>match ae f g with|true=>some c|false=>wR l f
def E4{P:Program}:∀{l:List (Nat×EC)},(∀q∈l,q.2.c.Ok P q.1)->(wR l).t.Ok P
 |[],_=>λf c h=>by cases h
 |(g,e)::l,hl=>by
  intro f c h;unfold d9.t wR at h;split at h
  .rename_i e' he;cases h;split at he
   .rename_i hb;cases he;rw[bk hb];exact hl _ eD
   .exact E4 (l:=l) (λq hq=>hl q (dT _ hq)) f _ (by unfold d9.t;rw[he])
  .cases h
end
noncomputable def aBN:Con:=CQ (ac (aL .S) (a1 (aF 42))) (λ(l,_)=>[l.length<=1000000]) (λ(l,_)=> .bool (l.any gC)) (ac (aL .S) (a1 CT)) (λ(l,_)=>[l.length<=1000000]) (λ(l,_)=> .bool (l.any ff))
noncomputable def M7:Tab:=ao [(41,aBN)] Mc
def BM:M7.Ok aG:=ap Yx ⟨Hf Og Of,trivial⟩
noncomputable def a54(p:Pl)(b:Nat):List SV->aJ->List (Nat×Ann):=λ_ _=>
 [lp 7 44 (cyP p aC).length (λ_=>[]) [] (λ_=>[]) (λk=>[(b+23,.row 3 .I (ph1 p k).1),(b+32,.row 3 .I (ph1 p k).2.1),(b+17,.fam 49 43 .Q (ph1 p k).2.2 []),(19,.box 29 [.lst .S p.sg,.lst .T p.vs,.own 902 .E p.es.length,.owF (b+17) (ph1 p k).2.2.length])]) λk=>
   [lp 11 54 (aO (cyP p aC) k).length (λ_=>[]) [] (λ_=>[]) (λj=>[(b+32,.row 3 .I (ofC k (ph1 p k).2.1 (aO (cyP p aC) k) j))]),
    jU 16 [(69,.bool (!inP p (aO (cyP p aC) k) (lvP p aC)))],
    (10017,.mk Unit (λ_ _=>some ()) [] (λ_=>[]) (λ_=>[]) (λ_=>[(b+23,.row 3 .I (((ph1 p k).1.set k (-1)).set k ((ph1 p k).2.2.length:Int)))]) (λ_=>0) (λ_=>[]))],
  lp 22 94 (cyP p aC).length (λ_=>[]) [] (λ_=>[]) (λk=>[(b+23,.row 3 .I (ph2 p k).1),(b+17,.fam 49 43 .Q (ph2 p k).2 [])]) λk=>
   [jb 25 14 (ouP (ph2 p k).1 (ph2 p k).2 (aO (cyP p aC) k) k)],
  lp 30 169 p.es.length (λ_=>[]) [] (λ_=>[]) (λe=>[(902,.row 45 .E (ph3 p (ph1 p (cyP p aC).length).2.1 (ph2 p (cyP p aC).length).1 e))])]
noncomputable def uF(p:Pl)(b:Nat):List SV->aJ->List (Nat×Ann):=λxs L=>match xs with
 | .int _ (.ofNat k)::_=>(match L.at (b+23)with
   |some (.row _ .I fa)=>[(10006,.mk Unit (λ_ _=>some ()) [] (λ_=>[]) (λ_=>[]) (λ_=>[(b+23,.row 3 .I (fdP p (ph1 p (cyP p aC).length).2.1 fa (aO (cyP p aC) k) k))]) (λ_=>0) (λ_=>[]))]
   |_=>[])
 |_=>[]
noncomputable def wE(m:Nat):Frm->aJ->Option (MF×List Ed):=λ_ L=>match L.at m,L.at 19 with
 |some (.it _ M),some (.box _ [_,_,.own s _ _,_])=>(match L.at s with|some (.row _ .E es)=>some (M,es)|_=>none)
 |some (.it _ M),some (.box _ [_,_,.nil,_])=>some (M,[])
 |_,_=>none
noncomputable def P7:Con:=con (a1 (aL .S)) (λl=>[l.length<=1000,(fF l=0->BdOk l)]) (λl=> .tup [.agg [.lst .S (bf l).sg,.lst .T (bf l).vs,.lst .E (bf l).es,.lst .F (bf l).fs],.int .i64 (fF l)])
def Oh:P7.Ok aG 13:=Xa (tO BM) (D:=λl=>CC (cxI M7) QV (a54 (aA l) 921) (uF (aA l) 921)) (λ_=>XK (tO BM) rfl) (YQ (tO BM) rfl) (raw:=aq) (λl=>[lp 11 37 l.length (λ_=>[]) [901,902] (λk=>[(6,.own 901 .U k)]) (λk=>[(901,.row 25 .U (onP l k)),(19,.box 29 [.lst .S l,.own 902 .T (vsK l k).length,.nil,.nil]),(902,.row 60 .T (vsK l k))]),
  (10018,.mk Unit (λ_ _=>some ()) [902] (λ_=>[]) (λ_=>[]) (λ_=>[(19,.box 29 [.lst .S l,.lst .T (vsP l),.own 902 .E 0,.nil]),(902,.row 45 .E [])]) (λ_=>0) (λ_=>[])),
  lp 20 65 l.length (λ_=>[]) [] (λ_=>[]) (λk=>[(907,.mf (cT l k))]) λk=>
  [jU 22 [(9,.int .i64 (k:Int)),(10,.lst .T (bB l k))],lp 24 72 (bB l k).length (λ_=>[]) [] (λj=>[(11,.int .i64 (fe (vsP l) (bB l k) j))]) (λj=>[(907,.mf (dE (vsP l) (bB l k) k (cT l k) j))]) λj=>
  [(10029,.mk Unit (λ_ _=>some ()) [] (λ_=>[]) (λ_=>[]) (λ_=>[(907,.mf (dE (vsP l) (bB l k) k (cT l k) (j+1)))]) (λ_=>0) (λ_=>[]))]],
  (33,.mk (MF×List Ed) (wE 907) [902] (λy=>[(y.2++edM y.1).Perm (edM (cT l l.length))]) (λ_=>[]) (λy=>[(907,.it none y.1),(19,.box 29 [.lst .S l,.lst .T (vsP l),.own 902 .E y.2.length,.nil]),(902,.row 45 .E y.2)]) (λy=>y.1.length) λ_=>[]),
  (10037,.mk Unit (λ_ _=>some ()) [] (λ_=>[]) (λ_=>[]) (λ_=>[(19,.box 29 [.lst .S l,.lst .T (vsP l),.own 902 .E (esP l).length,.nil]),(902,.row 45 .E (esP l))]) (λ_=>0) (λ_=>[]))]) (λ_=>⟨_,rfl⟩) λl hp=>au (q:=l.length<=1000000/\(io l gC=true->(bf l).sg=([] :List aBZ)/\(bf l).vs=([] :List Pt)/\(bf l).es=([] :List Ed)/\(bf l).fs=([] :List (List (List Int)))/\1=fF l)/\
 (io l gC=false->l.length<=1000000/\(io l ff=true->(bf l).sg=([] :List aBZ)/\(bf l).vs=([] :List Pt)/\(bf l).es=([] :List Ed)/\(bf l).fs=([] :List (List (List Int)))/\2=fF l)/\
  (io l ff=false->(200<(l.length:Int)->(bf l).sg=([] :List aBZ)/\(bf l).vs=([] :List Pt)/\(bf l).es=([] :List Ed)/\(bf l).fs=([] :List (List (List Int)))/\9=fF l)/\
   (¬200<(l.length:Int)->l.length<=1000000/\(0=(0:Int)/\(0:Nat)=0/\onP l 0=([] :List (List Pt))/\l=l/\(vsK l 0).length=0/\vsK l 0=([] :List Pt)/\(0:Nat)<=l.length)/\
    (∀x:Nat,x<=l.length->((x:Int)<l.length->l.length<=1000/\x<l.length/\(∀p:Pt,p∈aa l x l.length->POk p)/\x=(onP l x).length/\(onP l x).length+[bB l x].length<=1000000/\ix (x:Int) (onP l x++[bB l x]).length/\x<(onP l x++[bB l x]).length/\(vsK l x).length=(vsK l x).length/\(vsK l x).length+(pF (onP l x++[bB l x]) x).length<=1000000/\aH ((x:Int)+1)/\(x:Int)+1=((x+1:Nat):Int)/\(onP l x++[bB l x]).length=x+1/\onP l x++[bB l x] =onP l (x+1)/\l=l/\(vsK l x++pF (onP l x++[bB l x]) x).length=(vsK l (x+1)).length/\vsK l x++pF (onP l x++[bB l x]) x=vsK l (x+1)/\x+1<=l.length/\l.length-(x+1)<l.length-x)/\
     (¬(x:Int)<l.length->(vsK l x).length=(vsK l x).length/\(vsK l x).length<=1000000/\(∀p:Pt,p∈vsK l x->POk p)/\((((vsK l x).length:Int)<2->(vsK l x).length=(aY (ltC aW) (vsK l x)).length/\l=l/\aY (ltC aW) (vsK l x)=vsP l/\(0:Nat)=0/\([] :List Ed)=([] :List Ed))/\
       (¬((vsK l x).length:Int)<2->(1=(1:Int)/\(1:Nat)<=(vsK l x).length/\(1:Nat)<=1/\cmD (aY (ltC aW) (vsK l x)) 1)/\
        (∀x_1:Nat,x_1<=(vsK l x).length/\(1:Nat)<=x_1/\cmD (aY (ltC aW) (vsK l x)) x_1->((x_1:Int)<(vsK l x).length->ix (x_1:Int) (vsK l x).length/\x_1<(aY (ltC aW) (vsK l x)).length/\aH ((x_1:Int)-1)/\ix ((x_1:Int)-1) (vsK l x).length/\((x_1:Int)-1).toNat<(aY (ltC aW) (vsK l x)).length/\([(aP (aY (ltC aW) (vsK l x)) x_1).x,(aP (aY (ltC aW) (vsK l x)) x_1).y,(aP (aY (ltC aW) (vsK l x)) x_1).den] =[(aP (aY (ltC aW) (vsK l x)) ((x_1:Int)-1).toNat).x,(aP (aY (ltC aW) (vsK l x)) ((x_1:Int)-1).toNat).y,(aP (aY (ltC aW) (vsK l x)) ((x_1:Int)-1).toNat).den]->(0<=(x_1:Int)/\(x_1:Int)<=(vsK l x).length)/\(1=(1:Int)/\(x_1:Int)=((x_1+(cmW (aY (ltC aW) (vsK l x)) x_1 1).length:Nat):Int)/\aY (ltC aW) (vsK l x)=cmR (aY (ltC aW) (vsK l x)) x_1 1/\(1:Nat)<=1/\(1:Nat)<=(vsK l x).length-x_1)/\
           (∀x_2:Nat,(1:Nat)<=x_2/\x_2<=(vsK l x).length-x_1->((x_2:Int)<(((vsK l x).length-x_1:Nat):Int)->ix (x_2:Int) ((vsK l x).length-x_1)/\x_1+x_2<(cmR (aY (ltC aW) (vsK l x)) x_1 x_2).length/\aH ((x_2:Int)-1)/\ix ((x_2:Int)-1) ((vsK l x).length-x_1)/\x_1+((x_2:Int)-1).toNat<(cmR (aY (ltC aW) (vsK l x)) x_1 x_2).length/\(¬[(aP (cmR (aY (ltC aW) (vsK l x)) x_1 x_2) (x_1+x_2)).x,(aP (cmR (aY (ltC aW) (vsK l x)) x_1 x_2) (x_1+x_2)).y,(aP (cmR (aY (ltC aW) (vsK l x)) x_1 x_2) (x_1+x_2)).den] =[(aP (cmR (aY (ltC aW) (vsK l x)) x_1 x_2) (x_1+((x_2:Int)-1).toNat)).x,(aP (cmR (aY (ltC aW) (vsK l x)) x_1 x_2) (x_1+((x_2:Int)-1).toNat)).y,(aP (cmR (aY (ltC aW) (vsK l x)) x_1 x_2) (x_1+((x_2:Int)-1).toNat)).den]->ix (x_2:Int) ((vsK l x).length-x_1)/\x_1+x_2<(cmR (aY (ltC aW) (vsK l x)) x_1 x_2).length/\ix ((x_1+(cmW (aY (ltC aW) (vsK l x)) x_1 x_2).length:Nat):Int) (vsK l x).length/\x_1+(cmW (aY (ltC aW) (vsK l x)) x_1 x_2).length<(cmR (aY (ltC aW) (vsK l x)) x_1 x_2).length/\aH (((x_1+(cmW (aY (ltC aW) (vsK l x)) x_1 x_2).length:Nat):Int)+1)/\aH ((x_2:Int)+1)/\(x_2:Int)+1=((x_2+1:Nat):Int)/\((x_1+(cmW (aY (ltC aW) (vsK l x)) x_1 x_2).length:Nat):Int)+1=((x_1+(cmW (aY (ltC aW) (vsK l x)) x_1 (x_2+1)).length:Nat):Int)/\cd (cmR (aY (ltC aW) (vsK l x)) x_1 x_2) (x_1+(cmW (aY (ltC aW) (vsK l x)) x_1 x_2).length) (aP (cmR (aY (ltC aW) (vsK l x)) x_1 x_2) (x_1+x_2))=cmR (aY (ltC aW) (vsK l x)) x_1 (x_2+1)/\(1:Nat)<=x_2+1/\x_2+1<=(vsK l x).length-x_1/\(vsK l x).length-(x_2+1)<(vsK l x).length-x_2)/\
             (¬(¬[(aP (cmR (aY (ltC aW) (vsK l x)) x_1 x_2) (x_1+x_2)).x,(aP (cmR (aY (ltC aW) (vsK l x)) x_1 x_2) (x_1+x_2)).y,(aP (cmR (aY (ltC aW) (vsK l x)) x_1 x_2) (x_1+x_2)).den] =[(aP (cmR (aY (ltC aW) (vsK l x)) x_1 x_2) (x_1+((x_2:Int)-1).toNat)).x,(aP (cmR (aY (ltC aW) (vsK l x)) x_1 x_2) (x_1+((x_2:Int)-1).toNat)).y,(aP (cmR (aY (ltC aW) (vsK l x)) x_1 x_2) (x_1+((x_2:Int)-1).toNat)).den])->aH ((x_2:Int)+1)/\(x_2:Int)+1=((x_2+1:Nat):Int)/\((x_1+(cmW (aY (ltC aW) (vsK l x)) x_1 x_2).length:Nat):Int)=((x_1+(cmW (aY (ltC aW) (vsK l x)) x_1 (x_2+1)).length:Nat):Int)/\cmR (aY (ltC aW) (vsK l x)) x_1 x_2=cmR (aY (ltC aW) (vsK l x)) x_1 (x_2+1)/\(1:Nat)<=x_2+1/\x_2+1<=(vsK l x).length-x_1/\(vsK l x).length-(x_2+1)<(vsK l x).length-x_2))/\
            (¬(x_2:Int)<(((vsK l x).length-x_1:Nat):Int)->(0<=((x_1+(cmW (aY (ltC aW) (vsK l x)) x_1 x_2).length:Nat):Int)/\((x_1+(cmW (aY (ltC aW) (vsK l x)) x_1 x_2).length:Nat):Int)<=(vsK l x).length)/\x_1+(cmW (aY (ltC aW) (vsK l x)) x_1 x_2).length+((vsK l x).length-(x_1+(cmW (aY (ltC aW) (vsK l x)) x_1 x_2).length))<=(cmR (aY (ltC aW) (vsK l x)) x_1 x_2).length/\(0<=((x_1+(cmW (aY (ltC aW) (vsK l x)) x_1 x_2).length:Nat):Int)/\((x_1+(cmW (aY (ltC aW) (vsK l x)) x_1 x_2).length:Nat):Int)<=(vsK l x).length)/\x_1+(cmW (aY (ltC aW) (vsK l x)) x_1 x_2).length<=(bL (x_1+(cmW (aY (ltC aW) (vsK l x)) x_1 x_2).length) (cmR (aY (ltC aW) (vsK l x)) x_1 x_2)++bS ((vsK l x).length-(x_1+(cmW (aY (ltC aW) (vsK l x)) x_1 x_2).length)) (⟨0,0,0⟩:Pt)++cP (x_1+(cmW (aY (ltC aW) (vsK l x)) x_1 x_2).length+((vsK l x).length-(x_1+(cmW (aY (ltC aW) (vsK l x)) x_1 x_2).length))) (cmR (aY (ltC aW) (vsK l x)) x_1 x_2)).length/\l=l/\bL (x_1+(cmW (aY (ltC aW) (vsK l x)) x_1 x_2).length) (bL (x_1+(cmW (aY (ltC aW) (vsK l x)) x_1 x_2).length) (cmR (aY (ltC aW) (vsK l x)) x_1 x_2)++bS ((vsK l x).length-(x_1+(cmW (aY (ltC aW) (vsK l x)) x_1 x_2).length)) (⟨0,0,0⟩:Pt)++cP (x_1+(cmW (aY (ltC aW) (vsK l x)) x_1 x_2).length+((vsK l x).length-(x_1+(cmW (aY (ltC aW) (vsK l x)) x_1 x_2).length))) (cmR (aY (ltC aW) (vsK l x)) x_1 x_2))=vsP l/\(0:Nat)=0/\([] :List Ed)=([] :List Ed))))/\
          (¬[(aP (aY (ltC aW) (vsK l x)) x_1).x,(aP (aY (ltC aW) (vsK l x)) x_1).y,(aP (aY (ltC aW) (vsK l x)) x_1).den] =[(aP (aY (ltC aW) (vsK l x)) ((x_1:Int)-1).toNat).x,(aP (aY (ltC aW) (vsK l x)) ((x_1:Int)-1).toNat).y,(aP (aY (ltC aW) (vsK l x)) ((x_1:Int)-1).toNat).den]->aH ((x_1:Int)+1)/\(x_1:Int)+1=((x_1+1:Nat):Int)/\x_1+1<=(vsK l x).length/\(1:Nat)<=x_1+1/\cmD (aY (ltC aW) (vsK l x)) (x_1+1)/\(vsK l x).length-(x_1+1)<(vsK l x).length-x_1))/\
         (¬(x_1:Int)<(vsK l x).length->(vsK l x).length=(aY (ltC aW) (vsK l x)).length/\l=l/\aY (ltC aW) (vsK l x)=vsP l/\(0:Nat)=0/\([] :List Ed)=([] :List Ed)))))/\
      (∀y:Unit,(0=(0:Int)/\([] :List (Prod (Prod Nat Nat) (List Int)))=cT l 0/\(0:Nat)<=l.length)/\
       (∀x_1:Nat,x_1<=l.length->((x_1:Int)<x->(ix (x_1:Int) x/\x_1<(onP l x).length/\(x_1:Int)=x_1/\pF (onP l x) x_1=bB l x_1)/\
         (∀y_1:Unit,(0=(0:Int)/\ -1=fe (vsP l) (bB l x_1) 0/\cT l x_1=dE (vsP l) (bB l x_1) (x_1:Int) (cT l x_1) 0/\(0:Nat)<=(bB l x_1).length)/\
          (∀x_2:Nat,x_2<=(bB l x_1).length->((x_2:Int)<(bB l x_1).length->ix (x_2:Int) (bB l x_1).length/\(vsP l).length<=1000000/\POk (aP (bB l x_1) x_2)/\(∀v:Pt,v∈vsP l->POk v)/\((0<=fe (vsP l) (bB l x_1) x_2->(0<=fe (vsP l) (bB l x_1) x_2/\0<=(ptX (aP (bB l x_1) x_2) (vsP l):Int))/\rT (xu (λx_3=>x_3.1) (dE (vsP l) (bB l x_1) (x_1:Int) (cT l x_1) x_2))/\(∀a:Nat,∀q:Prod (Prod Nat Nat) (List Int),GetElem?.getElem? (dE (vsP l) (bB l x_1) (x_1:Int) (cT l x_1) x_2) a=Option.some q/\q.1=((fe (vsP l) (bB l x_1) x_2).toNat,ptX (aP (bB l x_1) x_2) (vsP l))->(0<=(fe (vsP l) (bB l x_1) x_2)/\0<=(ptX (aP (bB l x_1) x_2) (vsP l):Int))/\(q.2.length+1)=q.2.length+1/\a<(dE (vsP l) (bB l x_1) (x_1:Int) (cT l x_1) x_2).length/\(cW (dE (vsP l) (bB l x_1) (x_1:Int) (cT l x_1) x_2) a ((0,0),([] :List Int))).1=((fe (vsP l) (bB l x_1) x_2).toNat,ptX (aP (bB l x_1) x_2) (vsP l))/\q.2.length=(cW (dE (vsP l) (bB l x_1) (x_1:Int) (cT l x_1) x_2) a ((0,0),([] :List Int))).2.length/\q.2.length+1<=1000000/\rT (xu (λx_3=>x_3.1) (dE (vsP l) (bB l x_1) (x_1:Int) (cT l x_1) x_2))/\eK (dE (vsP l) (bB l x_1) (x_1:Int) (cT l x_1) x_2) ((fe (vsP l) (bB l x_1) x_2).toNat,ptX (aP (bB l x_1) x_2) (vsP l)) (x_1:Int)=dE (vsP l) (bB l x_1) (x_1:Int) (cT l x_1) (x_2+1))/\
              ((∀q:Prod (Prod Nat Nat) (List Int),q∈dE (vsP l) (bB l x_1) (x_1:Int) (cT l x_1) x_2->q.1≠((fe (vsP l) (bB l x_1) x_2).toNat,ptX (aP (bB l x_1) x_2) (vsP l)))->(0<=(fe (vsP l) (bB l x_1) x_2)/\0<=(ptX (aP (bB l x_1) x_2) (vsP l):Int))/\1=1/\(∀q:Prod (Prod Nat Nat) (List Int),q∈(dE (vsP l) (bB l x_1) (x_1:Int) (cT l x_1) x_2)->q.1≠((fe (vsP l) (bB l x_1) x_2).toNat,ptX (aP (bB l x_1) x_2) (vsP l)))/\rT (xu (λx_3=>x_3.1) (dE (vsP l) (bB l x_1) (x_1:Int) (cT l x_1) x_2))/\eK (dE (vsP l) (bB l x_1) (x_1:Int) (cT l x_1) x_2) ((fe (vsP l) (bB l x_1) x_2).toNat,ptX (aP (bB l x_1) x_2) (vsP l)) (x_1:Int)=dE (vsP l) (bB l x_1) (x_1:Int) (cT l x_1) (x_2+1)))/\
             (¬0<=fe (vsP l) (bB l x_1) x_2->dE (vsP l) (bB l x_1) (x_1:Int) (cT l x_1) x_2=dE (vsP l) (bB l x_1) (x_1:Int) (cT l x_1) (x_2+1)))/\
            (∀y_2:Unit,aH ((x_2:Int)+1)/\(x_2:Int)+1=((x_2+1:Nat):Int)/\(ptX (aP (bB l x_1) x_2) (vsP l):Int)=fe (vsP l) (bB l x_1) (x_2+1)/\dE (vsP l) (bB l x_1) (x_1:Int) (cT l x_1) (x_2+1)=dE (vsP l) (bB l x_1) (x_1:Int) (cT l x_1) (x_2+1)/\x_2+1<=(bB l x_1).length/\(bB l x_1).length-(x_2+1)<(bB l x_1).length-x_2))/\
           (¬(x_2:Int)<(bB l x_1).length->aH ((x_1:Int)+1)/\(x_1:Int)+1=((x_1+1:Nat):Int)/\dE (vsP l) (bB l x_1) (x_1:Int) (cT l x_1) x_2=cT l (x_1+1)/\x_1+1<=l.length/\l.length-(x_1+1)<l.length-x_1))))/\
        (¬(x_1:Int)<x->(cT l x_1=cT l x_1/\l=l/\vsP l=vsP l/\(0:Nat)=([] :List Ed).length/\([] :List Ed)=([] :List Ed)/\List.Perm (([] :List Ed)++edM (cT l x_1)) (edM (cT l l.length)))/\
         (∀x_2:Prod MF (List Ed),List.Perm (x_2.2++edM x_2.1) (edM (cT l l.length))->(x_2.1=([] :List (Prod (Prod Nat Nat) (List Int)))->(x_2.2.length=x_2.2.length/\x_2.2.length<=1000000/\EdK x_2.2/\l=l/\vsP l=vsP l/\x_2.2.length=(esP l).length/\aY (ltC gk) x_2.2=esP l)/\
           (∀y_1:Unit,(esP l).length=(esP l).length/\PlOk (⟨l,vsP l,esP l,([] :List (List (List Int)))⟩:Pl)/\LvO (⟨l,vsP l,esP l,([] :List (List (List Int)))⟩:Pl) aC/\(esP l).length=(esP l).length/\PlOk (⟨l,vsP l,esP l,([] :List (List (List Int)))⟩:Pl)/\LvO (⟨l,vsP l,esP l,([] :List (List (List Int)))⟩:Pl) aC/\0<=((cyP (⟨l,vsP l,esP l,([] :List (List (List Int)))⟩:Pl) aC).length:Int)/\((cyP (⟨l,vsP l,esP l,([] :List (List (List Int)))⟩:Pl) aC).length:Int)=(cyP (⟨l,vsP l,esP l,([] :List (List (List Int)))⟩:Pl) aC).length/\((cyP (⟨l,vsP l,esP l,([] :List (List (List Int)))⟩:Pl) aC).length:Int)<=1000000/\(cyP (⟨l,vsP l,esP l,([] :List (List (List Int)))⟩:Pl) aC).length*8<=1000000000/\aH (2*((esP l).length:Int))/\0<=2*((esP l).length:Int)/\2*((esP l).length:Int)=2*(esP l).length/\2*((esP l).length:Int)<=1000000/\2*(esP l).length*8<=1000000000/\(0=(0:Int)/\bS (cyP (⟨l,vsP l,esP l,([] :List (List (List Int)))⟩:Pl) aC).length (0:Int)=bS (cyP (aA l) aC).length 0/\bS (2*(esP l).length) (0:Int)=bS (2*(aA l).es.length) 0/\[([] :List (List Int))] =[([] :List (List Int))]/\l=(aA l).sg/\vsP l=(aA l).vs/\(esP l).length=(aA l).es.length/\(1:Nat)=[([] :List (List Int))].length/\(0:Nat)<=(cyP (aA l) aC).length)/\
            (∀x_3:Nat,x_3<=(cyP (aA l) aC).length->((x_3:Int)<(cyP (⟨l,vsP l,esP l,([] :List (List (List Int)))⟩:Pl) aC).length->ix (x_3:Int) (cyP (⟨l,vsP l,esP l,([] :List (List (List Int)))⟩:Pl) aC).length/\ix (x_3:Int) (cyP (⟨l,vsP l,esP l,([] :List (List (List Int)))⟩:Pl) aC).length/\x_3<(ph1 (aA l) x_3).1.length/\(0=(0:Int)/\(ph1 (aA l) x_3).2.1=ofC (x_3:Int) (ph1 (aA l) x_3).2.1 (aO (cyP (aA l) aC) x_3) 0/\(0:Nat)<=(aO (cyP (aA l) aC) x_3).length)/\
              (∀x_4:Nat,x_4<=(aO (cyP (aA l) aC) x_3).length->((x_4:Int)<(aO (cyP (⟨l,vsP l,esP l,([] :List (List (List Int)))⟩:Pl) aC) x_3).length->ix (x_4:Int) (aO (cyP (⟨l,vsP l,esP l,([] :List (List (List Int)))⟩:Pl) aC) x_3).length/\ix (aM (aO (cyP (⟨l,vsP l,esP l,([] :List (List (List Int)))⟩:Pl) aC) x_3) x_4) (2*(esP l).length)/\(aM (aO (cyP (⟨l,vsP l,esP l,([] :List (List (List Int)))⟩:Pl) aC) x_3) x_4).toNat<(ofC (x_3:Int) (ph1 (aA l) x_3).2.1 (aO (cyP (aA l) aC) x_3) x_4).length/\aH ((x_4:Int)+1)/\(x_4:Int)+1=((x_4+1:Nat):Int)/\cd (ofC (x_3:Int) (ph1 (aA l) x_3).2.1 (aO (cyP (aA l) aC) x_3) x_4) (aM (aO (cyP (⟨l,vsP l,esP l,([] :List (List (List Int)))⟩:Pl) aC) x_3) x_4).toNat (x_3:Int)=ofC (x_3:Int) (ph1 (aA l) x_3).2.1 (aO (cyP (aA l) aC) x_3) (x_4+1)/\x_4+1<=(aO (cyP (aA l) aC) x_3).length/\(aO (cyP (aA l) aC) x_3).length-(x_4+1)<(aO (cyP (aA l) aC) x_3).length-x_4)/\
               (¬(x_4:Int)<(aO (cyP (⟨l,vsP l,esP l,([] :List (List (List Int)))⟩:Pl) aC) x_3).length->((aA l).es.length=(esP l).length/\(ph1 (aA l) x_3).2.2.length=(ph1 (aA l) x_3).2.2.length/\PlOk (⟨(aA l).sg,(aA l).vs,esP l,(ph1 (aA l) x_3).2.2⟩:Pl)/\LvIn (⟨(aA l).sg,(aA l).vs,esP l,(ph1 (aA l) x_3).2.2⟩:Pl) (lvP (⟨l,vsP l,esP l,([] :List (List (List Int)))⟩:Pl) aC)/\(0:Nat)<(aO (cyP (⟨l,vsP l,esP l,([] :List (List (List Int)))⟩:Pl) aC) x_3).length/\(aO (cyP (⟨l,vsP l,esP l,([] :List (List (List Int)))⟩:Pl) aC) x_3).length<=1000000/\(∀h:Int,h∈aO (cyP (⟨l,vsP l,esP l,([] :List (List (List Int)))⟩:Pl) aC) x_3->HIn (⟨(aA l).sg,(aA l).vs,esP l,(ph1 (aA l) x_3).2.2⟩:Pl) h)/\(0:Nat)<(aO (lvP (⟨l,vsP l,esP l,([] :List (List (List Int)))⟩:Pl) aC) (b9 (⟨(aA l).sg,(aA l).vs,esP l,(ph1 (aA l) x_3).2.2⟩:Pl) (aO (cyP (⟨l,vsP l,esP l,([] :List (List (List Int)))⟩:Pl) aC) x_3)).toNat).length/\(!inP (⟨(aA l).sg,(aA l).vs,esP l,(ph1 (aA l) x_3).2.2⟩:Pl) (aO (cyP (⟨l,vsP l,esP l,([] :List (List (List Int)))⟩:Pl) aC) x_3) (lvP (⟨l,vsP l,esP l,([] :List (List (List Int)))⟩:Pl) aC))=(!inP (aA l) (aO (cyP (aA l) aC) x_3) (lvP (aA l) aC)))/\
                (∀y_2:Unit,((!inP (aA l) (aO (cyP (aA l) aC) x_3) (lvP (aA l) aC))=true->(ix (x_3:Int) (cyP (⟨l,vsP l,esP l,([] :List (List (List Int)))⟩:Pl) aC).length/\x_3<(cd (ph1 (aA l) x_3).1 x_3 (-1)).length/\cd (cd (ph1 (aA l) x_3).1 x_3 (-1)) x_3 ((ph1 (aA l) x_3).2.2.length:Int)=cd (cd (ph1 (aA l) x_3).1 x_3 (-1)) x_3 ((ph1 (aA l) x_3).2.2.length:Int))/\
                  (∀y_3:Unit,((ph1 (aA l) x_3).2.2.length)=((ph1 (aA l) x_3).2.2).length/\((ph1 (aA l) x_3).2.2.length)+1<=1000000/\aH ((x_3:Int)+1)/\(x_3:Int)+1=((x_3+1:Nat):Int)/\cd (cd (ph1 (aA l) x_3).1 x_3 (-1)) x_3 ((ph1 (aA l) x_3).2.2.length:Int)=(ph1 (aA l) (x_3+1)).1/\ofC (x_3:Int) (ph1 (aA l) x_3).2.1 (aO (cyP (aA l) aC) x_3) x_4=(ph1 (aA l) (x_3+1)).2.1/\((ph1 (aA l) x_3).2.2)++[[aO (cyP (⟨l,vsP l,esP l,([] :List (List (List Int)))⟩:Pl) aC) x_3]] =(ph1 (aA l) (x_3+1)).2.2/\(aA l).sg=(aA l).sg/\(aA l).vs=(aA l).vs/\(aA l).es.length=(aA l).es.length/\((ph1 (aA l) x_3).2.2.length+1)=(ph1 (aA l) (x_3+1)).2.2.length/\x_3+1<=(cyP (aA l) aC).length/\(cyP (aA l) aC).length-(x_3+1)<(cyP (aA l) aC).length-x_3))/\
                 ((!inP (aA l) (aO (cyP (aA l) aC) x_3) (lvP (aA l) aC))=false->aH ((x_3:Int)+1)/\(x_3:Int)+1=((x_3+1:Nat):Int)/\cd (ph1 (aA l) x_3).1 x_3 (-1)=(ph1 (aA l) (x_3+1)).1/\ofC (x_3:Int) (ph1 (aA l) x_3).2.1 (aO (cyP (aA l) aC) x_3) x_4=(ph1 (aA l) (x_3+1)).2.1/\(ph1 (aA l) x_3).2.2=(ph1 (aA l) (x_3+1)).2.2/\(aA l).sg=(aA l).sg/\(aA l).vs=(aA l).vs/\(aA l).es.length=(aA l).es.length/\(ph1 (aA l) x_3).2.2.length=(ph1 (aA l) (x_3+1)).2.2.length/\x_3+1<=(cyP (aA l) aC).length/\(cyP (aA l) aC).length-(x_3+1)<(cyP (aA l) aC).length-x_3)))))/\
             (¬(x_3:Int)<(cyP (⟨l,vsP l,esP l,([] :List (List (List Int)))⟩:Pl) aC).length->(0=(0:Int)/\(ph1 (aA l) x_3).1=(ph1 (aA l) (cyP (aA l) aC).length).fst/\(ph1 (aA l) x_3).2.2=(ph1 (aA l) (cyP (aA l) aC).length).2.snd/\(0:Nat)<=(cyP (aA l) aC).length)/\
              (∀x_4:Nat,x_4<=(cyP (aA l) aC).length->((x_4:Int)<(cyP (⟨l,vsP l,esP l,([] :List (List (List Int)))⟩:Pl) aC).length->ix (x_4:Int) (cyP (⟨l,vsP l,esP l,([] :List (List (List Int)))⟩:Pl) aC).length/\(ix (x_4:Int) (cyP (⟨l,vsP l,esP l,([] :List (List (List Int)))⟩:Pl) aC).length/\x_4<(ph2 (aA l) x_4).1.length/\(0<aM (ph2 (aA l) x_4).1 x_4->ix (x_4:Int) (cyP (⟨l,vsP l,esP l,([] :List (List (List Int)))⟩:Pl) aC).length/\x_4<(ph2 (aA l) x_4).1.length/\ix (aM (ph2 (aA l) x_4).1 x_4) (ph1 (aA l) x_3).2.2.length/\(aM (ph2 (aA l) x_4).1 x_4).toNat<(ph2 (aA l) x_4).2.length/\(0<((cW (ph2 (aA l) x_4).2 (aM (ph2 (aA l) x_4).1 x_4).toNat ([] :List (List Int))).length:Int)->ix (x_4:Int) (cyP (⟨l,vsP l,esP l,([] :List (List (List Int)))⟩:Pl) aC).length/\x_4<(ph2 (aA l) x_4).1.length/\ix (aM (ph2 (aA l) x_4).1 x_4) (ph1 (aA l) x_3).2.2.length/\(aM (ph2 (aA l) x_4).1 x_4).toNat<(ph2 (aA l) x_4).2.length/\ix 0 (cW (ph2 (aA l) x_4).2 (aM (ph2 (aA l) x_4).1 x_4).toNat ([] :List (List Int))).length/\(aM (ph2 (aA l) x_4).1 x_4).toNat<(ph2 (aA l) x_4).2.length/\(0:Nat)<(cW (ph2 (aA l) x_4).2 (aM (ph2 (aA l) x_4).1 x_4).toNat ([] :List (List Int))).length/\ix 0 (aO (cW (ph2 (aA l) x_4).2 (aM (ph2 (aA l) x_4).1 x_4).toNat ([] :List (List Int))) 0).length/\ix 0 (aO (cyP (⟨l,vsP l,esP l,([] :List (List (List Int)))⟩:Pl) aC) x_4).length/\decide (aM (aO (cW (ph2 (aA l) x_4).2 (aM (ph2 (aA l) x_4).1 x_4).toNat ([] :List (List Int))) 0) 0=aM (aO (cyP (⟨l,vsP l,esP l,([] :List (List (List Int)))⟩:Pl) aC) x_4) 0)=ouP (ph2 (aA l) x_4).1 (ph2 (aA l) x_4).2 (aO (cyP (aA l) aC) x_4) x_4)/\
                  (¬0<((cW (ph2 (aA l) x_4).2 (aM (ph2 (aA l) x_4).1 x_4).toNat ([] :List (List Int))).length:Int)->false=ouP (ph2 (aA l) x_4).1 (ph2 (aA l) x_4).2 (aO (cyP (aA l) aC) x_4) x_4))/\
                 (¬0<aM (ph2 (aA l) x_4).1 x_4->false=ouP (ph2 (aA l) x_4).1 (ph2 (aA l) x_4).2 (aO (cyP (aA l) aC) x_4) x_4))/\
                (∀y_2:Unit,(ix (x_4:Int) (cyP (⟨l,vsP l,esP l,([] :List (List (List Int)))⟩:Pl) aC).length/\x_4<(ph2 (aA l) x_4).1.length/\(aM (ph2 (aA l) x_4).1 x_4<0->ix (x_4:Int) (cyP (⟨l,vsP l,esP l,([] :List (List (List Int)))⟩:Pl) aC).length/\x_4<(ph2 (aA l) x_4).1.length/\ix (x_4:Int) (cyP (⟨l,vsP l,esP l,([] :List (List (List Int)))⟩:Pl) aC).length/\(aA l).es.length=(esP l).length/\(ph1 (aA l) x_3).2.2.length=(ph2 (aA l) x_4).2.length/\PlOk (⟨(aA l).sg,(aA l).vs,esP l,(ph2 (aA l) x_4).2⟩:Pl)/\(0:Nat)<(aO (cyP (⟨l,vsP l,esP l,([] :List (List (List Int)))⟩:Pl) aC) x_4).length/\(aO (cyP (⟨l,vsP l,esP l,([] :List (List (List Int)))⟩:Pl) aC) x_4).length<=1000000/\(∀h:Int,h∈aO (cyP (⟨l,vsP l,esP l,([] :List (List (List Int)))⟩:Pl) aC) x_4->HIn (⟨(aA l).sg,(aA l).vs,esP l,(ph2 (aA l) x_4).2⟩:Pl) h)/\ix (b9 (⟨(aA l).sg,(aA l).vs,esP l,(ph2 (aA l) x_4).2⟩:Pl) (aO (cyP (⟨l,vsP l,esP l,([] :List (List (List Int)))⟩:Pl) aC) x_4)) (aA l).vs.length/\(aA l).es.length=(esP l).length/\(ph1 (aA l) x_3).2.2.length=(ph2 (aA l) x_4).2.length/\PlOk (⟨(aA l).sg,(aA l).vs,esP l,(ph2 (aA l) x_4).2⟩:Pl)/\QOk (aP (aA l).vs (b9 (⟨(aA l).sg,(aA l).vs,esP l,(ph2 (aA l) x_4).2⟩:Pl) (aO (cyP (⟨l,vsP l,esP l,([] :List (List (List Int)))⟩:Pl) aC) x_4)).toNat)/\(0<=bwP (⟨(aA l).sg,(aA l).vs,esP l,(ph2 (aA l) x_4).2⟩:Pl) (aP (aA l).vs (b9 (⟨(aA l).sg,(aA l).vs,esP l,(ph2 (aA l) x_4).2⟩:Pl) (aO (cyP (⟨l,vsP l,esP l,([] :List (List (List Int)))⟩:Pl) aC) x_4)).toNat)->ix (bwP (⟨(aA l).sg,(aA l).vs,esP l,(ph2 (aA l) x_4).2⟩:Pl) (aP (aA l).vs (b9 (⟨(aA l).sg,(aA l).vs,esP l,(ph2 (aA l) x_4).2⟩:Pl) (aO (cyP (⟨l,vsP l,esP l,([] :List (List (List Int)))⟩:Pl) aC) x_4)).toNat)) (2*(esP l).length)/\(bwP (⟨(aA l).sg,(aA l).vs,esP l,(ph2 (aA l) x_4).2⟩:Pl) (aP (aA l).vs (b9 (⟨(aA l).sg,(aA l).vs,esP l,(ph2 (aA l) x_4).2⟩:Pl) (aO (cyP (⟨l,vsP l,esP l,([] :List (List (List Int)))⟩:Pl) aC) x_4)).toNat)).toNat<(ph1 (aA l) x_3).2.1.length/\(cyP (⟨l,vsP l,esP l,([] :List (List (List Int)))⟩:Pl) aC).length=(cd (ph2 (aA l) x_4).1 x_4 0).length/\2*(esP l).length=(ph1 (aA l) x_3).2.1.length/\(cd (ph2 (aA l) x_4).1 x_4 0).length<=1000000/\(0<=aM (ph1 (aA l) x_3).2.1 (bwP (⟨(aA l).sg,(aA l).vs,esP l,(ph2 (aA l) x_4).2⟩:Pl) (aP (aA l).vs (b9 (⟨(aA l).sg,(aA l).vs,esP l,(ph2 (aA l) x_4).2⟩:Pl) (aO (cyP (⟨l,vsP l,esP l,([] :List (List (List Int)))⟩:Pl) aC) x_4)).toNat)).toNat/\aM (ph1 (aA l) x_3).2.1 (bwP (⟨(aA l).sg,(aA l).vs,esP l,(ph2 (aA l) x_4).2⟩:Pl) (aP (aA l).vs (b9 (⟨(aA l).sg,(aA l).vs,esP l,(ph2 (aA l) x_4).2⟩:Pl) (aO (cyP (⟨l,vsP l,esP l,([] :List (List (List Int)))⟩:Pl) aC) x_4)).toNat)).toNat<(cd (ph2 (aA l) x_4).1 x_4 0).length)/\0<=aM (cd (ph2 (aA l) x_4).1 x_4 0) (aM (ph1 (aA l) x_3).2.1 (bwP (⟨(aA l).sg,(aA l).vs,esP l,(ph2 (aA l) x_4).2⟩:Pl) (aP (aA l).vs (b9 (⟨(aA l).sg,(aA l).vs,esP l,(ph2 (aA l) x_4).2⟩:Pl) (aO (cyP (⟨l,vsP l,esP l,([] :List (List (List Int)))⟩:Pl) aC) x_4)).toNat)).toNat).toNat/\ix (x_4:Int) (cyP (⟨l,vsP l,esP l,([] :List (List (List Int)))⟩:Pl) aC).length/\x_4<(cd (ph2 (aA l) x_4).1 x_4 0).length/\cd (cd (ph2 (aA l) x_4).1 x_4 0) x_4 (aM (cd (ph2 (aA l) x_4).1 x_4 0) (aM (ph1 (aA l) x_3).2.1 (bwP (⟨(aA l).sg,(aA l).vs,esP l,(ph2 (aA l) x_4).2⟩:Pl) (aP (aA l).vs (b9 (⟨(aA l).sg,(aA l).vs,esP l,(ph2 (aA l) x_4).2⟩:Pl) (aO (cyP (⟨l,vsP l,esP l,([] :List (List (List Int)))⟩:Pl) aC) x_4)).toNat)).toNat).toNat)=fdP (aA l) (ph1 (aA l) (cyP (aA l) aC).length).2.1 (ph2 (aA l) x_4).1 (aO (cyP (aA l) aC) x_4) x_4)/\
                   (¬0<=bwP (⟨(aA l).sg,(aA l).vs,esP l,(ph2 (aA l) x_4).2⟩:Pl) (aP (aA l).vs (b9 (⟨(aA l).sg,(aA l).vs,esP l,(ph2 (aA l) x_4).2⟩:Pl) (aO (cyP (⟨l,vsP l,esP l,([] :List (List (List Int)))⟩:Pl) aC) x_4)).toNat)->cd (ph2 (aA l) x_4).1 x_4 0=fdP (aA l) (ph1 (aA l) (cyP (aA l) aC).length).2.1 (ph2 (aA l) x_4).1 (aO (cyP (aA l) aC) x_4) x_4))/\
                  (¬aM (ph2 (aA l) x_4).1 x_4<0->(ph2 (aA l) x_4).1=fdP (aA l) (ph1 (aA l) (cyP (aA l) aC).length).2.1 (ph2 (aA l) x_4).1 (aO (cyP (aA l) aC) x_4) x_4))/\
                 (∀y_3:Unit,ix (x_4:Int) (cyP (⟨l,vsP l,esP l,([] :List (List (List Int)))⟩:Pl) aC).length/\x_4<(fdP (aA l) (ph1 (aA l) (cyP (aA l) aC).length).2.1 (ph2 (aA l) x_4).1 (aO (cyP (aA l) aC) x_4) x_4).length/\((!ouP (ph2 (aA l) x_4).1 (ph2 (aA l) x_4).2 (aO (cyP (aA l) aC) x_4) x_4)=true->ix (aM (fdP (aA l) (ph1 (aA l) (cyP (aA l) aC).length).2.1 (ph2 (aA l) x_4).1 (aO (cyP (aA l) aC) x_4) x_4) x_4) (ph1 (aA l) x_3).2.2.length/\(aM (fdP (aA l) (ph1 (aA l) (cyP (aA l) aC).length).2.1 (ph2 (aA l) x_4).1 (aO (cyP (aA l) aC) x_4) x_4) x_4).toNat<(ph2 (aA l) x_4).2.length/\(aM (fdP (aA l) (ph1 (aA l) (cyP (aA l) aC).length).2.1 (ph2 (aA l) x_4).1 (aO (cyP (aA l) aC) x_4) x_4) x_4).toNat<(ph2 (aA l) x_4).2.length/\(cW (ph2 (aA l) x_4).2 (aM (fdP (aA l) (ph1 (aA l) (cyP (aA l) aC).length).2.1 (ph2 (aA l) x_4).1 (aO (cyP (aA l) aC) x_4) x_4) x_4).toNat ([] :List (List Int))).length=(cW (ph2 (aA l) x_4).2 (aM (fdP (aA l) (ph1 (aA l) (cyP (aA l) aC).length).2.1 (ph2 (aA l) x_4).1 (aO (cyP (aA l) aC) x_4) x_4) x_4).toNat ([] :List (List Int))).length/\(cW (ph2 (aA l) x_4).2 (aM (fdP (aA l) (ph1 (aA l) (cyP (aA l) aC).length).2.1 (ph2 (aA l) x_4).1 (aO (cyP (aA l) aC) x_4) x_4) x_4).toNat ([] :List (List Int))).length+[aO (cyP (⟨l,vsP l,esP l,([] :List (List (List Int)))⟩:Pl) aC) x_4].length<=1000000/\ix (aM (fdP (aA l) (ph1 (aA l) (cyP (aA l) aC).length).2.1 (ph2 (aA l) x_4).1 (aO (cyP (aA l) aC) x_4) x_4) x_4) (ph1 (aA l) x_3).2.2.length/\(aM (fdP (aA l) (ph1 (aA l) (cyP (aA l) aC).length).2.1 (ph2 (aA l) x_4).1 (aO (cyP (aA l) aC) x_4) x_4) x_4).toNat=(aM (fdP (aA l) (ph1 (aA l) (cyP (aA l) aC).length).2.1 (ph2 (aA l) x_4).1 (aO (cyP (aA l) aC) x_4) x_4) x_4).toNat/\(aM (fdP (aA l) (ph1 (aA l) (cyP (aA l) aC).length).2.1 (ph2 (aA l) x_4).1 (aO (cyP (aA l) aC) x_4) x_4) x_4).toNat<(ph2 (aA l) x_4).2.length/\aH ((x_4:Int)+1)/\(aM (fdP (aA l) (ph1 (aA l) (cyP (aA l) aC).length).2.1 (ph2 (aA l) x_4).1 (aO (cyP (aA l) aC) x_4) x_4) x_4).toNat<(ph2 (aA l) x_4).2.length/\(cW (ph2 (aA l) x_4).2 (aM (fdP (aA l) (ph1 (aA l) (cyP (aA l) aC).length).2.1 (ph2 (aA l) x_4).1 (aO (cyP (aA l) aC) x_4) x_4) x_4).toNat ([] :List (List Int))++[aO (cyP (⟨l,vsP l,esP l,([] :List (List (List Int)))⟩:Pl) aC) x_4]).length=(cW (ph2 (aA l) x_4).2 (aM (fdP (aA l) (ph1 (aA l) (cyP (aA l) aC).length).2.1 (ph2 (aA l) x_4).1 (aO (cyP (aA l) aC) x_4) x_4) x_4).toNat ([] :List (List Int))++[aO (cyP (⟨l,vsP l,esP l,([] :List (List (List Int)))⟩:Pl) aC) x_4]).length/\(x_4:Int)+1=((x_4+1:Nat):Int)/\fdP (aA l) (ph1 (aA l) (cyP (aA l) aC).length).2.1 (ph2 (aA l) x_4).1 (aO (cyP (aA l) aC) x_4) x_4=(ph2 (aA l) (x_4+1)).1/\cd (ph2 (aA l) x_4).2 (aM (fdP (aA l) (ph1 (aA l) (cyP (aA l) aC).length).2.1 (ph2 (aA l) x_4).1 (aO (cyP (aA l) aC) x_4) x_4) x_4).toNat (cW (ph2 (aA l) x_4).2 (aM (fdP (aA l) (ph1 (aA l) (cyP (aA l) aC).length).2.1 (ph2 (aA l) x_4).1 (aO (cyP (aA l) aC) x_4) x_4) x_4).toNat ([] :List (List Int))++[aO (cyP (⟨l,vsP l,esP l,([] :List (List (List Int)))⟩:Pl) aC) x_4])=(ph2 (aA l) (x_4+1)).2/\x_4+1<=(cyP (aA l) aC).length/\(cyP (aA l) aC).length-(x_4+1)<(cyP (aA l) aC).length-x_4)/\
                  ((!ouP (ph2 (aA l) x_4).1 (ph2 (aA l) x_4).2 (aO (cyP (aA l) aC) x_4) x_4)=false->aH ((x_4:Int)+1)/\(x_4:Int)+1=((x_4+1:Nat):Int)/\fdP (aA l) (ph1 (aA l) (cyP (aA l) aC).length).2.1 (ph2 (aA l) x_4).1 (aO (cyP (aA l) aC) x_4) x_4=(ph2 (aA l) (x_4+1)).1/\(ph2 (aA l) x_4).2=(ph2 (aA l) (x_4+1)).2/\x_4+1<=(cyP (aA l) aC).length/\(cyP (aA l) aC).length-(x_4+1)<(cyP (aA l) aC).length-x_4))))/\
               (¬(x_4:Int)<(cyP (⟨l,vsP l,esP l,([] :List (List (List Int)))⟩:Pl) aC).length->(0=(0:Int)/\esP l=ph3 (aA l) (ph1 (aA l) (cyP (aA l) aC).length).2.1 (ph2 (aA l) (cyP (aA l) aC).length).1 0/\(0:Nat)<=(aA l).es.length)/\
                (∀x_5:Nat,x_5<=(aA l).es.length->((x_5:Int)<(aA l).es.length->aH (2*(x_5:Int))/\ix (2*(x_5:Int)) (2*(esP l).length)/\2*x_5<(ph1 (aA l) x_3).2.1.length/\ix (aM (ph1 (aA l) x_3).2.1 (2*x_5)) (cyP (⟨l,vsP l,esP l,([] :List (List (List Int)))⟩:Pl) aC).length/\(aM (ph1 (aA l) x_3).2.1 (2*x_5)).toNat<(ph2 (aA l) x_4).1.length/\aH (2*(x_5:Int))/\aH (2*(x_5:Int)+1)/\ix (2*(x_5:Int)+1) (2*(esP l).length)/\2*x_5+1<(ph1 (aA l) x_3).2.1.length/\ix (aM (ph1 (aA l) x_3).2.1 (2*x_5+1)) (cyP (⟨l,vsP l,esP l,([] :List (List (List Int)))⟩:Pl) aC).length/\(aM (ph1 (aA l) x_3).2.1 (2*x_5+1)).toNat<(ph2 (aA l) x_4).1.length/\ix (x_5:Int) (aA l).es.length/\x_5<(ph3 (aA l) (ph1 (aA l) (cyP (aA l) aC).length).2.1 (ph2 (aA l) (cyP (aA l) aC).length).1 x_5).length/\ix (x_5:Int) (aA l).es.length/\x_5<(cd (ph3 (aA l) (ph1 (aA l) (cyP (aA l) aC).length).2.1 (ph2 (aA l) (cyP (aA l) aC).length).1 x_5) x_5 (⟨(aU (ph3 (aA l) (ph1 (aA l) (cyP (aA l) aC).length).2.1 (ph2 (aA l) (cyP (aA l) aC).length).1 x_5) x_5).fr,(aU (ph3 (aA l) (ph1 (aA l) (cyP (aA l) aC).length).2.1 (ph2 (aA l) (cyP (aA l) aC).length).1 x_5) x_5).to,aM (ph2 (aA l) x_4).1 (aM (ph1 (aA l) x_3).2.1 (2*x_5)).toNat,(aU (ph3 (aA l) (ph1 (aA l) (cyP (aA l) aC).length).2.1 (ph2 (aA l) (cyP (aA l) aC).length).1 x_5) x_5).rt,(aU (ph3 (aA l) (ph1 (aA l) (cyP (aA l) aC).length).2.1 (ph2 (aA l) (cyP (aA l) aC).length).1 x_5) x_5).src⟩:Ed)).length/\aH ((x_5:Int)+1)/\(x_5:Int)+1=((x_5+1:Nat):Int)/\cd (cd (ph3 (aA l) (ph1 (aA l) (cyP (aA l) aC).length).2.1 (ph2 (aA l) (cyP (aA l) aC).length).1 x_5) x_5 (⟨(aU (ph3 (aA l) (ph1 (aA l) (cyP (aA l) aC).length).2.1 (ph2 (aA l) (cyP (aA l) aC).length).1 x_5) x_5).fr,(aU (ph3 (aA l) (ph1 (aA l) (cyP (aA l) aC).length).2.1 (ph2 (aA l) (cyP (aA l) aC).length).1 x_5) x_5).to,aM (ph2 (aA l) x_4).1 (aM (ph1 (aA l) x_3).2.1 (2*x_5)).toNat,(aU (ph3 (aA l) (ph1 (aA l) (cyP (aA l) aC).length).2.1 (ph2 (aA l) (cyP (aA l) aC).length).1 x_5) x_5).rt,(aU (ph3 (aA l) (ph1 (aA l) (cyP (aA l) aC).length).2.1 (ph2 (aA l) (cyP (aA l) aC).length).1 x_5) x_5).src⟩:Ed)) x_5 (⟨(aU (cd (ph3 (aA l) (ph1 (aA l) (cyP (aA l) aC).length).2.1 (ph2 (aA l) (cyP (aA l) aC).length).1 x_5) x_5 (⟨(aU (ph3 (aA l) (ph1 (aA l) (cyP (aA l) aC).length).2.1 (ph2 (aA l) (cyP (aA l) aC).length).1 x_5) x_5).fr,(aU (ph3 (aA l) (ph1 (aA l) (cyP (aA l) aC).length).2.1 (ph2 (aA l) (cyP (aA l) aC).length).1 x_5) x_5).to,aM (ph2 (aA l) x_4).1 (aM (ph1 (aA l) x_3).2.1 (2*x_5)).toNat,(aU (ph3 (aA l) (ph1 (aA l) (cyP (aA l) aC).length).2.1 (ph2 (aA l) (cyP (aA l) aC).length).1 x_5) x_5).rt,(aU (ph3 (aA l) (ph1 (aA l) (cyP (aA l) aC).length).2.1 (ph2 (aA l) (cyP (aA l) aC).length).1 x_5) x_5).src⟩:Ed)) x_5).fr,(aU (cd (ph3 (aA l) (ph1 (aA l) (cyP (aA l) aC).length).2.1 (ph2 (aA l) (cyP (aA l) aC).length).1 x_5) x_5 (⟨(aU (ph3 (aA l) (ph1 (aA l) (cyP (aA l) aC).length).2.1 (ph2 (aA l) (cyP (aA l) aC).length).1 x_5) x_5).fr,(aU (ph3 (aA l) (ph1 (aA l) (cyP (aA l) aC).length).2.1 (ph2 (aA l) (cyP (aA l) aC).length).1 x_5) x_5).to,aM (ph2 (aA l) x_4).1 (aM (ph1 (aA l) x_3).2.1 (2*x_5)).toNat,(aU (ph3 (aA l) (ph1 (aA l) (cyP (aA l) aC).length).2.1 (ph2 (aA l) (cyP (aA l) aC).length).1 x_5) x_5).rt,(aU (ph3 (aA l) (ph1 (aA l) (cyP (aA l) aC).length).2.1 (ph2 (aA l) (cyP (aA l) aC).length).1 x_5) x_5).src⟩:Ed)) x_5).to,(aU (cd (ph3 (aA l) (ph1 (aA l) (cyP (aA l) aC).length).2.1 (ph2 (aA l) (cyP (aA l) aC).length).1 x_5) x_5 (⟨(aU (ph3 (aA l) (ph1 (aA l) (cyP (aA l) aC).length).2.1 (ph2 (aA l) (cyP (aA l) aC).length).1 x_5) x_5).fr,(aU (ph3 (aA l) (ph1 (aA l) (cyP (aA l) aC).length).2.1 (ph2 (aA l) (cyP (aA l) aC).length).1 x_5) x_5).to,aM (ph2 (aA l) x_4).1 (aM (ph1 (aA l) x_3).2.1 (2*x_5)).toNat,(aU (ph3 (aA l) (ph1 (aA l) (cyP (aA l) aC).length).2.1 (ph2 (aA l) (cyP (aA l) aC).length).1 x_5) x_5).rt,(aU (ph3 (aA l) (ph1 (aA l) (cyP (aA l) aC).length).2.1 (ph2 (aA l) (cyP (aA l) aC).length).1 x_5) x_5).src⟩:Ed)) x_5).lf,aM (ph2 (aA l) x_4).1 (aM (ph1 (aA l) x_3).2.1 (2*x_5+1)).toNat,(aU (cd (ph3 (aA l) (ph1 (aA l) (cyP (aA l) aC).length).2.1 (ph2 (aA l) (cyP (aA l) aC).length).1 x_5) x_5 (⟨(aU (ph3 (aA l) (ph1 (aA l) (cyP (aA l) aC).length).2.1 (ph2 (aA l) (cyP (aA l) aC).length).1 x_5) x_5).fr,(aU (ph3 (aA l) (ph1 (aA l) (cyP (aA l) aC).length).2.1 (ph2 (aA l) (cyP (aA l) aC).length).1 x_5) x_5).to,aM (ph2 (aA l) x_4).1 (aM (ph1 (aA l) x_3).2.1 (2*x_5)).toNat,(aU (ph3 (aA l) (ph1 (aA l) (cyP (aA l) aC).length).2.1 (ph2 (aA l) (cyP (aA l) aC).length).1 x_5) x_5).rt,(aU (ph3 (aA l) (ph1 (aA l) (cyP (aA l) aC).length).2.1 (ph2 (aA l) (cyP (aA l) aC).length).1 x_5) x_5).src⟩:Ed)) x_5).src⟩:Ed)=ph3 (aA l) (ph1 (aA l) (cyP (aA l) aC).length).2.1 (ph2 (aA l) (cyP (aA l) aC).length).1 (x_5+1)/\x_5+1<=(aA l).es.length/\(aA l).es.length-(x_5+1)<(aA l).es.length-x_5)/\
                 (¬(x_5:Int)<(aA l).es.length->(aA l).es.length=(ph3 (aA l) (ph1 (aA l) (cyP (aA l) aC).length).2.1 (ph2 (aA l) (cyP (aA l) aC).length).1 x_5).length/\(ph1 (aA l) x_3).2.2.length=(ph2 (aA l) x_4).2.length/\(aA l).sg=(bf l).sg/\(aA l).vs=(bf l).vs/\ph3 (aA l) (ph1 (aA l) (cyP (aA l) aC).length).2.1 (ph2 (aA l) (cyP (aA l) aC).length).1 x_5=(bf l).es/\(ph2 (aA l) x_4).2=(bf l).fs/\0=fF l))))))))/\
          (∀i:Nat,∀q:Prod (Prod Nat Nat) (List Int),GetElem?.getElem? x_2.1 i=Option.some q->ix 0 2/\ix 1 2/\x_2.2.length=x_2.2.length/\x_2.2.length+[(⟨(q.1.1:Int),(q.1.2:Int),0,0,q.2⟩:Ed)].length<=1000000/\DC x_2.1 i=DC x_2.1 i/\l=l/\vsP l=vsP l/\(x_2.2++[(⟨(q.1.1:Int),(q.1.2:Int),0,0,q.2⟩:Ed)]).length=(x_2.2++[(⟨(q.1.1:Int),(q.1.2:Int),0,0,q.2⟩:Ed)]).length/\x_2.2++[(⟨(q.1.1:Int),(q.1.2:Int),0,0,q.2⟩:Ed)] =x_2.2++[(⟨(q.1.1:Int),(q.1.2:Int),0,0,q.2⟩:Ed)]/\List.Perm (x_2.2++[(⟨(q.1.1:Int),(q.1.2:Int),0,0,q.2⟩:Ed)] ++edM (DC x_2.1 i)) (edM (cT l l.length))/\(DC x_2.1 i).length<x_2.1.length))))))))))) (by kernel_rfl) (by
  change l.length<=1000/\((fF l=0->BdOk l))at hp;obtain⟨hl,hB⟩:=hp;refine⟨by omega,λh1=> ?_,λh1=>⟨by omega,λh2=> ?_,λh2=>⟨λh3=> ?_,λh3=> ?_⟩⟩⟩
  .have e:fF l=1:=by unfold fF;rw[if_pos h1]
   rw[AT (by rw[e];decide),e];exact⟨rfl,rfl,rfl,rfl,rfl⟩
  .have e:fF l=2:=by unfold fF;rw[if_neg (by rw[h1];decide),if_pos h2]
   rw[AT (by rw[e];decide),e];exact⟨rfl,rfl,rfl,rfl,rfl⟩
  .have e:fF l=9:=by unfold fF;rw[if_neg (by rw[h1];decide),if_neg (by rw[h2];decide),if_pos (by omega)]
   rw[AT (by rw[e];decide),e];exact⟨rfl,rfl,rfl,rfl,rfl⟩
  have e0:fF l=0:=by unfold fF;rw[if_neg (by rw[h1];decide),if_neg (by rw[h2];decide),if_neg (by omega)]
  have B:=hB e0;have eP:bf l=co (aA l):=if_pos e0;have hlen:=B.len;refine⟨by omega,⟨rfl,rfl,rfl,rfl,rfl,rfl,cu _⟩,λx hx=>⟨λhlt=> ?_,λhge=> ?_⟩⟩
  .have hv:=vj l x;have hm:=As (a:=x) (n:=l.length) (by omega) hlen;have hp:=sE l x;rw[VP,Gr (Ck x),z8,z8];exact⟨by omega,by omega,B.raw x (by omega),rfl,by simp only[eL];omega,by unfold ix;omega,by omega,rfl,by omega,by unfold aH;omega,rfl,rfl,rfl,rfl,rfl,rfl,by omega,by omega⟩
  obtain rfl:x=l.length:=by omega
  have hv:=vj l l.length;have hm:=As (a:=l.length) (n:=l.length) hlen hlen;have hSl:(aY (ltC aW) (vsK l l.length)).length=(vsK l l.length).length:=(fP _ _).length_eq;refine⟨rfl,by omega,λp hp=> ?_,⟨λh4=>⟨hSl.symm,rfl,(GB (by omega)).symm,rfl,rfl⟩,λh4=> ?_⟩,λ_=>⟨⟨rfl,rfl,cu _⟩,λi hi=>⟨λhlt=> ?_,λhge=> ?_⟩⟩⟩
  .obtain⟨i,h1,h2⟩:=zm hp;exact B.raw i h1 p (zF h2)
  .obtain⟨c1,c2⟩:=Lh hSl (by omega) (show fE (aY (ltC aW) (vsK l l.length))=vsP l from rfl) h4;refine⟨c1,λk hk=>⟨λhlt=> ?_,λhge=> ?_⟩⟩
   .obtain⟨a1,a2,a3,a4,a5,b,c⟩:=(c2 k hk).1 hlt;refine⟨a1,a2,a3,a4,a5,λhe=> ?_,c⟩;obtain⟨b1,b2,b3⟩:=b he;refine⟨b1,b2,λj hj=>⟨(b3 j hj).1,λhg=> ?_⟩⟩;obtain⟨d1,d2,d3,d4,d5⟩:=(b3 j hj).2 hg;rw[gX]at d4;exact⟨d1,d2,d3,d4,rfl,d5,rfl,rfl⟩
   .obtain⟨d1,d2⟩:=(c2 k hk).2 hge;exact⟨d1,rfl,d2,rfl,rfl⟩
  .have hpl:=sE l i;have hmem:∀j,j<(bB l i).length->POk (aP (bB l i) j):=λj hj=>B.raw i (by omega) _ (zF (by rw[ms hj];exact eG hj))
   have hvl:(vsP l).length<=100000:=B.pl.lv;refine⟨⟨by unfold ix;omega,by rw[z8];omega,rfl,Gr (by omega)⟩,λ_=>⟨⟨rfl,rfl,rfl,cu _⟩,λj hj=>⟨λhlt2=>⟨by unfold ix;omega,by omega,hmem j (by omega),Xo B,⟨λhn=> ?_,λhn=>WY (λh=>hn (Fk.2 h))⟩,λ_=>⟨by unfold aH;omega,rfl,Sp,rfl,by omega,by omega⟩⟩,λhg=> ?_⟩⟩⟩
   .have hk:=uy (vs:=vsP l) (pts:=bB l i) (i:=(i:Int)) (pf l i) j;have hj1:=Fk.1 hn;have hnn:0<=fe (vsP l) (bB l i) j/\0<=(ptX (aP (bB l i) j) (vsP l):Int):=⟨hn,x4 _⟩;refine⟨hnn,hk,λa q hq=> ?_,λhno=>⟨hnn,rfl,hno,hk,GR hj1⟩⟩;obtain⟨ha,e⟩:=ns.1 hq.1;have hr:=yb (vs:=vsP l) (pts:=bB l i) (i:=(i:Int)) (EN l i) j q (List.mem_of_getElem? hq.1);have hm2:=As (a:=i) (n:=l.length) (by omega) hlen;have eg:cW (dE (vsP l) (bB l i) (i:Int) (cT l i) j) a ((0,0),([] :List Int))=q:=by rw[b8,hq.1];rfl
    rw[eg];exact⟨hnn,rfl,ha,hq.2,rfl,by omega,hk,GR hj1⟩
   .obtain rfl:j=(bB l i).length:=by omega
    exact⟨by unfold aH;omega,rfl,rfl,by omega,by omega⟩
  obtain rfl:i=l.length:=by omega
  have hle:(esP l).length<=400000:=B.pl.le;have hel:(edM (cT l l.length)).length<=400000:=by rw[AM];exact hle
  refine⟨⟨rfl,rfl,rfl,rfl,rfl,uJ _⟩,λy hy=>⟨λhM=> ?_,λi q hq=> ?_⟩⟩
  rotate_left
  .have hlen2:=hy.length_eq;obtain⟨hi2,_⟩:=ns.1 hq;have hel2:(edM y.1).length=y.1.length:=d6 _;rw[dn]at hlen2;refine⟨by unfold ix;omega,by unfold ix;omega,rfl,by simp only[eL];omega,rfl,rfl,rfl,rfl,rfl,(UN hq _).trans hy,?_⟩;rw[List.length_eraseIdx_of_lt hi2];omega
  have hperm:y.2.Perm (edM (cT l l.length)):=by rw[hM]at hy;have:y.2++edM [] =y.2:=jE _;rw[this]at hy;exact hy
  have hek:=HU (pf l l.length);refine⟨⟨rfl,by have:=hperm.length_eq;omega,EdK.perm hperm hek,rfl,rfl,by rw[hperm.length_eq,AM],Ux hperm hek⟩,λ_=> ?_⟩;clear hy hM hperm y hge hB;have P:=B.pl;have hPE:(⟨l,vsP l,esP l,([] :List (List (List Int)))⟩:Pl)=aA l:=rfl;rw[hPE];have hes:(esP l).length=(aA l).es.length:=rfl;obtain⟨hcy,hcm⟩:=wu P;refine⟨rfl,P,B.ord,rfl,P,B.ord,by omega,rfl,by omega,by omega,by unfold aH;omega,by omega,by omega,by omega,by omega,⟨rfl,rfl,rfl,rfl,rfl,rfl,rfl,rfl,cu _⟩,λk hk=>⟨λhlt=> ?_,λhge=> ?_⟩⟩
  .obtain⟨c1,c2,c3⟩:=hcm _ (pp (l:=cyP (aA l) aC) (i:=k) (by omega));obtain⟨m1,m2⟩:=mW (aA l) k;have I:=qB P k (show k<=(cyP (aA l) aC).length by omega);have f1:=I.f1;have f2:=I.f2;have m1:(ph1 (aA l) k).1.length=(cyP (aA l) aC).length:=m1;refine⟨by unfold ix;omega,by unfold ix;omega,by omega,⟨rfl,rfl,cu _⟩,λj hj=>⟨λhlt2=> ?_,λhg=> ?_⟩⟩
   .have H:=c3 _ (kA (l:=aO (cyP (aA l) aC) k) (i:=j) (by omega));have h1:=H.1;have h2:=H.2;exact⟨by unfold ix;omega,by unfold ix;omega,by rw[sW];omega,by unfold aH;omega,rfl,rfl,by omega,by omega⟩
   .obtain rfl:j=(aO (cyP (aA l) aC) k).length:=by omega
    refine⟨⟨rfl,rfl,P.fs _,(tG P aC).fs _,c1,by omega,c3,?_,?_⟩,λ_=>⟨λhin=> ?_,λhin=> ?_⟩⟩
    .have:=AE (aA l) (ph1 (aA l) k).2.2 (aO (cyP (aA l) aC) k);have e:b9 (⟨(aA l).sg,(aA l).vs,esP l,(ph1 (aA l) k).2.2⟩:Pl) (aO (cyP (aA l) aC) k)=b9 (aA l) (aO (cyP (aA l) aC) k):=this;rw[e];exact YI P c1 c3
    .have e:inP (⟨(aA l).sg,(aA l).vs,esP l,(ph1 (aA l) k).2.2⟩:Pl) (aO (cyP (aA l) aC) k) (lvP (aA l) aC)=inP (aA l) (aO (cyP (aA l) aC) k) (lvP (aA l) aC):=YL (aA l) _ _ _;rw[e]
    .have hin:¬inP (aA l) (aO (cyP (aA l) aC) k) (lvP (aA l) aC)=true:=by
      cases h:inP (aA l) (aO (cyP (aA l) aC) k) (lvP (aA l) aC)with
      |true=>rw[h]at hin;cases hin
      |false=>exact rS
     have e:ph1 (aA l) (k+1)=_:=if_neg hin;rw[e];refine⟨⟨by unfold ix;omega,by rw[fG];omega,rfl⟩,λ_=>⟨rfl,by omega,by unfold aH;omega,rfl,rfl,rfl,rfl,rfl,rfl,rfl,?_,by omega,by omega⟩⟩;simp only[dn,eL]
    .have hin:inP (aA l) (aO (cyP (aA l) aC) k) (lvP (aA l) aC)=true:=by
      cases h:inP (aA l) (aO (cyP (aA l) aC) k) (lvP (aA l) aC)with
      |true=>rfl
      |false=>rw[h]at hin;cases hin
     have e:ph1 (aA l) (k+1)=_:=if_pos hin;rw[e];exact⟨by unfold aH;omega,rfl,rfl,rfl,rfl,rfl,rfl,rfl,rfl,by omega,by omega⟩
  obtain rfl:k=(cyP (aA l) aC).length:=by omega
  have I1:=qB P _ (bA (nC (aA l)));have hf2:(ph1 (aA l) (cyP (aA l) aC).length).2.2.length<=(cyP (aA l) aC).length+1:=I1.f2;obtain⟨ml,mo⟩:=mW (aA l) (cyP (aA l) aC).length;have ml:(ph1 (aA l) (cyP (aA l) aC).length).1.length=(cyP (aA l) aC).length:=ml;refine⟨⟨rfl,rfl,rfl,cu _⟩,λk hk2=>⟨λhlt=> ?_,λhge2=> ?_⟩⟩
  .obtain⟨c1,c2,c3⟩:=hcm _ (pp (l:=cyP (aA l) aC) (i:=k) (by omega));have I:=oR B k (show k<=(cyP (aA l) aC).length by omega);have i1:(ph2 (aA l) k).1.length=(cyP (aA l) aC).length:=I.l1;have i2:(ph2 (aA l) k).2.length=(ph1 (aA l) (cyP (aA l) aC).length).2.2.length:=I.l2;have f1:1<=(ph1 (aA l) (cyP (aA l) aC).length).2.2.length:=I1.f1;have v0:aM (ph2 (aA l) k).1 k=aM (ph1 (aA l) (cyP (aA l) aC).length).1 k:=I.v2 k (bA _);have v1:0<aM (ph2 (aA l) k).1 k->aM (ph2 (aA l) k).1 k<((ph1 (aA l) (cyP (aA l) aC).length).2.2.length:Int):=by
    intro h;rcases I1.v1 k (show k<(cyP (aA l) aC).length by omega)with h3|h3
    .have:aM (ph1 (aA l) (cyP (aA l) aC).length).1 k= -1:=h3.1;omega
    .rw[v0];exact h3.2
   obtain⟨w1,w2⟩:=HL B (show k<(cyP (aA l) aC).length by omega) I;have w0:=w1 k (Ck k);have w0:0<=aM (fdP (aA l) (ph1 (aA l) (cyP (aA l) aC).length).2.1 (ph2 (aA l) k).1 (aO (cyP (aA l) aC) k) k) k/\aM (fdP (aA l) (ph1 (aA l) (cyP (aA l) aC).length).2.1 (ph2 (aA l) k).1 (aO (cyP (aA l) aC) k) k) k<((ph1 (aA l) (cyP (aA l) aC).length).2.2.length:Int):=w0;refine⟨by unfold ix;omega,⟨by unfold ix;omega,by omega,λh0=> ?_,λh0=> ?_⟩,λ_=>⟨⟨by unfold ix;omega,by omega,λh0=> ?_,λh0=> ?_⟩,λ_=>⟨by unfold ix;omega,by rw[AL];omega,λho=> ?_,λho=> ?_⟩⟩⟩
   .have hv:=v1 h0;have hr:=I.r _ (zI (l:=(ph2 (aA l) k).2) (i:=(aM (ph2 (aA l) k).1 k).toNat) (by omega));rw[Oo];refine⟨by unfold ix;omega,by omega,by unfold ix;omega,by omega,λh5=> ?_,λh5=> ?_⟩
    .have hrow:=hr.2 _ (pp (l:=cK (ph2 (aA l) k).2 (aM (ph2 (aA l) k).1 k).toNat) (i:=0) (by omega));refine⟨by unfold ix;omega,by omega,by unfold ix;omega,by omega,by unfold ix;omega,by omega,by omega,by unfold ix;omega,by unfold ix;omega,?_⟩;unfold ouP;rw[decide_eq_true h0,decide_eq_true (show 0<(cK (ph2 (aA l) k).2 (aM (ph2 (aA l) k).1 k).toNat).length by omega),jB,jB]
    .unfold ouP;rw[decide_eq_false (show¬0<(cK (ph2 (aA l) k).2 (aM (ph2 (aA l) k).1 k).toNat).length by omega),ny,Bool.and_false]
   .unfold ouP;rw[decide_eq_false h0,ny]
   .have hlow:=AD P c1 c3;have e1:∀fs,b9 (⟨(aA l).sg,(aA l).vs,esP l,fs⟩:Pl) (aO (cyP (aA l) aC) k)=b9 (aA l) (aO (cyP (aA l) aC) k):=λfs=>AE (aA l) fs _;have e2:∀fs q,bwP (⟨(aA l).sg,(aA l).vs,esP l,fs⟩:Pl) q=bwP (aA l) q:=λfs q=>Yk (aA l) fs q;simp only[e1,e2];have hq:POk (aP (aA l).vs (b9 (aA l) (aO (cyP (aA l) aC) k)).toNat)/\(aP (aA l).vs (b9 (aA l) (aO (cyP (aA l) aC) k)).toNat).den<=33000000:=P.pt _ (by
     have hh:(b9 (aA l) (aO (cyP (aA l) aC) k)).toNat<(aA l).vs.length:=by omega
     rw[ms hh];exact eG hh)
    refine⟨by unfold ix;omega,by omega,by unfold ix;omega,rfl,i2.symm,P.fs _,c1,by omega,c3,by unfold ix;omega,rfl,i2.symm,P.fs _,hq.1.q hq.2,λhb=> ?_,λhb=> ?_⟩
    .have hb:0<=bwQ (aA l) (aO (cyP (aA l) aC) k):=hb;have S:=zH B (show k<(cyP (aA l) aC).length by omega) I h0 hb;have s1:=S.h.1;have s2:=S.h.2;have s3:=S.j;have s4:=S.lt;have s3:0<=aM (ph1 (aA l) (cyP (aA l) aC).length).2.1 (bwQ (aA l) (aO (cyP (aA l) aC) k)).toNat:=s3;have s4:aM (ph1 (aA l) (cyP (aA l) aC).length).2.1 (bwQ (aA l) (aO (cyP (aA l) aC) k)).toNat<k:=s4;show ix (bwQ (aA l) (aO (cyP (aA l) aC) k)) _/\(bwQ (aA l) (aO (cyP (aA l) aC) k)).toNat<_/\_/\_/\_/\(0<=aM _ (bwQ (aA l) (aO (cyP (aA l) aC) k)).toNat/\aM _ (bwQ (aA l) (aO (cyP (aA l) aC) k)).toNat<_)/\0<=aM _ (aM _ (bwQ (aA l) (aO (cyP (aA l) aC) k)).toNat).toNat/\_;have hj:=I.v1 (aM (ph1 (aA l) (cyP (aA l) aC).length).2.1 (bwQ (aA l) (aO (cyP (aA l) aC) k)).toNat).toNat (by omega);refine⟨by unfold ix;omega,by omega,by rw[fG];omega,by omega,by rw[fG];omega,⟨s3,by rw[fG];omega⟩,?_,by unfold ix;omega,by rw[fG];omega,?_⟩
     .rw[fH,if_neg (by omega)];exact hj.1
     .unfold fdP;rw[if_pos h0,if_pos hb];rfl
    .have hb:¬0<=bwQ (aA l) (aO (cyP (aA l) aC) k):=hb;unfold fdP;rw[if_pos h0,if_neg hb]
   .unfold fdP;rw[if_neg h0]
   .have ho:¬ouP (ph2 (aA l) k).1 (ph2 (aA l) k).2 (aO (cyP (aA l) aC) k) k=true:=by
     cases h:ouP (ph2 (aA l) k).1 (ph2 (aA l) k).2 (aO (cyP (aA l) aC) k) k with
     |true=>rw[h]at ho;cases ho
     |false=>exact rS
    have e:ph2 (aA l) (k+1)=_:=if_neg ho;rw[e,Oo];have hr:=I.r _ (zI (l:=(ph2 (aA l) k).2) (i:=(aM (fdP (aA l) (ph1 (aA l) (cyP (aA l) aC).length).2.1 (ph2 (aA l) k).1 (aO (cyP (aA l) aC) k) k) k).toNat) (by omega));exact⟨by unfold ix;omega,by omega,by omega,rfl,by simp only[eL];omega,by unfold ix;omega,rfl,by omega,by unfold aH;omega,by omega,rfl,rfl,rfl,rfl,by omega,by omega⟩
   .have ho:ouP (ph2 (aA l) k).1 (ph2 (aA l) k).2 (aO (cyP (aA l) aC) k) k=true:=by
     cases h:ouP (ph2 (aA l) k).1 (ph2 (aA l) k).2 (aO (cyP (aA l) aC) k) k with
     |true=>rfl
     |false=>rw[h]at ho;cases ho
    have e:ph2 (aA l) (k+1)=_:=if_pos ho;rw[e];exact⟨by unfold aH;omega,rfl,rfl,rfl,by omega,by omega⟩
  obtain rfl:k=(cyP (aA l) aC).length:=by omega
  have I2:=oR B _ (bA (nC (aA l)));have n1:(ph2 (aA l) (cyP (aA l) aC).length).1.length=(cyP (aA l) aC).length:=I2.l1;refine⟨⟨rfl,rfl,cu _⟩,λe he=>⟨λhlt=> ?_,λhg=> ?_⟩⟩
  .have hpos:=Yt (p:=aA l) (by omega);have o1:=I1.o _ (kA (l:=(ph1 (aA l) (nC (aA l))).2.1) (i:=2*e) (by show 2*e<(ph1 (aA l) (cyP (aA l) aC).length).2.1.length;omega));have o2:=I1.o _ (kA (l:=(ph1 (aA l) (nC (aA l))).2.1) (i:=2*e+1) (by show 2*e+1<(ph1 (aA l) (cyP (aA l) aC).length).2.1.length;omega));have o1:aM (ph1 (aA l) (cyP (aA l) aC).length).2.1 (2*e)=0\/0<=aM (ph1 (aA l) (cyP (aA l) aC).length).2.1 (2*e)/\aM (ph1 (aA l) (cyP (aA l) aC).length).2.1 (2*e)<((cyP (aA l) aC).length:Int):=o1;have o2:aM (ph1 (aA l) (cyP (aA l) aC).length).2.1 (2*e+1)=0\/0<=aM (ph1 (aA l) (cyP (aA l) aC).length).2.1 (2*e+1)/\aM (ph1 (aA l) (cyP (aA l) aC).length).2.1 (2*e+1)<((cyP (aA l) aC).length:Int):=o2;have l3:=sU (aA l) (ph1 (aA l) (cyP (aA l) aC).length).2.1 (ph2 (aA l) (cyP (aA l) aC).length).1 e;refine⟨by unfold aH;omega,by unfold ix;omega,by omega,by unfold ix;omega,by omega,by unfold aH;omega,by unfold aH;omega,by unfold ix;omega,by omega,by unfold ix;omega,by omega,by unfold ix;omega,by omega,by unfold ix;omega,by rw[fG];omega,by unfold aH;omega,rfl,?_,by omega,by omega⟩;exact Wr (by omega)
  .obtain rfl:e=(aA l).es.length:=by omega
   rw[eP];exact⟨(sU _ _ _ _).symm,I2.l2.symm,rfl,rfl,rfl,rfl,e0.symm⟩)
section
open Go.RowKit Go.Shelf
attribute [local go_sem] Oper.semAt_some
def RdH(n0:Nat)(w:World)(ah:Option Addr)(hs:List RV):Prop:=∀i,i<hs.length->∃b off,ah=some ⟨b,off,none⟩/\b<n0/\w.cell? ⟨b,off+i,none⟩=some (RV.enc (hs.getD i default))
def RdH.below{n0:Nat}{w w':World}{ah:Option Addr}{hs:List RV}(h:RdH n0 w ah hs)(hb:Below n0 w w'):RdH n0 w' ah hs:=by intro i hi;obtain⟨b,off,ha,hlt,h1⟩:=h i hi;exact⟨b,off,ha,hlt,(hb.cell (p:=⟨b,_,none⟩) hlt).trans h1⟩
def Kp2(n0 b:Nat)(W W':World):Prop:=Below n0 W W'/\W'.heap[b]? =W.heap[b]?
def Kp2.trans{n0 b:Nat}{A B C:World}(h:Kp2 n0 b A B)(k:Kp2 n0 b B C):Kp2 n0 b A C:=⟨h.1.trans k.1,k.2.trans h.2⟩
def Kp2.blk{n0 b:Nat}{W W':World}{t:TypeId}{cs:Array Value}(h:Kp2 n0 b W W')(hb:Blk W b t cs):Blk W' b t cs:=h.2.trans hb
def Tg(F:Fence)(n:Nat)(h179:F.fn 216)(hro:F.round=none)(hn:1<=n)(l b n0:Nat)(o:RV)(ah:Option Addr)(ch:Nat)(hs:List RV)(hhs:hs.length<=1000)(J Jx:List RV->World->Prop)
  (hY:∀pre x W,x∈o::hs->J pre W->pre.length<hs.length+1->YieldAt F (n-1) aG l #[RV.enc x] W λe W'=>
    (e= .returned (.bool true)/\J (pre++[x]) W'/\Kp2 n0 b W W')\/(e= .returned (.bool false)/\Jx (pre++[x]) W'))
  (W:World) (hB:Blk W b 81 #[RV.enc o,.slice ah hs.length ch]) (hH:RdH n0 W ah hs) (h0:J [] W):
  CallsIn F n aG 216 #[.func (.yield l) #[] #[],.pointer (some ⟨b,0,none⟩)] W λe W'=>(∃v,e= .returned v)/\
   ((∃ys,ys=o::hs/\J ys W')\/(∃pre,pre<+:o::hs/\Jx pre W')):=by
 obtain⟨fn,tmps,assign,body,hy,hR⟩:=hY [] o W eD h0 (by simp);dsimp only[RV.enc]at hy;have c0:=hB.cell 0;have c1:=hB.cell 1;simp[RV.enc]at c0 c1;refine callsIn_of_wp Tryz.func216 rfl h179 ?_ hro;simp only[Tryz.ntmps216,Cf,iE,iM,Nat.reduceAdd,Nat.reduceSub,RC,RD,RE,RF,pQ,mG]
 gi_wp2
 refine hR.mono ?_;rintro e W1 (⟨rfl,hJ1,hk1⟩|⟨rfl,hJx1⟩)
 .have hB1:=hk1.blk hB;have hH1:=hH.below hk1.1;clear c0 c1 hR hy;have c0:=hB1.cell 0;have c1:=hB1.cell 1;simp[RV.enc]at c0 c1
  gi_wp2
  gi_loopw [4,13] (λ_ i wr=>∃k:Nat,k<=hs.length/\i= .int .i64 k/\J (o::hs.take k) wr/\Kp2 n0 b W1 wr) (λ_ i _=>hs.length-(intOf i).toNat)
  case atStart=>exact⟨0,by omega,rfl,by grind,Below.refl _ _,rfl⟩
  case round=>
   obtain⟨k,hk,rfl,hJr,hkr⟩:=hrel;by_cases hlt:k<hs.length
   .obtain⟨bb,off,rfl,hbb,p0⟩:=hH1.below hkr.1 k hlt;have hblt:bb<wr.heap.size:=by
     rcases jC bb wr.heap.size with h|h
     .exact h
     .simp[World.cell?,Array.getElem?_eq_none h]at p0
    have htk:o::hs.take (k+1)=(o::hs.take k)++[hs.getD k default] :=by rw[List.take_add_one,b8,c7 hlt];simp
    obtain⟨fn,tmps,assign,body,hy,hR⟩:=hY (o::hs.take k) (hs.getD k default) wr (dT _ (by grind)) hJr (by simp;omega);rw[<-htk]at hR;dsimp only[RV.enc]at hy;unfold RV.enc at p0;clear htk;generalize hs.getD k default=z at hy p0
    gi_wp2
    refine hR.mono ?_;rintro e W3 (⟨rfl,hJ3,hk3⟩|⟨rfl,hJx3⟩)
    .gi_wp2
     go_roundw
     case rel=>exact⟨k+1,by omega,by go_num,hJ3,hkr.trans hk3⟩
     case measure=>simp[intOf];omega
    .gi_wp2
     refine bodyPost_ret (results_none rfl _ _ _) rfl ?_;grind
   .have hk2:k=hs.length:=by omega
    subst hk2;rw[kY]at hJr
    gi_wp2
    go_end0
    grind
 .gi_wp2
  refine bodyPost_ret (results_none rfl _ _ _) rfl ?_;grind
def Ri(F:Fence)(n:Nat)(h179:F.fn 216)(hro:F.round=none)(hn:1<=n)(b n0:Nat)(o:RV)(ah:Option Addr)(ch:Nat)(hs:List RV)(hhs:hs.length<=1000)(w:World)(hn0:n0<=w.heap.size)(hB:Blk w b 81 #[RV.enc o,.slice ah hs.length ch])(hH:RdH n0 w ah hs):
  SeqStopsK F n aG 216 #[.pointer (some ⟨b,0,none⟩)] (λx:{x:RV//x∈o::hs}=> #[RV.enc x.1]) (Kp2 n0 b) (λys=>ys.map (·.1)=o::hs) (λpre=>pre.map (·.1)<+:o::hs) (hs.length+1) w:=λl J Jx W hW _ _ hY h0=>by
 refine(Tg F n h179 hro hn l b n0 o ah ch hs hhs (λpre W=>∃p:List {x:RV//x∈o::hs},p.map (·.1)=pre/\J p W) (λpre W=>∃p:List {x:RV//x∈o::hs},p.map (·.1)=pre/\Jx p W) ?_ W (hB.iX hW) (hH.below (hW.mono hn0)) ⟨[],rfl,h0⟩).mono ?_
 .rintro pre x W' hx ⟨p,rfl,hJ⟩ hl;obtain⟨fn,tmps,assign,body,hy,hR⟩:=hY p ⟨x,hx⟩ W' hJ (by grind);refine⟨fn,tmps,assign,body,hy,hR.mono ?_⟩;grind
 grind
def ZA{n0 b:Nat}{w:World}(hn:n0<=w.heap.size)(hb:b<w.heap.size)(W:World)(l:Nat)(o o':Obj)(hl:w.heap.size<=l)(h:W.heap[l]? =some o)(h1:o.isCells=false)(h2:o.isWalk=false):Kp2 n0 b W (W.putObj l o'):=
 ⟨belowK_b hn W l o o' hl h h1 h2,World.putObj_heap_other (by omega)⟩
def Tf(o:RV)(ah:Option Addr)(nh ch:Nat)(w:World):
  Calls aG 159 #[.agg #[RV.enc o,.slice ah nh ch]] w λe w'=>e= .returned (.func (.func 216) #[] #[.pointer (some ⟨w.heap.size,0,none⟩)])/\w'=w.alloc (.cells #[RV.enc o,.slice ah nh ch] 81):=by
 unfold RV.enc
 go_enter Tryz.func159,Tryz.ntmps159
 go_wp2
 go_ret
 simp_all
end
section
open Go.RowKit Go.Shelf
attribute [local go_sem] Oper.semAt_some
structure RdSh(w:World)(o:RV)(ah:Option Addr)(hs:List RV):Prop where
 h:RdH w.heap.size w ah hs
 v:∀x∈o::hs,RdV w x.a x.r/\Len x
 n:hs.length<=1000
def gI(o:RV)(hs:List RV):Shape:=⟨o.r,hs.map RV.r⟩
section
variable {F:Fence} {n:Nat} {P:Program} {fn:Func} {R:Ending->World->Prop} {a:Act} {w:World} {v:Value}
def Si(hr:(results fn a.tmps).run P w= .ok v w)(hd:a.defers=[])(hR:R (.returned v) w):bodyPostM F n P fn R .ret a w:=by show LeavesInM F n P fn a.tmps R a.defers .returning w;rw[hd];exact⟨v,hr,hR⟩
def Sh{D:Nat}(hd:a.defers=[{target:= .collected D,args:= #[]}])(hK:w.heap[D]? =some (.deferred (some [])))(hr:(results fn a.tmps).run P (w.putObj D (.deferred none))= .ok v (w.putObj D (.deferred none)))
  (hR:R (.returned v) (w.putObj D (.deferred none))):bodyPostM F n P fn R .ret a w:=by
 show LeavesInM F n P fn a.tmps R a.defers .returning w;rw[hd];exact⟨by simp,.inl ⟨_,_,rfl,run_takeDeferred hK,v,hr,hR⟩⟩
end
def mP{n0 D:Nat}{W:World}(hD:n0<=D)(hK:W.heap[D]? =some (.deferred (some []))):Below n0 W (W.putObj D (.deferred none)):=
 (Below.refl n0 W).grown (grownBy_putObj' W D _) (by grind) (by grind)
def SC{W W':World}(h:Below W.heap.size W W'):KeepsOthers W W':=
 ⟨h.size,λk _o hk _=>(h.block k (by grind)).trans hk⟩
def sm{β:Type}{B g:Nat}{t:TypeId}{cs:β->Array Value}:OwnFrom B (λ(s:β) W=>Blk W g t (cs s)):=λs W W' row h hg hr=>by have h':W.heap[g]? =some (.cells (cs s) t (0,0)):=h;refine(hg.block g (by grind) ?_).trans h';intro e;obtain⟨_,o,ho,hc⟩:=hr g e.symm;rw[h']at ho;cases ho;cases hc
def IX{β:Type}{B:Nat}{p:β->Prop}:OwnFrom B (λ(s:β) (_:World)=>p s):=λ_ _ _ _ h _ _=>h
def WF{W:World}{D g:Nat}{t:TypeId}{cs:Array Value}(h:Blk W g t cs)(hK:W.heap[D]? =some (.deferred (some [])))(o':Obj):Blk (W.putObj D o') g t cs:=by have h':W.heap[g]? =some (.cells cs t (0,0)):=h;refine(World.putObj_heap_other ?_).trans h';grind
def nD{F:Fence}{n:Nat}{R:Ending->World->Prop}{W:World}{D s:Nat}{T:Array Value}{v:Bool}(hT:T.getD 2 undef= .pointer (some ⟨s,0,none⟩))(b2:Blk W s 4 #[.bool v])(hK:W.heap[D]? =some (.deferred (some [])))
  (hR:R (.returned (.bool v)) (W.putObj D (.deferred none))):bodyPostM F n aG Tryz.f97 R .ret {tmps:=T,defers:=[{target:= .collected D,args:= #[]}]} W:=by
 refine Sh (v:= .bool v) rfl hK ?_ hR;have c2:=(WF b2 hK (.deferred none)).cell 0;rw[Array.getD_eq_getD_getElem?]at hT;simp[results,Tryz.f97,go_sem,hT,c2]
def Rw{s:Shape}(h:6<s.holes.length):iS s=false:=by unfold iS;grind
def jJ(o:bC)(L:List bC)(i:Nat):Bool:=aB5 (aZ L i) o 2&&f9 (aZ L i) o&&
 ((bM i).all λk=>f9 (aZ L i) (aZ L k)&&aB5 (aZ L i) (aZ L k) 0&&aB5 (aZ L k) (aZ L i) 0)
def o9(L:List bC)(i k:Nat):Bool:=f9 (aZ L i) (aZ L k)&&aB5 (aZ L i) (aZ L k) 0&&aB5 (aZ L k) (aZ L i) 0
def uk(s:Shape):iS s=(decide (s.holes.length<=6)&&(dH s).all dC&&decide (ip s<=80)&&((bM s.holes.length).all (jJ s.outer s.holes))):=rfl
def Rx{s:Shape}{i:Nat}(hi:i<s.holes.length)(h:jJ s.outer s.holes i=false):iS s=false:=by rw[uk];grind
def RO{s:Shape}(h:80<ip s):iS s=false:=by rw[uk,decide_eq_false (show¬ip s<=80 by omega)];simp
def Rv{s:Shape}{r:bC}(hr:r∈dH s)(h:dC r=false):iS s=false:=by rw[uk];grind
def SM{s:Shape}(h1:¬6<s.holes.length)(h2:∀r∈dH s,dC r=true)(h3:¬80<ip s)(h4:∀i,i<s.holes.length->jJ s.outer s.holes i=true):iS s=true:=by rw[uk,decide_eq_true (by grind),decide_eq_true (by grind),dW.2 h2];grind
def UD{o:bC}{L:List bC}{i:Nat}(h1:aB5 (aZ L i) o 2=true)(h2:f9 (aZ L i) o=true)(h3:∀k,k<i->o9 L i k=true):jJ o L i=true:=by unfold jJ;rw[h1,h2];simp only[jB,dW,dR];exact h3
def Sv{o:bC}{L:List bC}{i:Nat}(h1:aB5 (aZ L i) o 2=false):jJ o L i=false:=by unfold jJ;rw[h1];simp
def Su{o:bC}{L:List bC}{i:Nat}(h1:f9 (aZ L i) o=false):jJ o L i=false:=by unfold jJ;rw[h1];simp
def Ss{o:bC}{L:List bC}{i k:Nat}(hk:k<i)(h1:o9 L i k=false):jJ o L i=false:=by unfold jJ;have:((bM i).all λk=>f9 (aZ L i) (aZ L k)&&aB5 (aZ L i) (aZ L k) 0&&aB5 (aZ L k) (aZ L i) 0)=false:=List.all_eq_false.2 ⟨k,by grind,by simpa[o9]using h1⟩;grind
def VU(hs:List RV){k:Nat}(hk:k<hs.length):aZ (hs.map RV.r) k=(hs.getD k default).r:=by unfold aZ;grind
def Fq(hs:List RV){k:Nat}(hk:k<hs.length):hs.getD k default∈hs:=by grind
def RQ(o:RV)(ah:Option Addr)(ch:Nat)(hs:List RV)(w:World)(H:RdSh w o ah hs)(hch:hs.length<=ch):
  Calls aG 97 #[.agg #[RV.enc o,.slice ah hs.length ch]] w λe w'=>e= .returned (.bool (iS (gI o hs)))/\Below w.heap.size w w':=by
 have hN:=H.n;by_cases c1:6<hs.length
 .have HV:Hid (iS (gI o hs)=false):=Lib.hid (Rw (by unfold gI;grind));refine(callsIn_wide (n:=9)).1 (callsIn_of_wp_marks Tryz.func97 rfl trivial ((wpIn_wide (n:=9)).2 ?_) rfl);simp only[Tryz.ntmps97,Cf,iE,iM,Nat.reduceAdd,Nat.reduceSub,RC,RD,RE,RF,pQ,mG]
  go_wp2_with fail
  have hBW:Below w.heap.size w (((w.alloc (.cells #[.slice o.a o.r.length o.c,.slice ah hs.length ch] 81)).alloc (.cells #[.bool false] 4))):=((Below.refl _ _).alloc (bA _) _).alloc (by simp) _;refine Si (v:= .bool false) ?_ rfl ?_
  .simp[results,Tryz.f97,go_sem]
  .exact⟨by rw[HV.out],hBW⟩
 .have d1:decide ((6:Int)<hs.length)=false:=by grind
  refine(callsIn_wide (n:=9)).1 (callsIn_of_wp_marks Tryz.func97 rfl trivial ((wpIn_wide (n:=9)).2 ?_) rfl);simp only[Tryz.ntmps97,Cf,iE,iM,Nat.reduceAdd,Nat.reduceSub,RC,RD,RE,RF,pQ,mG];dsimp only[RV.enc]
  go_wp2_with fail
  refine(Tf o ah hs.length ch _).mono ?_;rintro e w1 ⟨rfl,rfl⟩
  go_wp2_with fail
  have B1:=(((Blk.new w 81 #[.slice o.a o.r.length o.c,.slice ah hs.length ch]).alloc (.cells #[.bool false] 4)).alloc (.cells #[.int .i64 0] 3)).alloc (.cells #[RV.enc o,.slice ah hs.length ch] 81);have B2:=((Blk.new (w.alloc (.cells #[.slice o.a o.r.length o.c,.slice ah hs.length ch] 81)) 4 #[.bool false]).alloc (.cells #[.int .i64 0] 3)).alloc (.cells #[RV.enc o,.slice ah hs.length ch] 81);have B3:=(Blk.new ((w.alloc (.cells #[.slice o.a o.r.length o.c,.slice ah hs.length ch] 81)).alloc (.cells #[.bool false] 4)) 3 #[.int .i64 0]).alloc (.cells #[RV.enc o,.slice ah hs.length ch] 81);have B4:=Blk.new (((w.alloc (.cells #[.slice o.a o.r.length o.c,.slice ah hs.length ch] 81)).alloc (.cells #[.bool false] 4)).alloc (.cells #[.int .i64 0] 3)) 81 #[RV.enc o,.slice ah hs.length ch];have hBW:Below w.heap.size w ((((w.alloc (.cells #[.slice o.a o.r.length o.c,.slice ah hs.length ch] 81)).alloc (.cells #[.bool false] 4)).alloc (.cells #[.int .i64 0] 3)).alloc (.cells #[RV.enc o,.slice ah hs.length ch] 81)):=((((Below.refl _ _).alloc (bA _) _).alloc (by simp) _).alloc (by simp;omega) _).alloc (by simp;omega) _;have hs0:w.heap.size+4=((((w.alloc (.cells #[.slice o.a o.r.length o.c,.slice ah hs.length ch] 81)).alloc (.cells #[.bool false] 4)).alloc (.cells #[.int .i64 0] 3)).alloc (.cells #[RV.enc o,.slice ah hs.length ch] 81)).heap.size:=by simp
  simp only[World.size_alloc]at B1 B2 B3 B4;generalize (((w.alloc (.cells #[.slice o.a o.r.length o.c,.slice ah hs.length ch] 81)).alloc (.cells #[.bool false] 4)).alloc (.cells #[.int .i64 0] 3)).alloc (.cells #[RV.enc o,.slice ah hs.length ch] 81)=W0 at B1 B2 B3 B4 hBW hs0|-;refine(wpIn_wide (n:=9)).1 ?_
  refine' wpIn_rangeFunc_ownF (F:=Fence.wide) (n:=9) rfl (by omega) (gf:=216) (lb:= #[.pointer (some ⟨w.heap.size+1+1+1,0,none⟩)]) rfl trivial (enters_of Tryz.func216 (by kernel_rfl) rfl)
   (Ri Fence.wide 8 trivial rfl (by omega) (w.heap.size+1+1+1) w.heap.size o ah ch hs H.n W0 (by omega) B4 (H.h.below hBW)) Kp2.trans (ZA (by omega) (by omega)) (Below.refl _ _) (λ_=>rfl)
   (λpre W=>((Blk W w.heap.size 81 #[.slice o.a o.r.length o.c,.slice ah hs.length ch]/\(Blk W (w.heap.size+1) 4 #[.bool false]/\Blk W (w.heap.size+1+1+1) 81 #[RV.enc o,.slice ah hs.length ch]))/\Blk W (w.heap.size+1+1) 3 #[.int .i64 ((pre.map λx=>x.1.r.length).sum:Nat)])/\(((pre.map λx=>x.1.r.length).sum<=1000*pre.length/\∀x∈pre,dC x.1.r=true)/\Below w.heap.size w W))
   (λc pre W=>Blk W (w.heap.size+1) 4 #[.bool false]/\((c= .ret/\∃x∈pre,dC x.1.r=false)/\Below w.heap.size w W))
   (OwnFrom.and (OwnFrom.and (OwnFrom.and sm (OwnFrom.and sm sm)) sm) (OwnFrom.and IX (ownFrom_below (bA _) (by omega))))
   (λc=>OwnFrom.and sm (OwnFrom.and IX (ownFrom_below (bA _) (by omega))))
   (by grind) _ ?assign ?body ?done ?stop
  case assign=>
   intro l x W K hK
   gi_wp2
   exact hK
  case body=>
   rintro l pre ⟨⟨xa,xc,xr⟩,hxm⟩ W ⟨⟨⟨b1,b2,b4⟩,b3⟩,⟨hsum,hval⟩,hb⟩ hlen;obtain⟨hxr,hxl⟩:=H.v _ hxm;have hxn:xr.length<=1000:=hxl.1;have HS:Hid (((pre++[(⟨⟨xa,xc,xr⟩,hxm⟩:{x:RV//x∈o::hs})]).map λx:{x:RV//x∈o::hs}=>x.1.r.length).sum=(pre.map λx=>x.1.r.length).sum+xr.length):=Lib.hid (by simp);obtain⟨S,hS⟩:∃S,S=(xu (λx:{x:RV//x∈o::hs}=>fh x.1.r) pre).sum:=⟨_,rfl⟩;rw[<-hS]at b3 hsum HS;clear hS;have c2:=b2.cell 0;have c3:=b3.cell 0;have f2:=b2.frozen 0;have f3:=b3.frozen 0;dsimp only[RV.enc]
   gi_wp2_with fail
   refine⟨trivial,(CallsIn.inRound l (callsIn_wide.2 (RY xa xc xr _ (hxr.below (hb.setCell (p:=⟨w.heap.size+1+1,0,none⟩) (by simp;omega) _)) hxl))).mono ?_⟩;rintro e w1 ⟨rfl,hb1⟩;have hk:KeepsOthers W w1:=(KeepsOthers.setCell W _ _).trans (SC hb1);have q2:=(b2.far (p:=⟨w.heap.size+1+1,0,none⟩) (by simp) (.int .i64 ((S:Int)+xr.length))).iX hb1;have q1:=(b1.far (p:=⟨w.heap.size+1+1,0,none⟩) (by simp;omega) (.int .i64 ((S:Int)+xr.length))).iX hb1;have q4:=(b4.far (p:=⟨w.heap.size+1+1,0,none⟩) (by simp) (.int .i64 ((S:Int)+xr.length))).iX hb1;have q3:=(b3.l7 0 (.int .i64 ((S:Int)+xr.length))).iX hb1;have hB1:Below w.heap.size W w1:=((Below.refl _ W).setCell (p:=⟨w.heap.size+1+1,0,none⟩) (by simp;omega) _).trans (hb1.mono (by have:=hb.size;simp_all));have hK:Kp2 w.heap.size (w.heap.size+1+1+1) W w1:=⟨hB1,Eq.trans q4 (Eq.symm b4)⟩;cases hv:dC xr with
   |true=>
    gi_wp2
    refine⟨hk,hK,⟨⟨q1,q2,q4⟩,?_⟩,⟨?_,?_⟩,hb.trans hB1⟩
    .rw[HS.out];grind
    .rw[HS.out];simp;omega
    grind
   |false=>
    have c2:=q2.cell 0;have f2:=q2.frozen 0
    gi_wp2
    refine⟨hk.trans (KeepsOthers.setCell _ _ _),by simpa using q2.l7 0 (.bool false),⟨rfl,⟨_,eA.2 (.inr eD),hv⟩⟩,(hb.trans hB1).setCell (p:=⟨w.heap.size+1,0,none⟩) (by simp) _⟩
  case stop=>
   rintro D c pre W hD hpre ⟨b2,⟨rfl,x,hx,hv⟩,hb⟩ hK;have HV:Hid (iS (gI o hs)=false):=Lib.hid (Rv (r:=x.1.r) (by unfold gI dH;grind) hv)
   gi_wp2
   exact nD rfl b2 hK ⟨by rw[HV.out],hb.trans (mP (by omega) hK)⟩
  case done=>
   rintro D xs W hD hxs ⟨⟨⟨b1,b2,b4⟩,b3⟩,⟨hsum,hval⟩,hb⟩ hK;have hN7:xs.length<=7:=by have:=congrArg fh hxs;simp at this;omega
   have HC:(xs.map λx=>x.1.r.length).sum=ip (gI o hs):=by
    have e:(xs.map λx=>x.1.r.length)=(xs.map (·.1)).map λx=>x.r.length:=by rw[gY];rfl
    rw[e,hxs];unfold ip dH gI;simp[Function.comp_def]
   have HA:Hid (∀r∈dH (gI o hs),dC r=true):=Lib.hid (by
    intro r hr;have hr2:r∈(o::hs).map RV.r:=by unfold dH gI at hr;simpa using hr
    grind)
   rw[HC]at b3 hsum;clear HC hval hxs b4 B1 B2 B3 B4;have c80':=Lib.hid (λh:80<ip (gI o hs)=>RO h);have HVA:=Lib.hid (λ(h:¬80<ip (gI o hs)) h4=>SM (s:=gI o hs) (by unfold gI;grind) HA.out h h4);generalize ip (gI o hs)=N at b3 hsum c80' HVA;have hNb:N<=7000:=by omega
   clear HA hsum hN7 xs;have c3:=b3.cell 0;have f2:=b2.frozen 0;have c2:=b2.cell 0;have d0:=b1.cell 0;have d1':=b1.cell 1;simp at c2 c3 d0 d1';have hne:D≠w.heap.size+1:=by omega
   have hKs:∀v,(W.setCell ⟨w.heap.size+1,0,none⟩ v).heap[D]? =some (.deferred (some [])):=λv=>(Below.heap_setCell W ⟨w.heap.size+1,0,none⟩ v D (by omega)).trans hK;by_cases c80:80<N
   .have d80:decide ((80:Int)<N)=true:=by grind
    have HV:=Lib.hid (c80'.out c80)
    go_wp2
    exact nD rfl (by simpa using b2.l7 0 (.bool false)) (hKs _) ⟨by rw[HV.out],(hb.setCell (p:=⟨w.heap.size+1,0,none⟩) (by simp) _).trans (mP (by omega) (hKs _))⟩
   .have d80:decide ((80:Int)<N)=false:=by grind
    replace HVA:=Lib.hid (HVA.out c80);clear c80' c80 hNb b3
    go_wp2_with fail
    have hDl:D<W.heap.size:=by grind
    have hKX:∀wx,Below W.heap.size W wx->(wx.setCell ⟨w.heap.size+1,0,none⟩ (.bool false)).heap[D]? =some (.deferred (some [])):=λwx h=>(Below.heap_setCell wx ⟨w.heap.size+1,0,none⟩ _ D (by omega)).trans ((h.block D hDl).trans hK);have hKT:∀wx,Below W.heap.size W wx->(wx.setCell ⟨w.heap.size+1,0,none⟩ (.bool true)).heap[D]? =some (.deferred (some [])):=λwx h=>(Below.heap_setCell wx ⟨w.heap.size+1,0,none⟩ _ D (by omega)).trans ((h.block D hDl).trans hK);have ho:=H.v o (by grind);have hol:(gI o hs).outer=o.r:=rfl;have hhl:(gI o hs).holes=hs.map RV.r:=rfl;have hlen:(gI o hs).holes.length=hs.length:=by rw[hhl,d6]
    have HNO:=Lib.hid (λi (hi:i<hs.length) h=>Rx (s:=gI o hs) (i:=i) (by omega) h);rw[hol,hhl]at HNO;rw[hol,hhl,d6]at HVA;have HM:=Lib.hid (λk (hk:k<hs.length)=>VU hs hk);clear hol hhl hlen hKs f2 c2 c3 d0 d1' hBW;have HC:=Lib.hid (λ(wx:World) (h:Below W.heap.size W wx)=>(show wx.cell? ⟨w.heap.size,0,none⟩=some (.slice o.a o.r.length o.c)/\wx.cell? ⟨w.heap.size,1,none⟩=some (.slice ah hs.length ch)/\wx.cell? ⟨w.heap.size+1,0,none⟩=some (.bool false)/\wx.frozen? ⟨w.heap.size+1,0,none⟩=false from
     ⟨by simpa using(b1.iX h).cell 0,by simpa using(b1.iX h).cell 1,by simpa using(b2.iX h).cell 0,(b2.iX h).frozen 0⟩))
    go_loopw [5,6,8,28] (λ_ _ _ i wr=>∃k:Nat,k<=hs.length/\i= .int .i64 k/\Hid (∀i,i<k->jJ o.r (hs.map RV.r) i=true)/\Below W.heap.size W wr) (λ_ _ _ i _=>hs.length-(intOf i).toNat)
    case atStart=>exact⟨0,by omega,rfl,Lib.hid (by grind),Below.refl _ _⟩
    case round=>
     obtain⟨k,hk,rfl,HT,hbr⟩:=hrel;by_cases hlt:k<hs.length
     .obtain⟨bb,off,rfl,hbb,p0⟩:=H.h k hlt;have hbw:=hb.trans (hbr.mono hb.size);replace p0:=(hbw.cell (p:=⟨bb,_,none⟩) hbb).trans p0;have hx:=H.v _ (dT _ (Fq hs hlt));have HMk:=HM.out k hlt;obtain⟨d0,d1',e1,e2⟩:=HC.out _ hbr;have hbbr:bb<wr.heap.size:=Qn hbb hbw.size;obtain⟨⟨xa,xc,xr⟩,hz⟩:∃z,z=hs.getD k default:=⟨_,rfl⟩;rw[<-hz]at p0 hx HMk;dsimp only[RV.enc]at p0 hx HMk;clear hz;have HNK:=Lib.hid (HNO.out k hlt);cases h1:aB5 xr o.r 2 with
      |false=>
       have HV:=Lib.hid (HNK.out (Sv (by grind)))
       go_wp2_with fail
       refine(oc xa xc xr o.a o.c o.r 2 _ (ho.1.below hbw) ho.2 (hx.1.below hbw) hx.2).mono ?_;rintro e w1 ⟨rfl,hb1⟩;have hbX:=hbr.trans (hb1.mono hbr.size);obtain⟨d0,d1',e1,e2⟩:=HC.out _ hbX
       go_wp2
       exact nD rfl (by simpa using(b2.iX hbX).l7 0 (.bool false)) (hKX _ hbX) ⟨by rw[HV.out],((hb.trans (hbX.mono hb.size)).setCell (p:=⟨w.heap.size+1,0,none⟩) (by simp) _).trans (mP (by omega) (hKX _ hbX))⟩
      |true=>
       go_wp2_with fail
       refine(oc xa xc xr o.a o.c o.r 2 _ (ho.1.below hbw) ho.2 (hx.1.below hbw) hx.2).mono ?_;rintro e w1 ⟨rfl,hb1⟩;rw[h1];have hbY:=hbr.trans (hb1.mono hbr.size);have hbv:=hbw.trans (hb1.mono hbw.size);clear d0 d1' e1 e2 hb1 p0 hbr hbw;obtain⟨d0,d1',e1,e2⟩:=HC.out _ hbY;cases h2:f9 xr o.r with
       |false=>
        have HV:=Lib.hid (HNK.out (Su (by simp_all)))
        go_wp2_with fail
        refine(vJ xa xc xr o.a o.c o.r _ (hx.1.below hbv) (ho.1.below hbv) hx.2 ho.2).mono ?_;rintro e w2 ⟨rfl,hb2⟩;have hbX:=hbY.trans (hb2.mono hbY.size);obtain⟨d0,d1',e1,e2⟩:=HC.out _ hbX
        go_wp2
        exact nD rfl (by simpa using(b2.iX hbX).l7 0 (.bool false)) (hKX _ hbX) ⟨by rw[HV.out],((hb.trans (hbX.mono hb.size)).setCell (p:=⟨w.heap.size+1,0,none⟩) (by simp) _).trans (mP (by omega) (hKX _ hbX))⟩
       |true=>
        go_wp2_with fail
        refine(vJ xa xc xr o.a o.c o.r _ (hx.1.below hbv) (ho.1.below hbv) hx.2 ho.2).mono ?_;rintro e w2 ⟨rfl,hb2⟩;rw[h2];have hbX:=hbY.trans (hb2.mono hbY.size);clear d0 d1' e1 e2 hb2 hbY hbv hbbr;obtain⟨d0,d1',e1,e2⟩:=HC.out _ hbX;have hkc:k<=ch:=by omega
        go_wp2_with fail
        clear d0 d1' e1 e2 HNO;have hbv2:=hb.trans (hbX.mono hb.size)
        go_loopw [8,50] (λ_ i wr=>∃q:Nat,q<=k/\i= .int .i64 q/\Hid (∀i,i<q->o9 (hs.map RV.r) k i=true)/\Below W.heap.size W wr) (λ_ i _=>k-(intOf i).toNat)
        case atStart=>exact⟨0,by omega,rfl,Lib.hid (λi hi=>by omega),hbX⟩
        case round=>
         obtain⟨q,hq,rfl,HQ,hbq⟩:=hrel;by_cases hlq:q<k
         .have hqs:q<hs.length:=by omega
          obtain⟨bb',off',he,hbb',p0⟩:=H.h q hqs;simp only[Option.some.injEq,Addr.mk.injEq,and_true]at he;obtain⟨rfl,rfl⟩:=he;have hbw:=hb.trans (hbq.mono hb.size);replace p0:=(hbw.cell (p:=⟨bb,_,none⟩) hbb).trans p0;have hy:=H.v _ (dT _ (Fq hs hqs));have HMq:=HM.out q hqs;have hbbr:bb<wr.heap.size:=Qn hbb hbw.size;obtain⟨⟨ya,yc,yr⟩,hz⟩:∃z,z=hs.getD q default:=⟨_,rfl⟩;rw[<-hz]at p0 hy HMq;dsimp only[RV.enc]at p0 hy HMq;clear hz hbb';have HNQ:=Lib.hid (λh=>HNK.out (Ss hlq h));have HP:Hid (o9 (hs.map RV.r) k q=(f9 xr yr&&aB5 xr yr 0&&aB5 yr xr 0)):=Lib.hid (by unfold o9;rw[HMk,HMq]);cases h3:f9 xr yr with
          |false=>
           have HV:=Lib.hid (HNQ.out (by rw[HP.out,h3];rfl))
           go_wp2_with fail
           refine(vJ xa xc xr ya yc yr _ (hx.1.below hbw) (hy.1.below hbw) hx.2 hy.2).mono ?_;rintro e w3 ⟨rfl,hbw3⟩;have hbz:=hbq.trans (hbw3.mono hbq.size);obtain⟨d0,d1',e1,e2⟩:=HC.out _ hbz
           go_wp2
           exact nD rfl (by simpa using(b2.iX hbz).l7 0 (.bool false)) (hKX _ hbz) ⟨by rw[HV.out],((hb.trans (hbz.mono hb.size)).setCell (p:=⟨w.heap.size+1,0,none⟩) (by simp) _).trans (mP (by omega) (hKX _ hbz))⟩
          |true=>
           go_wp2_with fail
           refine(vJ xa xc xr ya yc yr _ (hx.1.below hbw) (hy.1.below hbw) hx.2 hy.2).mono ?_;rintro e w3 ⟨rfl,hbw3⟩;have hbz:=hbq.trans (hbw3.mono hbq.size);have hbv3:=hbw.trans (hbw3.mono hbw.size);cases h4:aB5 xr yr 0 with
           |false=>
            have HV:=Lib.hid (HNQ.out (by rw[HP.out,h3,h4];rfl))
            go_wp2_with fail
            refine(oc xa xc xr ya yc yr 0 _ (hy.1.below hbv3) hy.2 (hx.1.below hbv3) hx.2).mono ?_;rintro e w4 ⟨rfl,hbw4⟩;have hbz4:=hbz.trans (hbw4.mono hbz.size);obtain⟨d0,d1',e1,e2⟩:=HC.out _ hbz4
            go_wp2
            exact nD rfl (by simpa using(b2.iX hbz4).l7 0 (.bool false)) (hKX _ hbz4) ⟨by rw[HV.out],((hb.trans (hbz4.mono hb.size)).setCell (p:=⟨w.heap.size+1,0,none⟩) (by simp) _).trans (mP (by omega) (hKX _ hbz4))⟩
           |true=>
            go_wp2_with fail
            refine(oc xa xc xr ya yc yr 0 _ (hy.1.below hbv3) hy.2 (hx.1.below hbv3) hx.2).mono ?_;rintro e w4 ⟨rfl,hbw4⟩;have hbz4:=hbz.trans (hbw4.mono hbz.size);have hbv4:=hbv3.trans (hbw4.mono hbv3.size);cases h5:aB5 yr xr 0 with
            |false=>
             have HV:=Lib.hid (HNQ.out (by rw[HP.out,h3,h4,h5];rfl))
             go_wp2_with fail
             refine(oc ya yc yr xa xc xr 0 _ (hx.1.below hbv4) hx.2 (hy.1.below hbv4) hy.2).mono ?_;rintro e w5 ⟨rfl,hbw5⟩;have hbz5:=hbz4.trans (hbw5.mono hbz4.size);obtain⟨d0,d1',e1,e2⟩:=HC.out _ hbz5
             go_wp2
             exact nD rfl (by simpa using(b2.iX hbz5).l7 0 (.bool false)) (hKX _ hbz5) ⟨by rw[HV.out],((hb.trans (hbz5.mono hb.size)).setCell (p:=⟨w.heap.size+1,0,none⟩) (by simp) _).trans (mP (by omega) (hKX _ hbz5))⟩
            |true=>
             have HQ2:Hid (∀i,i<q+1->o9 (hs.map RV.r) k i=true):=Lib.hid (λi hi=>by
              by_cases e:i=q
              .subst e;rw[HP.out,h3,h4,h5];rfl
              .exact HQ.out i (by omega))
             go_wp2_with fail
             refine(oc ya yc yr xa xc xr 0 _ (hx.1.below hbv4) hx.2 (hy.1.below hbv4) hy.2).mono ?_;rintro e w5 ⟨rfl,hbw5⟩;have hbz5:=hbz4.trans (hbw5.mono hbz4.size)
             go_wp2
             go_roundw
             case rel=>exact⟨q+1,by omega,by go_num,HQ2,hbz5⟩
             case measure=>simp[intOf];omega
         .have HT2:Hid (∀i,i<k+1->jJ o.r (hs.map RV.r) i=true):=Lib.hid (λi hi=>by
           by_cases e:i=k
           .subst e;exact UD (by simp_all) (by simp_all) (λj hj=>HQ.out j (by omega))
           .exact HT.out i (by omega))
          go_wp2
          go_roundw
          case rel=>exact⟨k+1,by omega,by go_num,HT2,hbq⟩
          case measure=>simp[intOf];omega
     .have HV:=Lib.hid (HVA.out (λi hi=>HT.out i (by omega)));obtain⟨d0,d1',e1,e2⟩:=HC.out _ hbr
      go_wp2
      exact nD rfl (by simpa using(b2.iX hbr).l7 0 (.bool true)) (hKT _ hbr) ⟨by rw[HV.out],((hb.trans (hbr.mono hb.size)).setCell (p:=⟨w.heap.size+1,0,none⟩) (by simp) _).trans (mP (by omega) (hKT _ hbr))⟩
end
section
variable {C:bF} {w:World}
def cc.rdV(hC:∀b o v,C b o v->w.cell? ⟨b,o,none⟩=some v){r:List V}{b o:Nat}(h:cc C (iC r) b o):RdV w (some ⟨b,o,none⟩) r:=by
 intro i hi;have h1:=wO.at r i hi;have g0:(iC r)[i*2]? =some (.int .i64 r[i].x):=by have:=congrArg (λl=>l[0]?) h1;simpa[pM,uK]using this
 have g1:(iC r)[i*2+1]? =some (.int .i64 r[i].y):=by have:=congrArg (λl=>l[1]?) h1;simpa[pM,uK]using this
 obtain⟨v0,a1,_,a3⟩:=cc.get _ _ _ h _ _ g0;obtain⟨v1,b1,_,b3⟩:=cc.get _ _ _ h _ _ g1;unfold az at a3 b3;subst a3 b3;have en:Geo.nth r i=r[i] :=by unfold Geo.nth;rw[b8,c7 hi];rfl
 refine⟨b,o,rfl,fx w ⟨b,_,none⟩ (hC _ _ _ a1),?_,?_⟩
 .grind
 grind
def FI(hC:∀b o v,C b o v->w.cell? ⟨b,o,none⟩=some v){r:List V}{v:Value}(h:az C (qX r) v):∃a c,v= .slice a r.length c/\RdV w a r/\r.length<=c/\(a=none->c=0):=by
 unfold qX az at h;obtain⟨a,c,rfl,h1,h2,h3⟩:=h;refine⟨a,c,rfl,?_,h1,λe=>(h2 e).1⟩;cases a with
 |none=>
  have:r=[] :=by have:=congrArg fh (h2 rfl).2;rw[wO.length]at this;exact ig.1 (by grind)
  subst this;intro i hi;simp at hi
 |some ad=>
  obtain⟨b,o,sp⟩:=ad;obtain⟨h4,h5⟩:=h3 _ rfl;dsimp only at h4 h5;rcases nj r.length with hr0|hr0
  .intro i hi;omega
  .have h4:=h4 hr0;subst h4;exact h5.rdV hC
def Da(hC:∀b o v,C b o v->w.cell? ⟨b,o,none⟩=some v):∀(l:List bC) (b o:Nat),cc C (l.map qX) b o->∃hs:List RV,hs.map RV.r=l/\(∀i,i<hs.length->b<w.heap.size/\w.cell? ⟨b,o+i,none⟩=some (RV.enc (hs.getD i default)))/\∀x∈hs,RdV w x.a x.r/\x.r.length<=x.c/\(x.a=none->x.c=0)
 |[],b,o,_=>⟨[],rfl,(λi h=>by simp at h),λx h=>by cases h⟩
 |r::l,b,o,h=>by
  rw[cO]at h;unfold cc at h;obtain⟨⟨v,h1,_,h2⟩,h3⟩:=h;obtain⟨a,c,rfl,h4,h5⟩:=FI hC h2;obtain⟨hs,g1,g2,g3⟩:=Da hC l b (o+1) h3;refine⟨⟨a,c,r⟩::hs,by simp[g1],?_,?_⟩
  .intro i hi;cases i with
   |zero=>exact⟨fx w ⟨b,_,none⟩ (hC _ _ _ h1),by simpa[RV.enc]using hC _ _ _ h1⟩
   |succ i=>
    grind
  grind
def Te(hC:∀b o v,C b o v->w.cell? ⟨b,o,none⟩=some v){l:List bC}{v:Value}(h:az C (Am l) v):
  ∃ah ch,∃hs:List RV,v= .slice ah hs.length ch/\hs.length<=ch/\hs.map RV.r=l/\RdH w.heap.size w ah hs/\∀x∈hs,RdV w x.a x.r/\x.r.length<=x.c/\(x.a=none->x.c=0):=by
 unfold Am az at h;obtain⟨a,c,rfl,h1,h2,h3⟩:=h;cases a with
 |none=>
  have:l=[] :=by simpa using(h2 rfl).2
  subst this;exact⟨none,c,[],rfl,cu _,rfl,(λi hi=>by simp at hi),λx hx=>by cases hx⟩
 |some ad=>
  obtain⟨b,o,sp⟩:=ad;obtain⟨h4,h5⟩:=h3 _ rfl;dsimp only at h4 h5;rcases nj l.length with hl0|hl0
  .have:l=[] :=ig.1 hl0;subst this;exact⟨_,c,[],rfl,cu _,rfl,(λi hi=>by simp at hi),λx hx=>by cases hx⟩
  have h4:=h4 hl0;subst h4;obtain⟨hs,g1,g2,g3⟩:=Da hC l b o h5;have hl:hs.length=l.length:=by rw[<-g1];simp
  exact⟨_,c,hs,by rw[hl],by omega,g1,λi hi=>⟨b,o,rfl,(g2 i hi).1,(g2 i hi).2⟩,g3⟩
def TU(hC:∀b o v,C b o v->w.cell? ⟨b,o,none⟩=some v){s:Shape}{v:Value}(hf:Fit s)(h:az C (sw s) v):
  ∃o ah ch hs,v= .agg #[RV.enc o,.slice ah hs.length ch]/\RdSh w o ah hs/\hs.length<=ch/\(∀x∈o::hs,x.r.length<=x.c)/\gI o hs=s:=by
 unfold sw az at h;obtain⟨vs,rfl,h1,_⟩:=h;unfold bK at h1;obtain⟨v1,r1,rfl,h2,h3⟩:=h1;unfold bK at h3;obtain⟨v2,r2,rfl,h4,h5⟩:=h3;unfold bK at h5;subst h5;obtain⟨a,c,rfl,g1,g2⟩:=FI hC h2;obtain⟨ah,ch,hs,rfl,k1,k2,k3,k4⟩:=Te hC h4;have hl:hs.length=s.holes.length:=by rw[<-k2];simp
 refine⟨⟨a,c,s.outer⟩,ah,ch,hs,rfl,⟨k3,?_,by rw[hl];have:=hf.2.1;omega⟩,k1,?_,by unfold gI;rw[k2]⟩
 .intro x hx;rcases bc.1 hx with rfl|hx
  .exact⟨g1,hf.1,g2.1,g2.2⟩
  .exact⟨(k4 x hx).1,hf.2.2 _ (by grind),(k4 x hx).2.1,(k4 x hx).2.2⟩
 grind
end
def RR(s:Shape)(hf:Fit s):Sat aG true 97 [sw s] (.bool (iS s)):=by refine⟨by kernel_rfl,λC w vs hC h=> ?_⟩;unfold bK at h;obtain⟨v,r,rfl,h1,h2⟩:=h;unfold bK at h2;subst h2;obtain⟨o,ah,ch,hs,rfl,H,hch,_,rfl⟩:=TU hC hf h1;refine(RQ o ah ch hs w H hch).mono ?_;rintro e w' ⟨rfl,hb⟩;exact⟨_,rfl,by unfold az;rfl,hb⟩
def Ou{α:Type}(fr:Bool)(A:Arl α)(pre:α->List Prop)(res:α->SV):Con:=⟨α,A.dec,pre,.val fr res⟩
def XY{f:FuncId}{fr:Bool}{α:Type}{A:Arl α}{pre:α->List Prop}{res:α->SV}(B:α->List PV)(q:α->PV)(hB:∀x,avs (A.enc x)=(B x).map .p)(hq:∀x,(res x).av= .p (q x))(h:∀x,kR (pre x)->Sat aG fr f (B x) (q x)):(Ou fr A pre res).Ok aG f:=by intro s x hd hp;exact⟨B x,q x,(A.ok s x hd).trans (hB x),hq x,h x (fQ.2 hp)⟩
def Zk(l:List bC):LT.R.enc l=l.map qX:=by
 unfold LT.enc;induction l with
 |nil=>rfl
 |cons r l ih=>rw[List.flatMap_cons,ih];rfl
def YX(s:Shape):avs ((a1 aSh).enc s)=[sw s].map .p:=by show [SV.av (.agg [.lst .V s.outer,.lst .R s.holes])] =_;show [dt [.p (.sl s.outer.length (iC s.outer)),.p (.sl s.holes.length (LT.R.enc s.holes))]] =_;rw[Zk];rfl
def c55:Con:=Ou true (a1 aSh) (λs=>[Fit s]) (λs=> .bool (iS s))
def k55:c55.Ok aG 97:=XY (λs=>[sw s]) (λs=> .bool (iS s)) YX (λ_=>rfl) λs h=>RR s h
noncomputable section
def awL:List S:=[⟨⟨0,0⟩,⟨2,0⟩⟩,⟨⟨2,0⟩,⟨2,2⟩⟩,⟨⟨2,2⟩,⟨0,2⟩⟩,⟨⟨0,2⟩,⟨0,0⟩⟩,⟨⟨0,0⟩,⟨2,2⟩⟩,⟨⟨0,2⟩,⟨2,0⟩⟩]
def awP:Pl:=⟨awL,[⟨0,0,1⟩,⟨2,0,1⟩,⟨1,1,1⟩,⟨0,2,1⟩,⟨2,2,1⟩],
 [⟨0,1,1,0,[0]⟩,⟨0,2,2,1,[4]⟩,⟨0,3,0,2,[3]⟩,⟨1,2,1,3,[5]⟩,⟨1,4,3,0,[1]⟩,⟨2,3,2,4,[5]⟩,⟨2,4,4,3,[4]⟩,⟨3,4,0,4,[2]⟩],
 [[[1,4,14,9]],[[0,6,3]],[[2,10,5]],[[7,8,13]],[[11,12,15]]]⟩
def QT:fF awL=0:=by kernel_rfl
def aBP:bf awL=awP:=by kernel_rfl
def Zt:BdOk awL:=AW (by decide) QT
def Zv:cyP awP (pmF awP 1)=[[0,6,3]] :=by kernel_rfl
def awS:Shape:=⟨[⟨0,0⟩,⟨2,0⟩,⟨1,1⟩],[]⟩
def aBO:iS awS=true:=by kernel_rfl
def Zs:PlOk awP where
 ls:=by decide
 lv:=by decide
 le:=by decide
 fr:=by decide
 src:=by decide
 bd:=by unfold bd;decide
 pt:=λv hv=>by
  have:∀v∈awP.vs,(c8 v&&dX v 2000&&decide (v.den<=33000000))=true:=by decide+kernel
  have:=this v hv;simp only[bv,decide_eq_true_eq]at this;exact⟨⟨this.1.1,this.1.2⟩,this.2⟩
def Zu:LvO awP aC:=by
 have h1:∀v:Fin 5,∀x∈lvR awP aC v 16,∀y∈lvR awP aC v 16,∀z∈lvR awP aC v 16,ltC (cfH awP) x y=true->ltC (cfH awP) y z=true->ltC (cfH awP) x z=true:=by decide+kernel
 have h2:∀v:Fin 5,∀x∈lvR awP aC v 16,∀y∈lvR awP aC v 16,ltC (cfH awP) x y=true->ltC (cfH awP) y x=false:=by decide+kernel
 have h3:∀v:Fin 5,∀x∈lvR awP aC v 16,∀y∈lvR awP aC v 16,ltC (cfH awP) x y=false->ltC (cfH awP) y x=false->x=y:=by decide+kernel
 exact λv hv=>⟨h1 ⟨v,hv⟩,h2 ⟨v,hv⟩,h3 ⟨v,hv⟩⟩
def MQ:EC:=EC.at (a1 (aL .S)).dec (λl=>decide (l=awL)) false (.tup [.agg [.lst .S awP.sg,.lst .T awP.vs,.lst .E awP.es,.lst .F awP.fs],.int .i64 0])
def WP:MQ.c.Ok aG 13:=wm Oh (λx h=>of_decide_eq_true h) (fQ.1 ⟨(by decide:awL.length<=1000),λ_=>Zt⟩) (by show SV.av (.tup [.agg [.lst .S (bf awL).sg,.lst .T (bf awL).vs,.lst .E (bf awL).es,.lst .F (bf awL).fs],.int .i64 (fF awL)])=_;rw[aBP,QT])
def MJ:EC:=EC.at (ac aPl (a1 CS)).dec (λx=>decide (x.1=awP)&&(decide (x.2.1=awP)&&decide (x.2.2.1=1))) true (.lst .Q [[0,6,3]])
def WI:MJ.c.Ok aG 92:=wm (x0:=(awP,(awP,1,()))) Od (λx h=>by
 obtain⟨a,b,c,d⟩:=x;simp only[bv,decide_eq_true_eq]at h;obtain⟨rfl,rfl,rfl⟩:=h;rfl) (fQ.1 ⟨Zs,rfl,Zu⟩) (by
 show SV.av (.lst .Q (cyP awP (pmF awP 1)))=_;rw[Zv])
def MI:EC:=EC.at (a1 aSh).dec (λs=>decide (s.outer=awS.outer)&&decide (s.holes=awS.holes)) true (.lit true)
def WH:MI.c.Ok aG 97:=wm (x0:=awS) k55 (λx h=>by
 obtain⟨a,b⟩:=x;simp only[bv,decide_eq_true_eq]at h;obtain⟨rfl,rfl⟩:=h;rfl) (fQ.1 (show Fit awS from⟨by decide,by decide,by decide⟩)) (by
 show AV.p (.bool (iS awS))=_;rw[aBO];rfl)
def JE:EC:=EC.at (a1 (aL .V)).dec (λs=>decide (s=awS.outer)) false (.lst .V awS.outer)
def Zw:nH awS.outer=awS.outer:=by kernel_rfl
def Uf:JE.c.Ok aG 163:=wm (x0:=awS.outer) Oi (λx h=>of_decide_eq_true h) (fQ.1 (show awS.outer.length<=1000 by decide)) (by show SV.av (.lst .V (nH awS.outer))=_;rw[Zw])
end
end Go.Proofs.YtdnhebjljnfjaaaGreat
