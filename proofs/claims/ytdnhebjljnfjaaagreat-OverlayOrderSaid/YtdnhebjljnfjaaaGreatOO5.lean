/- Part 5 of what the statement stands on -/
import Derived.Test.YtdnhebjljnfjaaaGreatOO4
import Derived.Laws.CopyRow
import Derived.Laws.IdiomCopy
import Derived.RangeFuncNested
import Derived.RangeFuncBound
import Derived.RangeFuncCalls
import Derived.RangeFuncLeaves
import Derived.RangeFuncFrom
import Derived.Shelf.Abstract
import Derived.OwnWalkIn
import Derived.TacticsInMore
import Derived.LoopNIn
import Derived.LoopIn
set_option linter.all false
set_option maxRecDepth 100000
set_option maxHeartbeats 8000000
open List renaming range->bO,length_cons->iJ,length_append->dh,mem_append->eK,getD_eq_getElem?_getD->bq,getElem?_map->dw,getElem?_range->kg,mem_singleton->bM,mem_cons->bh,mem_cons_self->eG,mem_cons_of_mem->dK,map_cons->cV,nodup_cons->kG,mem_map->cF,length_singleton->eD,length_nil->iI,getElem?_set->gZ,getElem_mem->eR,length_set->fA,mem_or_eq_of_mem_set->Ri,replicate->bS,nil_append->oS,length_replicate->mg,getElem?_replicate->jf,Perm.refl->uq,append_assoc->lj,getD->cc,any->iu,take->ai,take_append_getElem->ye,length_take->ew,take_length->jg,not_mem_nil->dg,rec->sI,cons_append->ma,length->fg,length_map->eB,map_nil->lc,length_eq_zero_iff->ip,lookup->cL,map_take->sD,set->cR,drop->bT,Nodup->oZ,map->yU,eraseIdx->Dk,getElem?_eq_some_iff->oT,append_nil->je,size_toArray->DK,push_toArray->SK,append_toArray->SL,getElem?_eq_getElem->dA,all_eq_true->dm,mem_range->dY,map_map->gg,getElem?_take->oL,getElem?_drop->ru,Pairwise.nil->rr,pairwise_singleton->Dh,pairwise_cons->kC,pairwise_iff_getElem->oX,mem_iff_getElem->ki,pairwise_append->SN,pairwise_map->qE,any_eq_true->li,getElem_range->vG
open Nat renaming le_refl->az,add_mul->lg,one_mul->oV,lt_or_ge->jc,zero_le->cO,ne_of_beq_eq_false->f9,beq->ae,blt->dG,eq_of_beq_eq_true->bp,ble->iV,le_of_ble_eq_true->jJ,min->lm,zero_add->gc,lt_succ_self->DP,lt_of_lt_of_le->Rr,eq_zero_or_pos->oK,gcd->cE,gcd_mul_right->Dj,lt_trichotomy->jK,lt_irrefl->DL,mod_lt->eO,mod_eq_of_lt->oJ
open Prod renaming ext->vL
open Int renaming natCast_nonneg->yd,tmod->dr,tdiv->bz,ofNat_dvd_left->SM,lt_trichotomy->vH,natAbs->bm,natAbs_mul->qF,mul_le_mul_of_nonneg_right->kD,toNat_natCast->kh,tmod_eq_emod_of_nonneg->De,tdiv_eq_ediv_of_nonneg->Dd,mul_pos->mv,mul_nonneg->jG,lt_or_le->p8,toNat_of_nonneg->qG
open Go.Proofs.Tryz renaming prog->aH
open And renaming intro->c6
open Go.Sem renaming run_bind->bo,run_pure->cK
open Decidable renaming not_not->mr
open Option renaming map_some->dn
open Classical renaming choose_spec->Rp
open Go.Op renaming operands->cG
open Go.Call renaming operands->fz
open Go.Result renaming andThen_ok->b9
open Go.World renaming setRow->uy,block_lt_of_cell?->f0
open Bool renaming false_ne_true->sH,true_and->jH,false_and->ll,and_eq_true->cD,or_eq_true->jI
open Array renaming replicate_succ->SI,replicate_zero->SJ
open Iff renaming rfl->ms
open Go.RowKit
open Go.Proofs.YtdnhebjljnfjaaaGreat.Geo
open Go.Proofs.YtdnhebjljnfjaaaGreat.Geo renaming S->aDc,bJ->aDj,cross->aDe,sub->aDd,bi->aDh
namespace Go.Proofs.YtdnhebjljnfjaaaGreat
def vsK(l:List aDc):Nat->List Pt
 |0=>[]
 |k+1=>vsK l k++bC l k
def onP(l:List aDc)(k:Nat):List (List Pt):=(bO k).map (bC l)
def vsP(l:List aDc):List Pt:=fM (aY (ltC aW) (vsK l l.length))
def dI(vs pts:List Pt)(i:Int)(M:MF):Nat->MF
 |0=>M
 |j+1=>if 1<=j then eW (dI vs pts i M j) (ptX (aQ pts (j-1)) vs,ptX (aQ pts j) vs) i else dI vs pts i M j
def cU(l:List aDc):Nat->MF
 |0=>[]
 |k+1=>dI (vsP l) (bC l k) k (cU l k) (bC l k).length
def fm(vs pts:List Pt)(j:Nat):Int:=if 1<=j then(ptX (aQ pts (j-1)) vs:Nat)else-1
def edM(M:MF):List Ed:=M.map λq=>⟨q.1.1,q.1.2,0,0,q.2⟩
def esP(l:List aDc):List Ed:=aY (ltC gK) (edM (cU l l.length))
def aA(l:List aDc):Pl:=⟨l,vsP l,esP l,[]⟩
def dP(l:List aDc):Int:=if l.any ff=true then 1 else if l.any fN=true then 2 else if 200<l.length then 9 else 0
def bN(l:List aDc):Pl:=if dP l=0 then dR (aA l)else⟨[],[],[],[]⟩
def zX:∀l:List Pt,(fM l).length<=l.length
 |[] =>az _
 |[_] =>az _
 |x::y::r=>by
  have:=zX (y::r);unfold fM;split
  .simp only[iJ]at*;omega
  .simp only[iJ]at*;omega
def zo{l:List aDc}{i:Nat}{p:Pt}(h:p∈bC l i):p∈aa l i l.length:=(fP _ _).mem_iff.1 (vp _ p h)
def sq(l:List aDc)(i:Nat):(bC l i).length<=3*l.length+2:=by have h1:=zX (aY (ltC aW) (aa l i l.length));have h2:=(fP (ltC aW) (aa l i l.length)).length_eq;have h3:=zn l i l.length;unfold bC;omega
def wP(l:List aDc):∀k,(vsK l k).length<=k*(3*l.length+2)
 |0=>by unfold vsK;simp
 |k+1=>by
  have h1:=wP l k;have h2:=sq l k;unfold vsK;rw[dh,lg,oV];omega
def AX{l:List aDc}{p:Pt}:∀{k},p∈vsK l k->∃i,i<k/\p∈bC l i
 |0,h=>by cases h
 |k+1,h=>by
  unfold vsK at h;rcases eK.1 h with h|h
  .obtain⟨i,h1,h2⟩:=AX h;exact⟨i,by omega,h2⟩
  .exact⟨k,by omega,h⟩
def Ao(l:List aDc)(k:Nat):(onP l k).length=k:=by unfold onP;simp
def WT(l:List aDc)(k:Nat):onP l k++[bC l k] =onP l (k+1):=by unfold onP;rw[List.range_succ,List.map_append];rfl
def Ho{l:List aDc}{k i:Nat}(h:i<k):pq (onP l k) i=bC l i:=by unfold pq onP;rw[bq,dw,kg h];rfl
def wO{v:Int}{k:Nat×Nat}{q:(Nat×Nat)×List Int}:∀{M:MF},q∈eW M k v->q∈M\/(q.1=k/\∃r,q.2=r++[v]/\(r=[]\/(k,r)∈M))
 |[],h=>by
  unfold eW at h;rw[bM.1 h];exact .inr ⟨rfl,[],rfl,.inl rfl⟩
 |p::M,h=>by
  unfold eW at h;split at h
  .rename_i e;rcases bh.1 h with rfl|h
   .exact .inr ⟨rfl,p.2,rfl,.inr (by rw[<-e];exact eG)⟩
   .exact .inl (dK _ h)
  .rcases bh.1 h with rfl|h
   .exact .inl eG
   .rcases wO h with h|⟨h1,r,h2,h3⟩
    .exact .inl (dK _ h)
    .exact .inr ⟨h1,r,h2,h3.imp_right (dK _)⟩
def Fh{v:Int}{k:Nat×Nat}:∀{M:MF},(M.map (·.1)).Nodup->((eW M k v).map (·.1)).Nodup
 |[],_=>by unfold eW;simp
 |p::M,h=>by
  rw[cV,kG]at h;unfold eW;split
  .rename_i e;rw[cV,kG,<-e];exact h
  .rename_i e;rw[cV,kG];refine⟨λhm=> ?_,Fh h.2⟩;obtain⟨q,hq,e2⟩:=cF.1 hm;rcases wO hq with hq|⟨hq,_⟩
   .exact h.1 (cF.2 ⟨q,hq,e2⟩)
   .exact e (e2▸hq)
def ve{vs pts:List Pt}{i:Int}{M:MF}(h:(M.map (·.1)).Nodup):∀j,((dI vs pts i M j).map (·.1)).Nodup
 |0=>h
 |j+1=>by
  unfold dI;split
  .exact Fh (ve h j)
  .exact ve h j
def oh(l:List aDc):∀k,((cU l k).map (·.1)).Nodup
 |0=>List.nodup_nil
 |k+1=>ve (oh l k) _
def zD{vs pts:List Pt}{i:Int}{M:MF}{B:Nat}(h:∀q∈M,q.2.length<=B):∀j,∀q∈dI vs pts i M j,q.2.length<=B+j
 |0=>h
 |j+1=>by
  have ih:=zD (vs:=vs) (pts:=pts) (i:=i) h j;unfold dI;split
  .intro q hq;rcases wO hq with hq|⟨_,r,e,hr⟩
   .have:=ih q hq;omega
   .rw[e,dh,eD];rcases hr with rfl|hr
    .simp only[iI];omega
    .have:=ih _ hr;dsimp only at this;omega
  .intro q hq;have:=ih q hq;omega
def E6(l:List aDc):∀k,∀q∈cU l k,q.2.length<=k*(3*l.length+2)
 |0=>λq hq=>by cases hq
 |k+1=>λq hq=>by
  have h1:=zD (vs:=vsP l) (pts:=bC l k) (i:=(k:Int)) (E6 l k) _ q hq;have h2:=sq l k;rw[lg,oV];omega
def A3{M:MF}(h:(M.map (·.1)).Nodup):EdK (edM M):=by
 intro a ha b hb h1 h2;obtain⟨p,hp,rfl⟩:=cF.1 ha;obtain⟨q,hq,rfl⟩:=cF.1 hb;have e:p.1=q.1:=vL (Int.ofNat.inj h1) (Int.ofNat.inj h2);have key:∀{M:MF},(M.map (·.1)).Nodup->p∈M->q∈M->p=q:=by
  intro M;induction M with
  |nil=>intro _ h;cases h
  |cons r M ih=>
   intro hn hp hq;rw[cV,kG]at hn;rcases bh.1 hp with rfl|_
   .rcases bh.1 hq with rfl|hq
    .rfl
    .exact absurd (cF.2 ⟨q,hq,e.symm⟩) hn.1
   .rename_i hp2;rcases bh.1 hq with rfl|hq
    .exact absurd (show q.1∈M.map (·.1)from cF.2 ⟨p,hp2,e⟩) hn.1
    .exact ih hn.2 hp2 hq
 rw[key h hp hq]
def EdK.perm{a b:List Ed}(h:a.Perm b)(hb:EdK b):EdK a:=λx hx y hy=>hb x (h.mem_iff.1 hx) y (h.mem_iff.1 hy)
def V1{a b:List Ed}(h:a.Perm b)(hb:EdK b):aY (ltC gK) a=aY (ltC gK) b:=
 yh (uf hb) ((fP _ _).trans h) (oc (uf (EdK.perm h hb)) a λ_ h=>h)
def fQ{l:List Int}{i j:Nat}{v:Int}:aM (l.set i v) j=if i=j/\i<l.length then v else aM l j:=by
 unfold aM;rw[bq,bq,gZ];by_cases h:i=j
 .subst h;by_cases h2:i<l.length
  .simp[h2]
  .simp[h2]
 .simp[h]
def iX{l:List Int}{i:Nat}(h:i<l.length):aM l i∈l:=by rw[show aM l i=l[i]from cS h];exact eR h
def kK{l:List (List Int)}{i:Nat}(h:i<l.length):aO l i∈l:=by rw[show aO l i=l[i]from cS h];exact eR h
def sz{l:List (List (List Int))}{i:Nat}(h:i<l.length):bl l i∈l:=by rw[show bl l i=l[i]from cS h];exact eR h
def tO(k:Int)(o c:List Int):∀j,(ofC k o c j).length=o.length
 |0=>rfl
 |j+1=>by unfold ofC;rw[fA,tO k o c j]
def Hm{k:Int}{o c:List Int}{x:Int}:∀{j},x∈ofC k o c j->x∈o\/x=k
 |0,h=> .inl h
 |j+1,h=>by
  unfold ofC at h;rcases Ri h with h|h
  .exact Hm h
  .exact .inr h
section
variable {p:Pl} (P:PlOk p)
include P
theorem rY:(cyP p aC).length<=2*p.es.length/\∀c∈cyP p aC,0<c.length/\c.length<=2*p.es.length/\∀x∈c,HIn p x:=by obtain⟨_,h2,h3⟩:=tX (q:=aC) P (ni P aC) (2*p.es.length) (az _);exact⟨h2,h3⟩
omit P in
theorem IQ(q:Int->Bool)(L:List (List Int)):∀(f:Nat) (D:List Bool) (h:Int) (c:List Int),c.length<=(cyT p q L f D h c).2.length
 |0,_,_,c=>az _
 |f+1,D,h,c=>by
  unfold cyT;split
  .have:=IQ q L f (D.set h.toNat true) (nxP p L h) (c++[h]);rw[dh,eD]at this;omega
  .exact az _
omit P in
theorem W8(q:Int->Bool)(L:List (List Int)):∀k,(cyO p q L k).2.length<=(cyO p q L (k+1)).2.length:=by
 intro k;show _<=(if _ then _ else _:List (List Int)).length;split
 .rw[dh];omega
 .exact az _
omit P in
theorem Z2(h:0<p.es.length):0<(cyP p aC).length:=by
 have h1:0<(cyO p aC (lvP p aC) 1).2.length:=by
  have e:0<(cyS p aC (lvP p aC) (cyO p aC (lvP p aC) 0).1 0).2.length:=by show 0<(cyT p aC (lvP p aC) ((bS (2*p.es.length) false).count false) (bS (2*p.es.length) false) 0 []).2.length;obtain⟨m,hm⟩:∃m,2*p.es.length=m+1:=⟨2*p.es.length-1,by omega⟩;rw[List.count_replicate_self,hm,w8 ⟨by omega,by rw[List.replicate_succ];rfl,rfl⟩];have:=IQ (p:=p) aC (lvP p aC) m ((bS (m+1) false).set (0:Int).toNat true) (nxP p (lvP p aC) 0) ([] ++[0]);simp only[oS,eD]at this|-;exact this
  show 0<(if _ then _ else _:List (List Int)).length;rw[if_pos e,dh,eD];omega
 have key:∀k,1<=k->0<(cyO p aC (lvP p aC) k).2.length:=by
  intro k hk;induction k with
  |zero=>omega
  |succ k ih=>
   rcases jc k 1 with h2|h2
   .have:k=0:=by omega
    subst this;exact h1
   .have:=W8 (p:=p) aC (lvP p aC) k;have:=ih h2;omega
 exact key _ (by omega)
omit P in
theorem Au{c:List Int}(hc:0<c.length):∀k,k<=c.length->∃h∈c,lowK p c k=stP p h
 |0,_=>⟨_,iX hc,rfl⟩
 |k+1,hk=>by
  obtain⟨h,h1,h2⟩:=Au hc k (by omega);show∃h∈c,min (lowK p c k) (stP p (aM c k))=stP p h;rcases Int.le_total (lowK p c k) (stP p (aM c k))with g|g
  .exact⟨h,h1,by rw[Int.min_eq_left g,h2]⟩
  .exact⟨aM c k,iX (by omega),by rw[Int.min_eq_right g]⟩
theorem ZR{c:List Int}(hc:0<c.length)(h:∀x∈c,HIn p x):0<(aO (lvP p aC) (bv p c).toNat).length:=by
 obtain⟨x,hx,e⟩:=Au (p:=p) hc c.length (az _);have hl:=wT P hc h;have hX:=h x hx;have e2:aO (lvP p aC) (bv p c).toNat=aY (ltC (cfH p)) (lvR p aC (bv p c).toNat (2*p.es.length)):=by have:=tz (p:=p) (q:=aC) (k:=p.vs.length) (v:=(bv p c).toNat) (by omega);rw[if_pos (by omega)]at this;exact this
 rw[e2,(fP _ _).length_eq];refine List.length_pos_of_mem (pK.2 ⟨hX.1,by have:=hX.2;omega,rfl,?_⟩);show stP p x=_;rw[<-e];have:bv p c=lowK p c c.length:=rfl;omega
omit P in
theorem Ju(q:Pt):∀k,(bwK p q k).1= -1\/(0<=(bwK p q k).1/\(bwK p q k).1<2*k)
 |0=> .inl rfl
 |k+1=>by
  have ih:=Ju q k;show(bwS q (bwE p k) (bwK p q k)).1= -1\/(0<=(bwS q (bwE p k) (bwK p q k)).1/\(bwS q (bwE p k) (bwK p q k)).1<2*((k+1:Nat):Int));have hb:(bwE p k).h=2*k\/(bwE p k).h=2*k+1:=by
   unfold bwE;dsimp only;split
   .exact .inr rfl
   .exact .inl rfl
  unfold bwS;split
  .omega
  .split
   .omega
   .split
    .dsimp only;omega
    .omega
omit P in
theorem Jr{q:Pt}(h:0<=bwP p q):HIn p (bwP p q):=by
 rcases Ju (p:=p) q p.es.length with e|e
 .exact absurd h (by show¬0<=(bwK p q p.es.length).1;omega)
 .exact⟨h,e.2⟩
abbrev nC(p:Pl):Nat:=(cyP p aC).length
omit P in
theorem nK(p:Pl):∀k,(ph1 p k).1.length=nC p/\(ph1 p k).2.1.length=2*p.es.length
 |0=>⟨mg,mg⟩
 |k+1=>by
  obtain⟨h1,h2⟩:=nK p k;unfold ph1;split
  .exact⟨by rw[fA];exact h1,by rw[tO];exact h2⟩
  .exact⟨by rw[fA,fA];exact h1,by rw[tO];exact h2⟩
structure Ph1I(p:Pl)(k:Nat):Prop where
 f1:1<=(ph1 p k).2.2.length
 f2:(ph1 p k).2.2.length<=k+1
 v1:∀j,j<k->(aM (ph1 p k).1 j= -1/\inP p (aO (cyP p aC) j) (lvP p aC)=true)\/(1<=aM (ph1 p k).1 j/\aM (ph1 p k).1 j<(ph1 p k).2.2.length)
 v2:∀j,k<=j->aM (ph1 p k).1 j=0
 o:∀x∈(ph1 p k).2.1,x=0\/(0<=x/\x<k)
 r:∀f∈(ph1 p k).2.2,f.length<=1/\∀c∈f,0<c.length
theorem qf:∀k,k<=nC p->Ph1I p k
 |0,_=>by
  refine⟨az _,az _,λj h=>by omega,λj _=> ?_,λx hx=> ?_,λf hf=> ?_⟩
  .show(bS (nC p) (0:Int)).getD j 0=0;rw[bq,jf];split<;>rfl
  .exact .inl (List.eq_of_mem_replicate hx)
  .have:f=[] :=bM.1 hf;subst this;exact⟨cO _,λc hc=>by cases hc⟩
 |k+1,hk=>by
  have I:=qf k (by omega);obtain⟨l1,l2⟩:=nK p k;have l1:(ph1 p k).1.length=(cyP p aC).length:=l1;have hk:k+1<=(cyP p aC).length:=hk;have hc:=(rY P).2 _ (kK (l:=cyP p aC) (i:=k) (by omega));have ho:∀x∈ofC (k:Int) (ph1 p k).2.1 (aO (cyP p aC) k) (aO (cyP p aC) k).length,x=0\/(0<=x/\x<((k+1:Nat):Int)):=by
   intro x hx;rcases Hm hx with hx|rfl
   .have:=I.o x hx;omega
   .omega
  by_cases hin:inP p (aO (cyP p aC) k) (lvP p aC)=true
  .have e:ph1 p (k+1)=((ph1 p k).1.set k (-1),ofC k (ph1 p k).2.1 (aO (cyP p aC) k) (aO (cyP p aC) k).length,(ph1 p k).2.2):=by show(if _ then _ else _)=_;rw[if_pos hin]
   refine⟨by rw[e];exact I.f1,by rw[e];have:=I.f2;dsimp only;omega,λj hj=> ?_,λj hj=> ?_,by rw[e];exact ho,by rw[e];exact I.r⟩
   .rw[e];dsimp only;rw[fQ];by_cases h:k=j
    .subst h;rw[if_pos ⟨rfl,by omega⟩];exact .inl ⟨rfl,hin⟩
    .rw[if_neg (λh2=>h h2.1)];exact I.v1 j (by omega)
   .rw[e];dsimp only;rw[fQ,if_neg (by omega)];exact I.v2 j (by omega)
  .have e:ph1 p (k+1)=(((ph1 p k).1.set k (-1)).set k ((ph1 p k).2.2.length:Int),ofC k (ph1 p k).2.1 (aO (cyP p aC) k) (aO (cyP p aC) k).length,(ph1 p k).2.2++[[aO (cyP p aC) k]]):=by show(if _ then _ else _)=_;rw[if_neg hin]
   have f1:=I.f1;have f2:=I.f2;refine⟨by rw[e];simp,by rw[e];simp only[dh,eD];omega,λj hj=> ?_,λj hj=> ?_,by rw[e];exact ho,λf hf=> ?_⟩
   .rw[e];dsimp only;rw[fQ,fQ,dh,eD];by_cases h:k=j
    .subst h;rw[if_pos ⟨rfl,by rw[fA];omega⟩];right;omega
    .rw[if_neg (λh2=>h h2.1),if_neg (λh2=>h h2.1)];rcases I.v1 j (by omega)with h3|h3
     .exact .inl h3
     .exact .inr ⟨h3.1,by omega⟩
   .rw[e];dsimp only;rw[fQ,fQ,if_neg (by omega),if_neg (by omega)];exact I.v2 j (by omega)
   .rw[e]at hf;rcases eK.1 hf with hf|hf
    .exact I.r f hf
    .rw[bM.1 hf];exact⟨az _,λc h=>by rw[bM.1 h];exact hc.1⟩
end
structure BdOk(l:List aDc):Prop where
 len:l.length<=100
 raw:∀i,i<l.length->∀p∈aa l i l.length,POk p
 pl:PlOk (aA l)
 ord:LvO (aA l) aC
 bel:∀k,k<nC (aA l)->inP (aA l) (aO (cyP (aA l) aC) k) (lvP (aA l) aC)=true->0<=bwQ (aA l) (aO (cyP (aA l) aC) k)->
  aM (ph1 (aA l) (nC (aA l))).2.1 (bwQ (aA l) (aO (cyP (aA l) aC) k)).toNat<k
theorem A0(p:Pl)(o fa c:List Int)(k:Nat):(fdP p o fa c k).length=fa.length:=by
 unfold fdP;split
 .split
  .rw[fA,fA]
  .rw[fA]
 .rfl
structure Ph2I(p:Pl)(k:Nat):Prop where
 l1:(ph2 p k).1.length=nC p
 l2:(ph2 p k).2.length=(ph1 p (nC p)).2.2.length
 v1:∀j,j<k->0<=aM (ph2 p k).1 j/\aM (ph2 p k).1 j<(ph1 p (nC p)).2.2.length
 v2:∀j,k<=j->aM (ph2 p k).1 j=aM (ph1 p (nC p)).1 j
 r:∀f∈(ph2 p k).2,f.length<=k+1/\∀c∈f,0<c.length
structure Ph2S(p:Pl)(k:Nat):Prop where
 h:HIn p (bwQ p (aO (cyP p aC) k))
 j:0<=aM (ph1 p (nC p)).2.1 (bwQ p (aO (cyP p aC) k)).toNat
 lt:aM (ph1 p (nC p)).2.1 (bwQ p (aO (cyP p aC) k)).toNat<k
theorem zq{l:List aDc}(B:BdOk l){k:Nat}(hk:k<nC (aA l))(I:Ph2I (aA l) k)(hn:aM (ph2 (aA l) k).1 k<0)(hb:0<=bwQ (aA l) (aO (cyP (aA l) aC) k)):Ph2S (aA l) k:=by
 have I1:=qf B.pl (nC (aA l)) (az _);rw[I.v2 k (az _)]at hn;have hin:inP (aA l) (aO (cyP (aA l) aC) k) (lvP (aA l) aC)=true:=by
  rcases I1.v1 k hk with h|h
  .exact h.2
  .omega
 have h:=Jr hb;refine⟨h,?_,B.bel k hk hin hb⟩;have hl:=(nK (aA l) (nC (aA l))).2;have:=I1.o _ (iX (l:=(ph1 (aA l) (nC (aA l))).2.1) (i:=(bwQ (aA l) (aO (cyP (aA l) aC) k)).toNat) (by have h1:=h.1;have h2:=h.2;have e:bwQ (aA l) (aO (cyP (aA l) aC) k)=bwP (aA l) (aQ (aA l).vs (bv (aA l) (aO (cyP (aA l) aC) k)).toNat):=rfl;omega))
 omega
theorem IJ{l:List aDc}(B:BdOk l){k:Nat}(hk:k<nC (aA l))(I:Ph2I (aA l) k):
  let fa:=fdP (aA l) (ph1 (aA l) (nC (aA l))).2.1 (ph2 (aA l) k).1 (aO (cyP (aA l) aC) k) k
  (∀j,j<k+1->0<=aM fa j/\aM fa j<(ph1 (aA l) (nC (aA l))).2.2.length)/\∀j,k+1<=j->aM fa j=aM (ph1 (aA l) (nC (aA l))).1 j:=by
 have I1:=qf B.pl (nC (aA l)) (az _);have f1:=I1.f1;have l1:k<(ph2 (aA l) k).1.length:=by rw[I.l1];exact hk
 intro fa;have hfa:fa=fdP (aA l) (ph1 (aA l) (nC (aA l))).2.1 (ph2 (aA l) k).1 (aO (cyP (aA l) aC) k) k:=rfl;unfold fdP at hfa;by_cases hn:aM (ph2 (aA l) k).1 k<0
 .rw[if_pos hn]at hfa;by_cases hb:0<=bwQ (aA l) (aO (cyP (aA l) aC) k)
  .rw[if_pos hb]at hfa;have S:=zq B hk I hn hb;have hlt:=S.lt;have hge:=S.j;obtain⟨j0,hj0⟩:=Int.eq_ofNat_of_zero_le hge;rw[hj0]at hfa hlt;have hv:=I.v1 j0 (by omega);have e:aM ((ph2 (aA l) k).1.set k 0) (j0:Int).toNat=aM (ph2 (aA l) k).1 j0:=by rw[fQ,if_neg (by omega)];rfl
   have hfa:fa=((ph2 (aA l) k).1.set k 0).set k (aM ((ph2 (aA l) k).1.set k 0) (j0:Int).toNat):=hfa;rw[e]at hfa;constructor
   .intro j hj;rw[hfa,fQ,fQ];by_cases h:k=j
    .rw[if_pos ⟨h,by rw[fA];exact l1⟩];exact hv
    .rw[if_neg (λh2=>h h2.1),if_neg (λh2=>h h2.1)];exact I.v1 j (by omega)
   .intro j hj;rw[hfa,fQ,fQ,if_neg (by omega),if_neg (by omega)];exact I.v2 j (by omega)
  .rw[if_neg hb]at hfa;constructor
   .intro j hj;rw[hfa,fQ];by_cases h:k=j
    .rw[if_pos ⟨h,l1⟩];omega
    .rw[if_neg (λh2=>h h2.1)];exact I.v1 j (by omega)
   .intro j hj;rw[hfa,fQ,if_neg (by omega)];exact I.v2 j (by omega)
 .rw[if_neg hn]at hfa;constructor
  .intro j hj;rw[hfa];by_cases h:k=j
   .subst h;have h2:=I.v2 k (az _);rcases I1.v1 k hk with h3|h3
    .omega
    .omega
   .exact I.v1 j (by omega)
  .intro j hj;rw[hfa];exact I.v2 j (by omega)
theorem pH{l:List aDc}(B:BdOk l):∀k,k<=nC (aA l)->Ph2I (aA l) k
 |0,_=>by
  have I1:=qf B.pl (nC (aA l)) (az _);refine⟨(nK (aA l) _).1,rfl,λj h=>by omega,λj _=>rfl,λf hf=> ?_⟩;have:=I1.r f hf;exact⟨by omega,this.2⟩
 |k+1,hk=>by
  have I:=pH B k (by omega);obtain⟨v1,v2⟩:=IJ B (by omega) I;have hc:=(rY B.pl).2 _ (kK (l:=cyP (aA l) aC) (i:=k) hk);by_cases ho:ouP (ph2 (aA l) k).1 (ph2 (aA l) k).2 (aO (cyP (aA l) aC) k) k=true
  .have e:ph2 (aA l) (k+1)=(fdP (aA l) (ph1 (aA l) (nC (aA l))).2.1 (ph2 (aA l) k).1 (aO (cyP (aA l) aC) k) k,(ph2 (aA l) k).2):=by show(if _ then _ else _)=_;rw[if_pos ho]
   exact⟨by rw[e];dsimp only;rw[A0];exact I.l1,by rw[e];exact I.l2,by rw[e];exact v1,by rw[e];exact v2,by rw[e];intro f hf;have:=I.r f hf;exact⟨by omega,this.2⟩⟩
  .have e:ph2 (aA l) (k+1)=(fdP (aA l) (ph1 (aA l) (nC (aA l))).2.1 (ph2 (aA l) k).1 (aO (cyP (aA l) aC) k) k,(ph2 (aA l) k).2.set (aM (fdP (aA l) (ph1 (aA l) (nC (aA l))).2.1 (ph2 (aA l) k).1 (aO (cyP (aA l) aC) k) k) k).toNat
     (bl (ph2 (aA l) k).2 (aM (fdP (aA l) (ph1 (aA l) (nC (aA l))).2.1 (ph2 (aA l) k).1 (aO (cyP (aA l) aC) k) k) k).toNat++[aO (cyP (aA l) aC) k])):=by
    show(if _ then _ else _)=_;rw[if_neg ho]
   refine⟨by rw[e];dsimp only;rw[A0];exact I.l1,by rw[e];dsimp only;rw[fA];exact I.l2,by rw[e];exact v1,by rw[e];exact v2,?_⟩;rw[e];intro f hf;dsimp only at hf;rcases Ri hf with hf|rfl
   .have:=I.r f hf;exact⟨by omega,this.2⟩
   .have hv:=v1 k (by omega);have hr:=I.r _ (sz (l:=(ph2 (aA l) k).2) (i:=(aM (fdP (aA l) (ph1 (aA l) (nC (aA l))).2.1 (ph2 (aA l) k).1 (aO (cyP (aA l) aC) k) k) k).toNat) (by rw[I.l2];omega));refine⟨by rw[dh,eD];omega,λc hcm=> ?_⟩;rcases eK.1 hcm with hcm|hcm
    .exact hr.2 c hcm
    .rw[bM.1 hcm];exact hc.1
theorem pG(p:Pl)(o fa:List Int):∀e,(ph3 p o fa e).length=p.es.length
 |0=>rfl
 |e+1=>by unfold ph3;rw[fA,pG p o fa e]
theorem Xv{L:List Ed}{x:Nat}{a b:Int}(h:x<L.length):(L.set x (⟨(aP L x).fr,(aP L x).to,a,(aP L x).rt,(aP L x).src⟩:Ed)).set x (⟨(aP (L.set x (⟨(aP L x).fr,(aP L x).to,a,(aP L x).rt,(aP L x).src⟩:Ed)) x).fr,(aP (L.set x (⟨(aP L x).fr,(aP L x).to,a,(aP L x).rt,(aP L x).src⟩:Ed)) x).to,(aP (L.set x (⟨(aP L x).fr,(aP L x).to,a,(aP L x).rt,(aP L x).src⟩:Ed)) x).lf,b,(aP (L.set x (⟨(aP L x).fr,(aP L x).to,a,(aP L x).rt,(aP L x).src⟩:Ed)) x).src⟩:Ed)=L.set x {aP L x with lf:=a,rt:=b}:=by
 have e:∀v:Ed,aP (L.set x v) x=v:=by intro v;unfold aP;rw[bq,gZ,if_pos rfl,if_pos h];rfl
 rw[e,List.set_set]
theorem A9{l:List aDc}(h:dP l≠0):bN l=⟨[],[],[],[]⟩:=if_neg h
theorem Ga{vs pts:List Pt}{j:Nat}:0<=fm vs pts j↔1<=j:=by
 unfold fm;split
 .rename_i h;exact⟨λ_=>h,λ_=>yd _⟩
 .rename_i h;exact⟨λh2=>by omega,λh2=>absurd h2 h⟩
theorem HI{vs pts:List Pt}{i:Int}{M:MF}{j:Nat}(h:1<=j):eW (dI vs pts i M j) ((fm vs pts j).toNat,ptX (aQ pts j) vs) i=dI vs pts i M (j+1):=by
 have e:(fm vs pts j).toNat=ptX (aQ pts (j-1)) vs:=by unfold fm;rw[if_pos h];rfl
 rw[e];exact(if_pos h).symm
theorem Xc{vs pts:List Pt}{i:Int}{M:MF}{j:Nat}(h:¬1<=j):dI vs pts i M j=dI vs pts i M (j+1):=(if_neg h).symm
theorem Ts{vs pts:List Pt}{j:Nat}:(ptX (aQ pts j) vs:Int)=fm vs pts (j+1):=by unfold fm;rw[if_pos (by omega)];rfl
theorem Yu{l:List aDc}(B:BdOk l):∀v∈vsP l,POk v:=by intro v hv;obtain⟨i,h1,h2⟩:=AX ((fP _ _).mem_iff.1 (vp _ v hv));exact B.raw i h1 v (zo h2)
theorem BV{a n:Nat}(h1:a<=100)(h2:n<=100):a*(3*n+2)<=30200:=by have:a*(3*n+2)<=100*(3*n+2):=Nat.mul_le_mul_right _ h1;omega
theorem Ea{α:Type}:∀{M:List α} {i:Nat} {q:α},M[i]? =some q->(q::M.eraseIdx i).Perm M
 |[],_,_,h=>by simp at h
 |p::M,0,q,h=>by simp at h;subst h;exact uq _
 |p::M,i+1,q,h=>(List.Perm.swap p q _).trans ((Ea (M:=M) (i:=i) (by simpa using h)).cons p)
theorem VM{M:MF}{i:Nat}{q:(Nat×Nat)×List Int}(h:M[i]? =some q)(E:List Ed):(E++[(⟨(q.1.1:Int),(q.1.2:Int),0,0,q.2⟩:Ed)] ++edM (M.eraseIdx i)).Perm (E++edM M):=by have h2:=(Ea h).map λq:(Nat×Nat)×List Int=>(⟨q.1.1,q.1.2,0,0,q.2⟩:Ed);rw[cV]at h2;rw[lj];exact List.Perm.append_left E h2
theorem A2(l:List aDc):(edM (cU l l.length)).length=(esP l).length:=((fP _ _).length_eq).symm
theorem PlOk.fs{p:Pl}(P:PlOk p)(fs:List (List (List Int))):PlOk ⟨p.sg,p.vs,p.es,fs⟩:=⟨P.ls,P.lv,P.le,P.fr,P.src,P.bd,P.pt⟩
theorem LvIn.fs{p:Pl}{L:List (List Int)}(V:LvIn p L)(fs:List (List (List Int))):LvIn ⟨p.sg,p.vs,p.es,fs⟩ L:=⟨V.len,V.row⟩
theorem H3(p:Pl)(fs:List (List (List Int)))(c:List Int):∀k,lowK ⟨p.sg,p.vs,p.es,fs⟩ c k=lowK p c k
 |0=>rfl
 |k+1=>by
  show min (lowK ⟨p.sg,p.vs,p.es,fs⟩ c k) (stP ⟨p.sg,p.vs,p.es,fs⟩ (aM c k))=min (lowK p c k) (stP p (aM c k));rw[H3 p fs c k];rfl
theorem At(p:Pl)(fs:List (List (List Int)))(c:List Int):bv ⟨p.sg,p.vs,p.es,fs⟩ c=bv p c:=H3 p fs c _
theorem ZV(p:Pl)(fs:List (List (List Int)))(c:List Int)(L:List (List Int)):inP ⟨p.sg,p.vs,p.es,fs⟩ c L=inP p c L:=by unfold inP;rw[At];rfl
theorem Jv(p:Pl)(fs:List (List (List Int)))(q:Pt):∀k,bwK ⟨p.sg,p.vs,p.es,fs⟩ q k=bwK p q k
 |0=>rfl
 |k+1=>by
  show bwS q (bwE ⟨p.sg,p.vs,p.es,fs⟩ k) (bwK ⟨p.sg,p.vs,p.es,fs⟩ q k)=bwS q (bwE p k) (bwK p q k);rw[Jv p fs q k];rfl
theorem Zt(p:Pl)(fs:List (List (List Int)))(q:Pt):bwP ⟨p.sg,p.vs,p.es,fs⟩ q=bwP p q:=by unfold bwP;rw[Jv]
theorem Pn(l:List (List (List Int)))(i:Nat):cc l i [] =bl l i:=rfl
structure PlS(p:Pl):Prop where
 ok:PlOk p
 f:PlF p
def PlS.ed{p:Pl}(h:PlS p){e:Ed}(he:e∈p.es):EdIn p e:=by have h1:=h.ok.fr e he;exact⟨⟨h1.1,h1.2.1⟩,⟨h1.2.2.1,h1.2.2.2⟩,(h.ok.src e he).2,(h.f.ed e he).2.2.2.2⟩
def tN{n m:Int}(h:0<=n/\n<m):cY n m=false:=by unfold cY;simp;omega
def J9{l:List Int}{m:Int}(h:∀x∈l,0<=x/\x<m):(l.any λn=>cY n m)=false:=by rw[List.any_eq_false];intro x hx;rw[tN (h x hx)];decide
noncomputable def aAW:Con:=C4 (ac (aL .I) (a1 CY)) (λ(l,_)=>[l.length<=1000000]) (λ(l,c)=> .bool (l.any λn=>cY n c.2.1.sg.length)) (ac (aL .I) (a1 CX)) (λ(l,c)=>[l.length<=1000000,PlOk c.2.1]) (λ(l,c)=> .bool (l.any λn=>cY n (2*(c.2.1.es.length:Int))))
noncomputable def Lm:Tab:=ap [(134,aAW)] NR
def Iy:Lm.Ok aH:=aq Z5 ⟨IW MX aAz,trivial⟩
def Po(p:Pl)(h:Int):Int:=if h.tmod 2=0 then(aP p.es (h.tdiv 2).toNat).lf else(aP p.es (h.tdiv 2).toNat).rt
def gX(p:Pl)(v:V):Int×Int:=
 if bR v 4000=false\/p.fs.length=0 then(0,0)
 else if 0<=fI (λu=>decide (bP v=u)) p.vs then(1,fI (λu=>decide (bP v=u)) p.vs)
 else if 0<=fI (λe=>btP p v e) p.es then(2,fI (λe=>btP p v e) p.es)
 else if bwP p (bP v)<0 then(3,0)
 else(3,Po p (bwP p (bP v)))
def ZC{v:V}(hv:bd 4000 v):QOk (bP v):=by unfold bd at hv;refine⟨⟨Int.le_refl 1,by show(1:Int)<=33000000;omega⟩,?_,?_⟩<;>(show _<=_/\_<=_)<;>(unfold bP;dsimp only;omega)
noncomputable def P6:Con:=con (a1 aPl) (λp=>[PlS p]) (λ_=> .bool true)
def aBG:P6.Ok aH 70:=bA (a7 Iy) (raw:=au) (λp=>[cnt 3 14 p.es.length λ_=>True,cnt 10 69 p.fs.length (λ_=>True) λk=>[cnt 13 76 (bl p.fs k).length λ_=>True]]
  ) (λ_=>⟨_,rfl⟩) λp hp=>aw (q:=(0=(0:Int)/\(0:Nat)<=p.es.length/\True)/\
 (∀x:Nat,x<=p.es.length/\True->((x:Int)<p.es.length->ix (x:Int) p.es.length/\(cY (aP p.es x).fr (p.vs.length:Int)=true->false=true)/\
   (cY (aP p.es x).fr (p.vs.length:Int)=false->(cY (aP p.es x).to (p.vs.length:Int)=true->false=true)/\
    (cY (aP p.es x).to (p.vs.length:Int)=false->(cY (aP p.es x).lf (p.fs.length:Int)=true->false=true)/\
     (cY (aP p.es x).lf (p.fs.length:Int)=false->(cY (aP p.es x).rt (p.fs.length:Int)=true->false=true)/\
      (cY (aP p.es x).rt (p.fs.length:Int)=false->(((aP p.es x).src.length:Int)=0->false=true)/\
       (¬((aP p.es x).src.length:Int)=0->(aP p.es x).src.length<=1000000/\(iu (aP p.es x).src (λn=>cY n (p.sg.length:Int))=true->false=true)/\
        (iu (aP p.es x).src (λn=>cY n (p.sg.length:Int))=false->aG ((x:Int)+1)/\(x:Int)+1=((x+1:Nat):Int)/\x+1<=p.es.length/\True/\p.es.length-(x+1)<p.es.length-x)))))))/\
  (¬(x:Int)<p.es.length->(0=(0:Int)/\(0:Nat)<=p.fs.length/\True)/\
   (∀x_1:Nat,x_1<=p.fs.length/\True->((x_1:Int)<p.fs.length->ix (x_1:Int) p.fs.length/\(0=(0:Int)/\(0:Nat)<=(bl p.fs x_1).length/\True)/\
     (∀x_2:Nat,x_2<=(bl p.fs x_1).length/\True->((x_2:Int)<(bl p.fs x_1).length->ix (x_2:Int) (bl p.fs x_1).length/\(aO (bl p.fs x_1) x_2).length<=1000000/\PlOk p/\(iu (aO (bl p.fs x_1) x_2) (λn=>cY n (2*(p.es.length:Int)))=true->false=true)/\
       (iu (aO (bl p.fs x_1) x_2) (λn=>cY n (2*(p.es.length:Int)))=false->aG ((x_2:Int)+1)/\(x_2:Int)+1=((x_2+1:Nat):Int)/\x_2+1<=(bl p.fs x_1).length/\True/\(bl p.fs x_1).length-(x_2+1)<(bl p.fs x_1).length-x_2))/\
      (¬(x_2:Int)<(bl p.fs x_1).length->aG ((x_1:Int)+1)/\(x_1:Int)+1=((x_1+1:Nat):Int)/\x_1+1<=p.fs.length/\True/\p.fs.length-(x_1+1)<p.fs.length-x_1)))/\
    (¬(x_1:Int)<p.fs.length->true=true))))) (by kernel_rfl) (by
  change PlS p at hp;have h0:=hp.ok;have hl:=h0.le;have hs:=h0.ls;have hf:=hp.f.lf;refine⟨⟨rfl,cO _,trivial⟩,λx hx=>⟨λhlt=> ?_,λhge=>⟨⟨rfl,cO _,trivial⟩,λy hy=>⟨λhlt=>⟨by unfold ix;omega,⟨rfl,cO _,trivial⟩,λz hz=>⟨λhlt2=> ?_,λhge2=>⟨by unfold aG;omega,by omega,by omega,trivial,by omega⟩⟩⟩,λhge2=>rfl⟩⟩⟩⟩
  .have hm:aP p.es x∈p.es:=by rw[show aP p.es x=p.es[x]'(by omega)from cS (by omega)];exact eR _
   have E:=hp.ed hm;have E2:=hp.f.ed _ hm;rw[tN E.fr,tN E.to,tN ⟨E2.1,E2.2.1⟩,tN ⟨E2.2.2.1,E2.2.2.2.1⟩,J9 E.src];have E3:=(h0.src _ hm).1;exact⟨by unfold ix;omega,λh=>h,λ_=>⟨λh=>h,λ_=>⟨λh=>h,λ_=>⟨λh=>h,λ_=>⟨λh=>by omega,λ_=>⟨E.len,λh=>h,λ_=>⟨by unfold aG;omega,by omega,by omega,trivial,by omega⟩⟩⟩⟩⟩⟩⟩
  .have hm:bl p.fs y∈p.fs:=by rw[show bl p.fs y=p.fs[y]'(by omega)from cS (by omega)];exact eR _
   have F:=hp.f.fc _ hm;have hm2:aO (bl p.fs y) z∈bl p.fs y:=by rw[show aO (bl p.fs y) z=(bl p.fs y)[z]'(by omega)from cS (by omega)];exact eR _
   have F2:=F.2 _ hm2;rw[J9 F2.2];exact⟨by unfold ix;omega,F2.1,h0,λh=>h,λ_=>⟨by unfold aG;omega,by omega,by omega,trivial,by omega⟩⟩)
noncomputable def Nk:Tab:=ap [(70,P6)] Lm
def KQ:Nk.Ok aH:=aq Iy ⟨aBG,trivial⟩
noncomputable def QL:Con:=con (ac aPl (a1 aV)) (λ(p,_)=>[PlS p]) (λ(p,v)=> .tup [.int .i64 (gX p v).1,.int .i64 (gX p v).2]
 )
def aBS:QL.Ok aH 22:=bA (a7 KQ) (raw:=au) (λ(_,_)=>[]) (λ(_,_)=>⟨_,rfl⟩) λ(p,v) hp=>aw (q:=(0:Int)<=4000/\(4000:Int)<=9000000000000000000/\((!bR v 4000)=true->0=(gX p v).1/\0=(gX p v).2)/\
 ((!bR v 4000)=false->PlS p/\((!true)=true->0=(gX p v).1/\0=(gX p v).2)/\
  ((!true)=false->((p.fs.length:Int)=0->0=(gX p v).1/\0=(gX p v).2)/\
   (¬(p.fs.length:Int)=0->p.vs.length<=1000000/\(0<=fI (λu=>decide ((bP v)=u)) p.vs->1=(gX p v).1/\fI (λu=>decide ((bP v)=u)) p.vs=(gX p v).2)/\
    (¬0<=fI (λu=>decide ((bP v)=u)) p.vs->p.es.length<=1000000/\PlOk p/\(∀e:Ed,e∈p.es->EdIn p e)/\bd 4000 v/\(0<=fI (λe=>btP p v e) p.es->2=(gX p v).1/\fI (λe=>btP p v e) p.es=(gX p v).2)/\
     (¬0<=fI (λe=>btP p v e) p.es->PlOk p/\QOk (bP v)/\(bwP p (bP v)<0->3=(gX p v).1/\0=(gX p v).2)/\
      (¬bwP p (bP v)<0->(2:Int)≠0/\(dr (bwP p (bP v)) 2=0->(2:Int)≠0/\aG (bz (bwP p (bP v)) 2)/\ix (bz (bwP p (bP v)) 2) p.es.length/\3=(gX p v).1/\(aP p.es (bz (bwP p (bP v)) 2).toNat).lf=(gX p v).2)/\
       (¬dr (bwP p (bP v)) 2=0->(2:Int)≠0/\aG (bz (bwP p (bP v)) 2)/\ix (bz (bwP p (bP v)) 2) p.es.length/\3=(gX p v).1/\(aP p.es (bz (bwP p (bP v)) 2).toNat).rt=(gX p v).2)))))))) (by kernel_rfl) (by
  change PlS p at hp;have h0:=hp.ok;have hl:=h0.le;have hlv:=h0.lv;have hf:=hp.f.lf;unfold gX;refine⟨by decide,by decide,λhw=> ?_,λhw=>c6 hp (c6 (λh=>nomatch h) (λ_=>c6 (λhz=> ?_) (λhz=> ?_)))⟩
  .have hw:bR v 4000=false:=by simpa using hw
   rw[if_pos (.inl hw)];exact⟨rfl,rfl⟩
  .rw[if_pos (.inr (by omega))];exact⟨rfl,rfl⟩
  .have hw:bR v 4000=true:=by simpa using hw
   have hv:bd 4000 v:=uV hw;have hq:=ZC hv
   rw[if_neg (by rw[hw];intro h;rcases h with h|h; · cases h
                 .omega)]
   refine⟨by omega,λh1=>by rw[if_pos h1];exact⟨rfl,rfl⟩,λh1=>⟨by omega,h0,λe he=>hp.ed he,hv,λh2=>by rw[if_neg h1,if_pos h2];exact⟨rfl,rfl⟩,λh2=>⟨h0,hq,λh3=>by rw[if_neg h1,if_neg h2,if_pos h3];exact⟨rfl,rfl⟩,λh3=> ?_⟩⟩⟩;have H:=Jr (p:=p) (q:=bP v) (by omega);have He:=H.e;rw[if_neg h1,if_neg h2,if_neg h3];unfold Po;refine⟨by decide,λh4=> ?_,λh4=> ?_⟩
   .rw[if_pos h4];exact⟨by decide,by unfold aG;omega,by unfold ix;omega,rfl,rfl⟩
   .rw[if_neg h4];exact⟨by decide,by unfold aG;omega,by unfold ix;omega,rfl,rfl⟩)
noncomputable def OG:Tab:=ap [(22,QL)] Nk
def Ke:OG.Ok aH:=aq KQ ⟨aBS,trivial⟩
noncomputable section
def aAP(N:Nat)(a b a' b':Int)(w:World):Sem.run aH (Op.equalIn (N+1+1) 71 (.agg #[.int .i64 a,.int .i64 b]) (.agg #[.int .i64 a',.int .i64 b'])) w= .ok (a==a'&&b==b') w:=by
 have hS:aH.underlying 71=some (.struct (aH.fieldsOf 71)):=by kernel_rfl
 have hp:aH.stoodInHeld 71=false:=by kernel_rfl
 rw[run_equalIn_agg w (N+1) 71 _ _ hS hp];simp only[Program.fieldsOf,Tryz.underlying71]
 go_simp
 grind
def Wy:pZ aH 71 2:=by
 intro xs ys x y w hx hy;match xs,ys,hx,hy with
 |[a,b],[a',b'],_,_=>
  have h1:=aAP 9998 a b a' b' w;have e:(([a,b] :List Int)==[a',b'])=(a==a'&&b==b'):=by rw[Bool.eq_iff_iff];simp
  refine⟨?_,?_⟩
  .simp only[eqGuard,bo];simp[Result.andThen];rw[run_eql_struct,h1];simp_all
  .unfold bne;rw[e];simp[eqGuard];rw[run_neq_struct,h1];simp_all
def cxW(T:Tab):Cx:=⟨aH,T,ltL [(53,.V),(57,.S),(64,.R),(3,.I),(2,.I),(1,.I),(4,.B),(60,.T),(25,.U),(45,.E),(49,.F),(43,.Q),(71,.V),(77,.E),(114,.F)],[(53,2),(57,4),(60,3),(71,2)],λ_=>false,λ_=>false⟩
def aAV(T:Tab):(cxW T).q.Ok aH:=λt m hm=>by
 rcases bh.1 hm with h|hm
 .cases h;exact Gs
 rcases bh.1 hm with h|hm
 .cases h;exact Gr
 rcases bh.1 hm with h|h
 .cases h;exact Gq
 .rw[bM]at h;cases h;exact Wy
def lI{T:Tab}(h:T.Ok aH):(cxW T).Ok:=⟨h,aAV T,λt ht=>by cases ht⟩
end
def jZ(p:Pl)(h:Int):Int×Int:=if h.tmod 2=0 then((aP p.es (h.tdiv 2).toNat).fr,(aP p.es (h.tdiv 2).toNat).to)else((aP p.es (h.tdiv 2).toNat).to,(aP p.es (h.tdiv 2).toNat).fr)
noncomputable def RD:Con:=con (a1 (aL .S)) (λ_=>[]) (λl=> .bool (decide (l.length<=24))
 )
def aCK:RD.Ok aH 12:=bA (lI Ke) (raw:=au) (λ_=>[]) (λ_=>⟨_,rfl⟩) λl _=>aw (q:=decide ((l.length:Int)<=24)=decide (l.length<=24)) (by kernel_rfl) (by
 by_cases h:l.length<=24
 .rw[decide_eq_true h,decide_eq_true (by omega)]
 .rw[decide_eq_false h,decide_eq_false (by omega)])
noncomputable def PD:Tab:=ap [(12,RD)] OG
def Lq:PD.Ok aH:=aq Ke ⟨aCK,trivial⟩
noncomputable def P7:Con:=con (ac aPl (a1 aI)) (λ(p,h)=>[HIn p h,p.es.length<=1000000]) (λ(p,h)=> .tup [.int .i64 (jZ p h).1,.int .i64 (jZ p h).2]
 )
def aBH:P7.Ok aH 67:=bA (lI Lq) (raw:=au) (λ(_,_)=>[]) (λ(_,_)=>⟨_,rfl⟩) λ(p,h) hp=>aw (q:=(2:Int)≠0/\aG (bz h 2)/\ix (bz h 2) p.es.length/\(2:Int)≠0/\(dr h 2=0->(aP p.es (bz h 2).toNat).fr=(jZ p h).1/\(aP p.es (bz h 2).toNat).to=(jZ p h).2)/\
 (¬dr h 2=0->(aP p.es (bz h 2).toNat).to=(jZ p h).1/\(aP p.es (bz h 2).toNat).fr=(jZ p h).2)) (by kernel_rfl) (by
  change HIn p h/\p.es.length<=1000000 at hp;obtain⟨H,hl⟩:=hp;have He:=H.e;unfold jZ;refine⟨by decide,by unfold aG;omega,by unfold ix;omega,by decide,λh1=> ?_,λh1=> ?_⟩
  .rw[if_pos h1];exact⟨rfl,rfl⟩
  .rw[if_neg h1];exact⟨rfl,rfl⟩)
noncomputable def Nm:Tab:=ap [(67,P7)] PD
def KR:Nm.Ok aH:=aq Lq ⟨aBH,trivial⟩
noncomputable def QZ:Con:=con (ac aPl (a1 aI)) (λ(p,h)=>[HIn p h,p.es.length<=1000000]) (λ(p,h)=> .tup [.int .i64 (jZ p h).1,.int .i64 (jZ p h).2]
 )
def aB6:QZ.Ok aH 19:=bA (lI KR) (raw:=au) (λ(_,_)=>[]) (λ(_,_)=>⟨_,rfl⟩) λ(p,h) hp=>aw (q:=HIn p h/\p.es.length<=1000000/\(jZ p h).1=(jZ p h).1/\(jZ p h).2=(jZ p h).2) (by kernel_rfl) (by change HIn p h/\p.es.length<=1000000 at hp;exact⟨hp.1,hp.2,rfl,rfl⟩)
noncomputable def OV:Tab:=ap [(19,QZ)] Nm
def Kw:OV.Ok aH:=aq KR ⟨aB6,trivial⟩
noncomputable def Ql:Con:=con (a1 aPl) (λp=>[p.es.length<=1000000,p.fs.length<=1000000]) (λp=> .agg [.lst .S p.sg,.lst .T p.vs,.lst .E p.es,.lst .F p.fs])
def aCi:Ql.Ok aH 16:=bA (lI Kw) (raw:=au) (λp=>[lp 3 16 p.es.length (λ_=>[]) [901] (λ_=>[]) (λk=>[(7,.box 36 [.lst .S p.sg,.lst .T p.vs,.own 901 .E (p.es.take k).length,.nil]),(901,.row 77 .E (p.es.take k))]),
  lp 8 30 p.fs.length (λ_=>[]) [990] (λ_=>[]) (λk=>[(7,.box 36 [.lst .S p.sg,.lst .T p.vs,.own 901 .E p.es.length,.own 990 .F (p.fs.take k).length]),(990,.row 114 .F (p.fs.take k))])]
  ) (λ_=>⟨_,rfl⟩) λp hp=>aw (q:=(0=(0:Int)/\p.sg=p.sg/\p.vs=p.vs/\(ai 0 p.es).length=0/\ai 0 p.es=([] :List Ed)/\(0:Nat)<=p.es.length)/\
 (∀x:Nat,x<=p.es.length->((x:Int)<p.es.length->ix (x:Int) p.es.length/\(ai x p.es).length=(ai x p.es).length/\(ai x p.es).length+[(aP p.es x)].length<=1000000/\aG ((x:Int)+1)/\(x:Int)+1=((x+1:Nat):Int)/\p.sg=p.sg/\p.vs=p.vs/\(ai x p.es++[(aP p.es x)]).length=(ai (x+1) p.es).length/\ai x p.es++[(aP p.es x)] =ai (x+1) p.es/\x+1<=p.es.length/\p.es.length-(x+1)<p.es.length-x)/\
  (¬(x:Int)<p.es.length->(0=(0:Int)/\p.sg=p.sg/\p.vs=p.vs/\(ai x p.es).length=p.es.length/\(ai 0 p.fs).length=0/\ai 0 p.fs=([] :List (List (List Int)))/\(0:Nat)<=p.fs.length)/\
   (∀x_1:Nat,x_1<=p.fs.length->((x_1:Int)<p.fs.length->ix (x_1:Int) p.fs.length/\(ai x_1 p.fs).length=(ai x_1 p.fs).length/\(ai x_1 p.fs).length+[bl p.fs x_1].length<=1000000/\aG ((x_1:Int)+1)/\(x_1:Int)+1=((x_1+1:Nat):Int)/\p.sg=p.sg/\p.vs=p.vs/\p.es.length=p.es.length/\(ai x_1 p.fs++[bl p.fs x_1]).length=(ai (x_1+1) p.fs).length/\ai x_1 p.fs++[bl p.fs x_1] =ai (x_1+1) p.fs/\x_1+1<=p.fs.length/\p.fs.length-(x_1+1)<p.fs.length-x_1)/\
    (¬(x_1:Int)<p.fs.length->p.es.length=(ai x p.es).length/\(ai x_1 p.fs).length=(ai x_1 p.fs).length/\p.sg=p.sg/\p.vs=p.vs/\ai x p.es=p.es/\ai x_1 p.fs=p.fs))))) (by kernel_rfl) (by
  change p.es.length<=1000000/\p.fs.length<=1000000 at hp;obtain⟨hl,hf⟩:=hp;have te:∀{x},x<p.es.length->p.es.take x++[aP p.es x] =p.es.take (x+1):=λ{x} hx=>by rw[show aP p.es x=p.es[x]from cS hx,ye hx]
  have tf:∀{x},x<p.fs.length->p.fs.take x++[bl p.fs x] =p.fs.take (x+1):=λ{x} hx=>by rw[show bl p.fs x=p.fs[x]from cS hx,ye hx]
  refine⟨⟨rfl,rfl,rfl,rfl,rfl,cO _⟩,λx hx=>⟨λh=> ?_,λh=>⟨⟨rfl,rfl,rfl,?_,rfl,rfl,cO _⟩,λy hy=>⟨λh2=> ?_,λh2=> ?_⟩⟩⟩⟩
  .have e:=te (x:=x) (by omega);have e2:(p.es.take x).length=x:=by rw[ew];omega
   exact⟨by unfold ix;omega,rfl,by rw[e2,eD];omega,by unfold aG;omega,by omega,rfl,rfl,by rw[e],e,by omega,by omega⟩
  .rw[ew];omega
  .have e:=tf (x:=y) (by omega);have e2:(p.fs.take y).length=y:=by rw[ew];omega
   exact⟨by unfold ix;omega,rfl,by rw[e2,eD];omega,by unfold aG;omega,by omega,rfl,rfl,rfl,by rw[e],e,by omega,by omega⟩
  .obtain rfl:x=p.es.length:=by omega
   obtain rfl:y=p.fs.length:=by omega
   rw[jg,jg];exact⟨rfl,rfl,rfl,rfl,rfl,rfl⟩)
noncomputable def Oi:Tab:=ap [(16,Ql)] OV
def LG:Oi.Ok aH:=aq Kw ⟨aCi,trivial⟩
def pN{t:LT}{a b:List t.ty}(hl:a.length=b.length)(h:af (λj=>t.nth a j=t.nth b j) a.length):a=b:=by apply List.ext_getElem hl;intro i h1 h2;rw[<-t.nth_eq a h1,<-t.nth_eq b h2];exact h i h1
def JU{t:LT}{a b:List t.ty}{x:Nat}(h:¬t.nth a x=t.nth b x):¬a=b:=λe=>h (by rw[e])
structure PlL(p:Pl):Prop where
 vs:p.vs.length<=1000000
 es:p.es.length<=1000000
 sr:∀e∈p.es,e.src.length<=1000000
 fs:p.fs.length<=1000000
 fc:∀f∈p.fs,f.length<=1000000/\∀c∈f,c.length<=1000000
def aFa:Ar (List (List Int)) where
 enc f:= .agg [.lst .Q f]
 dec s:=match s with
  | .agg [a] =>iR .Q a
  |_=>none
 ok s a h:=by
  split at h
  .have:=i7 h;simp only[SV.av,avs,this]
  .cases h
 pl _:=⟨_,rfl⟩
noncomputable def P9:Con:=con (ac (aL .I) (a1 (aL .I))) (λ(a,_)=>[a.length<=1000000]) (λ(a,b)=> .bool (decide (a=b)))
def aBJ:P9.Ok aH 58:=bA (lI LG) (raw:=au) (λ(a,b)=>[cnt 4 5 a.length (af λj=>aM a j=aM b j)]
  ) (λ(_,_)=>⟨_,rfl⟩) λ(a,b) hp=>aw (q:=(¬(a.length:Int)=b.length->false=decide (a=b))/\
 (¬(¬(a.length:Int)=b.length)->(0=(0:Int)/\(0:Nat)<=a.length/\af (λj=>aM a j=aM b j) 0)/\
  (∀x:Nat,x<=a.length/\af (λj=>aM a j=aM b j) x->((x:Int)<a.length->ix (x:Int) a.length/\ix (x:Int) b.length/\(¬aM a x=aM b x->false=decide (a=b))/\
    (¬(¬aM a x=aM b x)->aG ((x:Int)+1)/\(x:Int)+1=((x+1:Nat):Int)/\x+1<=a.length/\af (λj=>aM a j=aM b j) (x+1)/\a.length-(x+1)<a.length-x))/\
   (¬(x:Int)<a.length->true=decide (a=b))))) (by kernel_rfl) (by
  change a.length<=1000000 at hp;refine⟨λh=>(decide_eq_false λe=>h (by rw[e])).symm,λhl=>⟨⟨rfl,cO _,d8 _⟩,λx hx=>⟨λhlt=>⟨by unfold ix;omega,by unfold ix;omega,λh=>(decide_eq_false (JU (t:= .I) h)).symm,λh=>⟨by unfold aG;omega,by omega,by omega,b8 hx.2 (mr.1 h),by omega⟩⟩,λhge=> ?_⟩⟩⟩;obtain rfl:x=a.length:=by omega
  exact(decide_eq_true (pN (t:= .I) (by omega) hx.2)).symm)
noncomputable def Np:Tab:=ap [(58,P9)] Oi
def KT:Np.Ok aH:=aq LG ⟨aBJ,trivial⟩
noncomputable def P8:Con:=con (ac aFa (a1 aFa)) (λ(a,_)=>[a.length<=1000000,(∀c∈a,c.length<=1000000)]) (λ(a,b)=> .bool (decide (a=b)))
def aBI:P8.Ok aH 59:=bA (lI KT) (raw:=au) (λ(a,b)=>[cnt 4 5 a.length (af λj=>aO a j=aO b j)]
  ) (λ(_,_)=>⟨_,rfl⟩) λ(a,b) hp=>aw (q:=(¬(a.length:Int)=b.length->false=decide (a=b))/\
 (¬(¬(a.length:Int)=b.length)->(0=(0:Int)/\(0:Nat)<=a.length/\af (λj=>aO a j=aO b j) 0)/\
  (∀x:Nat,x<=a.length/\af (λj=>aO a j=aO b j) x->((x:Int)<a.length->ix (x:Int) a.length/\ix (x:Int) b.length/\(aO a x).length<=1000000/\((!decide (aO a x=aO b x))=true->false=decide (a=b))/\
    ((!decide (aO a x=aO b x))=false->aG ((x:Int)+1)/\(x:Int)+1=((x+1:Nat):Int)/\x+1<=a.length/\af (λj=>aO a j=aO b j) (x+1)/\a.length-(x+1)<a.length-x))/\
   (¬(x:Int)<a.length->true=decide (a=b))))) (by kernel_rfl) (by
  change a.length<=1000000/\((∀c∈a,c.length<=1000000))at hp;obtain⟨h1,h2⟩:=hp;refine⟨λh=>(decide_eq_false λe=>h (by rw[e])).symm,λhl=>⟨⟨rfl,cO _,d8 _⟩,λx hx=>⟨λhlt=>⟨by unfold ix;omega,by unfold ix;omega,h2 _ (kK (by omega)),λh=>(decide_eq_false (JU (t:= .Q) (show¬aO a x=aO b x by simpa using h))).symm,λh=>⟨by unfold aG;omega,by omega,by omega,b8 hx.2 (by simpa using h),by omega⟩⟩,λhge=> ?_⟩⟩⟩;obtain rfl:x=a.length:=by omega
  exact(decide_eq_true (pN (t:= .Q) (by omega) hx.2)).symm)
noncomputable def No:Tab:=ap [(59,P8)] Np
def KS:No.Ok aH:=aq KT ⟨aBI,trivial⟩
noncomputable def Qs:Con:=con (ac aPl (a1 aPl)) (λ(p,_)=>[p.sg.length<=1000000,PlL p]) (λ(p,q)=> .bool (decide (p=q)))
def aCq:Qs.Ok aH 15:=bA (lI KS) (raw:=au) (λ(p,q)=>[cnt 4 5 p.sg.length (af λj=>aK p.sg j=aK q.sg j),cnt 9 6 p.vs.length (af λj=>aQ p.vs j=aQ q.vs j),cnt 14 7 p.es.length (af λj=>aP p.es j=aP q.es j),cnt 20 10 p.fs.length (af λj=>bl p.fs j=bl q.fs j)]
  ) (λ(_,_)=>⟨_,rfl⟩) λ(p,q) hp=>aw (q:=(¬(p.sg.length:Int)=q.sg.length->false=decide (p=q))/\
 (¬(¬(p.sg.length:Int)=q.sg.length)->(¬(p.vs.length:Int)=q.vs.length->false=decide (p=q))/\
  (¬(¬(p.vs.length:Int)=q.vs.length)->(¬(p.es.length:Int)=q.es.length->false=decide (p=q))/\
   (¬(¬(p.es.length:Int)=q.es.length)->(¬(p.fs.length:Int)=q.fs.length->false=decide (p=q))/\
    (¬(¬(p.fs.length:Int)=q.fs.length)->(0=(0:Int)/\(0:Nat)<=p.sg.length/\af (λj=>aK p.sg j=aK q.sg j) 0)/\
     (∀x:Nat,x<=p.sg.length/\af (λj=>aK p.sg j=aK q.sg j) x->((x:Int)<p.sg.length->ix (x:Int) p.sg.length/\ix (x:Int) q.sg.length/\(¬(aK p.sg x)=(aK q.sg x)->false=decide (p=q))/\
       (¬(¬(aK p.sg x)=(aK q.sg x))->aG ((x:Int)+1)/\(x:Int)+1=((x+1:Nat):Int)/\x+1<=p.sg.length/\af (λj=>aK p.sg j=aK q.sg j) (x+1)/\p.sg.length-(x+1)<p.sg.length-x))/\
      (¬(x:Int)<p.sg.length->(0=(0:Int)/\(0:Nat)<=p.vs.length/\af (λj=>aQ p.vs j=aQ q.vs j) 0)/\
       (∀x_1:Nat,x_1<=p.vs.length/\af (λj=>aQ p.vs j=aQ q.vs j) x_1->((x_1:Int)<p.vs.length->ix (x_1:Int) p.vs.length/\ix (x_1:Int) q.vs.length/\(¬[(aQ p.vs x_1).x,(aQ p.vs x_1).y,(aQ p.vs x_1).den] =[(aQ q.vs x_1).x,(aQ q.vs x_1).y,(aQ q.vs x_1).den]->false=decide (p=q))/\
         (¬(¬[(aQ p.vs x_1).x,(aQ p.vs x_1).y,(aQ p.vs x_1).den] =[(aQ q.vs x_1).x,(aQ q.vs x_1).y,(aQ q.vs x_1).den])->aG ((x_1:Int)+1)/\(x_1:Int)+1=((x_1+1:Nat):Int)/\x_1+1<=p.vs.length/\af (λj=>aQ p.vs j=aQ q.vs j) (x_1+1)/\p.vs.length-(x_1+1)<p.vs.length-x_1))/\
        (¬(x_1:Int)<p.vs.length->(0=(0:Int)/\(0:Nat)<=p.es.length/\af (λj=>aP p.es j=aP q.es j) 0)/\
         (∀x_2:Nat,x_2<=p.es.length/\af (λj=>aP p.es j=aP q.es j) x_2->((x_2:Int)<p.es.length->ix (x_2:Int) p.es.length/\ix (x_2:Int) q.es.length/\(¬(aP p.es x_2).fr=(aP q.es x_2).fr->false=decide (p=q))/\
           (¬(¬(aP p.es x_2).fr=(aP q.es x_2).fr)->(¬(aP p.es x_2).to=(aP q.es x_2).to->false=decide (p=q))/\
            (¬(¬(aP p.es x_2).to=(aP q.es x_2).to)->(¬(aP p.es x_2).lf=(aP q.es x_2).lf->false=decide (p=q))/\
             (¬(¬(aP p.es x_2).lf=(aP q.es x_2).lf)->(¬(aP p.es x_2).rt=(aP q.es x_2).rt->false=decide (p=q))/\
              (¬(¬(aP p.es x_2).rt=(aP q.es x_2).rt)->(aP p.es x_2).src.length<=1000000/\((!decide ((aP p.es x_2).src=(aP q.es x_2).src))=true->false=decide (p=q))/\
               ((!decide ((aP p.es x_2).src=(aP q.es x_2).src))=false->aG ((x_2:Int)+1)/\(x_2:Int)+1=((x_2+1:Nat):Int)/\x_2+1<=p.es.length/\af (λj=>aP p.es j=aP q.es j) (x_2+1)/\p.es.length-(x_2+1)<p.es.length-x_2))))))/\
          (¬(x_2:Int)<p.es.length->(0=(0:Int)/\(0:Nat)<=p.fs.length/\af (λj=>bl p.fs j=bl q.fs j) 0)/\
           (∀x_3:Nat,x_3<=p.fs.length/\af (λj=>bl p.fs j=bl q.fs j) x_3->((x_3:Int)<p.fs.length->ix (x_3:Int) p.fs.length/\ix (x_3:Int) q.fs.length/\(bl p.fs x_3).length<=1000000/\(∀c:List Int,c∈bl p.fs x_3->c.length<=1000000)/\((!decide (bl p.fs x_3=bl q.fs x_3))=true->false=decide (p=q))/\
             ((!decide (bl p.fs x_3=bl q.fs x_3))=false->aG ((x_3:Int)+1)/\(x_3:Int)+1=((x_3+1:Nat):Int)/\x_3+1<=p.fs.length/\af (λj=>bl p.fs j=bl q.fs j) (x_3+1)/\p.fs.length-(x_3+1)<p.fs.length-x_3))/\
            (¬(x_3:Int)<p.fs.length->true=decide (p=q)))))))))))))) (by kernel_rfl) (by
  change p.sg.length<=1000000/\PlL p at hp;obtain⟨h1,L⟩:=hp;have g1:=L.vs;have g2:=L.es;have g3:=L.fs;have no:¬p=q->false=decide (p=q):=λh=>(decide_eq_false h).symm;have el:∀p q:Pt,[p.x,p.y,p.den] =[q.x,q.y,q.den]->p=q:=by intro p q h;cases p;cases q;simpa using h
  refine⟨λh=>no λe=>h (by rw[e]),λl1=>⟨λh=>no λe=>h (by rw[e]),λl2=>⟨λh=>no λe=>h (by rw[e]),λl3=>⟨λh=>no λe=>h (by rw[e]),λl4=>⟨⟨rfl,cO _,d8 _⟩,λx hx=>⟨λhlt=>⟨by unfold ix;omega,by unfold ix;omega,λh=>no λe=>h (by rw[e]),λh=>⟨by unfold aG;omega,by omega,by omega,b8 hx.2 (mr.1 h),by omega⟩⟩,λhge=>⟨⟨rfl,cO _,d8 _⟩,λy hy=>⟨λhlt=>⟨by unfold ix;omega,by unfold ix;omega,λh=>no λe=>h (by rw[e]),λh=>⟨by unfold aG;omega,by omega,by omega,b8 hy.2 (el _ _ (mr.1 h)),by omega⟩⟩,λhge2=>⟨⟨rfl,cO _,d8 _⟩,λz hz=>⟨λhlt=>⟨by unfold ix;omega,by unfold ix;omega,λh=>no λe=>h (by rw[e]),λk1=>⟨λh=>no λe=>h (by rw[e]),λk2=>⟨λh=>no λe=>h (by rw[e]),λk3=>⟨λh=>no λe=>h (by rw[e]),λk4=>⟨L.sr _ (l0 (by omega)),λh=>no λe=> ?_,λh=>⟨by unfold aG;omega,by omega,by omega,b8 hz.2 ?_,by omega⟩⟩⟩⟩⟩⟩,λhge3=>⟨⟨rfl,cO _,d8 _⟩,λw hw=>⟨λhlt=>⟨by unfold ix;omega,by unfold ix;omega,(L.fc _ (sz (by omega))).1,(L.fc _ (sz (by omega))).2,λh=>no λe=> ?_,λh=>⟨by unfold aG;omega,by omega,by omega,b8 hw.2 (by simpa using h),by omega⟩⟩,λhge4=> ?_⟩⟩⟩⟩⟩⟩⟩⟩⟩⟩⟩⟩
  .rw[e]at h;simp at h
  .have h:=of_decide_eq_true (show decide ((aP p.es z).src=(aP q.es z).src)=true by simpa using h);show aP p.es z=aP q.es z;generalize aP p.es z=a at*;generalize aP q.es z=b at*;cases a;cases b;simp only at*;simp[mr.1 k1,mr.1 k2,mr.1 k3,mr.1 k4,h]
  .rw[e]at h;simp at h
  .obtain rfl:x=p.sg.length:=by omega
   obtain rfl:y=p.vs.length:=by omega
   obtain rfl:z=p.es.length:=by omega
   obtain rfl:w=p.fs.length:=by omega
   refine(decide_eq_true ?_).symm;have e1:=pN (t:= .S) (by omega) hx.2;have e2:=pN (t:= .T) (by omega) hy.2;have e3:=pN (t:= .E) (by omega) hz.2;have e4:=pN (t:= .F) (by omega) hw.2;cases p;cases q;simp only at*;rw[e1,e2,e3,e4])
noncomputable def Ou:Tab:=ap [(15,Qs)] No
def LO:Ou.Ok aH:=aq KS ⟨aCq,trivial⟩
noncomputable def Qk:Con:=Pr (a1 aPl) (λp=>[p.es.length<=1000000,p.fs.length<=1000000]) (λp=> .agg [.lst .S p.sg,.lst .T p.vs,.own 901 .E p.es.length,.own 990 .F p.fs.length]) (λp=>[(901,some (.row 77 .E p.es)),(990,some (.row 114 .F p.fs))])
def aCh:Qk.Ok aH 16:=Yc (lI LO) (st:=true) (raw:=au) (λp=>[lp 3 16 p.es.length (λ_=>[]) [901] (λ_=>[]) (λk=>[(8,.box 36 [.lst .S p.sg,.lst .T p.vs,.own 901 .E (p.es.take k).length,.nil]),(901,.row 77 .E (p.es.take k))]),
  lp 8 30 p.fs.length (λ_=>[]) [990] (λ_=>[]) (λk=>[(8,.box 36 [.lst .S p.sg,.lst .T p.vs,.own 901 .E p.es.length,.own 990 .F (p.fs.take k).length]),(990,.row 114 .F (p.fs.take k))])]
  ) λp hp=>aw (q:=(0=(0:Int)/\p.sg=p.sg/\p.vs=p.vs/\(ai 0 p.es).length=0/\ai 0 p.es=([] :List Ed)/\(0:Nat)<=p.es.length)/\
 (∀x:Nat,x<=p.es.length->((x:Int)<p.es.length->ix (x:Int) p.es.length/\(ai x p.es).length=(ai x p.es).length/\(ai x p.es).length+[(aP p.es x)].length<=1000000/\aG ((x:Int)+1)/\(x:Int)+1=((x+1:Nat):Int)/\p.sg=p.sg/\p.vs=p.vs/\(ai x p.es++[(aP p.es x)]).length=(ai (x+1) p.es).length/\ai x p.es++[(aP p.es x)] =ai (x+1) p.es/\x+1<=p.es.length/\p.es.length-(x+1)<p.es.length-x)/\
  (¬(x:Int)<p.es.length->(0=(0:Int)/\p.sg=p.sg/\p.vs=p.vs/\(ai x p.es).length=p.es.length/\(ai 0 p.fs).length=0/\ai 0 p.fs=([] :List (List (List Int)))/\(0:Nat)<=p.fs.length)/\
   (∀x_1:Nat,x_1<=p.fs.length->((x_1:Int)<p.fs.length->ix (x_1:Int) p.fs.length/\(ai x_1 p.fs).length=(ai x_1 p.fs).length/\(ai x_1 p.fs).length+[bl p.fs x_1].length<=1000000/\aG ((x_1:Int)+1)/\(x_1:Int)+1=((x_1+1:Nat):Int)/\p.sg=p.sg/\p.vs=p.vs/\p.es.length=p.es.length/\(ai x_1 p.fs++[bl p.fs x_1]).length=(ai (x_1+1) p.fs).length/\ai x_1 p.fs++[bl p.fs x_1] =ai (x_1+1) p.fs/\x_1+1<=p.fs.length/\p.fs.length-(x_1+1)<p.fs.length-x_1)/\
    (¬(x_1:Int)<p.fs.length->p.sg=p.sg/\p.vs=p.vs/\p.es.length=p.es.length/\(ai x_1 p.fs).length=p.fs.length/\ai x p.es=p.es/\ai x_1 p.fs=p.fs))))) (by kernel_rfl) (by
  change p.es.length<=1000000/\p.fs.length<=1000000 at hp;obtain⟨hl,hf⟩:=hp;have te:∀{x},x<p.es.length->p.es.take x++[aP p.es x] =p.es.take (x+1):=λ{x} hx=>by rw[show aP p.es x=p.es[x]from cS hx,ye hx]
  have tf:∀{x},x<p.fs.length->p.fs.take x++[bl p.fs x] =p.fs.take (x+1):=λ{x} hx=>by rw[show bl p.fs x=p.fs[x]from cS hx,ye hx]
  refine⟨⟨rfl,rfl,rfl,rfl,rfl,cO _⟩,λx hx=>⟨λh=> ?_,λh=>⟨⟨rfl,rfl,rfl,?_,rfl,rfl,cO _⟩,λy hy=>⟨λh2=> ?_,λh2=> ?_⟩⟩⟩⟩
  .have e:=te (x:=x) (by omega);have e2:(p.es.take x).length=x:=by rw[ew];omega
   exact⟨by unfold ix;omega,rfl,by rw[e2,eD];omega,by unfold aG;omega,by omega,rfl,rfl,by rw[e],e,by omega,by omega⟩
  .rw[ew];omega
  .have e:=tf (x:=y) (by omega);have e2:(p.fs.take y).length=y:=by rw[ew];omega
   exact⟨by unfold ix;omega,rfl,by rw[e2,eD];omega,by unfold aG;omega,by omega,rfl,rfl,rfl,by rw[e],e,by omega,by omega⟩
  .obtain rfl:x=p.es.length:=by omega
   obtain rfl:y=p.fs.length:=by omega
   rw[jg,jg];exact⟨rfl,rfl,rfl,rfl,rfl,rfl⟩)
noncomputable def Oh:Tab:=ap [(16,Qk)] Ou
def aAa:Oh.Ok aH:=aq LO ⟨aCh,trivial⟩
noncomputable section
set_option warn.classDefReducibility false
class Chk (l:List Prop) where
 b:Bool
 h:b=true->∀p∈l,p
instance:Chk [] :=⟨true,λ_ _ h=>(dg h).elim⟩
instance chkCons(p:Prop)(l:List Prop) [d:Decidable p] [c:Chk l] :Chk (p::l):=⟨(match d with| .isTrue _=>c.b| .isFalse _=>false),λh q hq=>by
 split at h
 .rcases bh.1 hq with rfl|hq
  .assumption
  .exact c.h h q hq
 .cases h⟩
instance chkApp(a b:List Prop) [c:Chk a] [d:Chk b] :Chk (a++b):=⟨(match c.b with|true=>d.b|false=>false),λh q hq=>by
 split at h
 .rcases eK.1 hq with hq|hq
  .exact c.h (by assumption) q hq
  .exact d.h h q hq
 .cases h⟩
def MQ(l:List Prop):Chk l:=⟨false,λh=>nomatch h⟩
instance(x:Int):Decidable (aG x):=inferInstanceAs (Decidable (_/\_))
instance(a:Int)(n:Nat):Decidable (ix a n):=inferInstanceAs (Decidable (_/\_))
instance chkOv:∀(ov:List (Nat×SV)) (a:Nat),Chk (jC ov a)
 |[],_=>inferInstanceAs (Chk [])
 |q::l,a=> @chkCons (a≠q.1) (jC l a) inferInstance (chkOv l a)
def ChO{α:Type}(s:Option (List Prop×α)):Type:=∀q,s=some q->Chk q.1
def qn(k:IntKind)(x:Int)(raw:Bool):Chk (j6 raw k x).1:=by unfold j6;split<;>infer_instance
def UC(raw:Bool)(op:BinOp)(k:IntKind)(a b:Int):ChO (tm raw op k a b):=by intro q h;have:=qn k (a+b) raw;have:=qn k (a-b) raw;have:=qn k (a*b) raw;have:=qn k (a.tdiv b) raw;cases op<;>unfold tm at h<;>cases h<;>(first|infer_instance|(dsimp only;infer_instance))
def XE(P:Program)(e:EqT)(raw:Bool)(op:BinOp)(t:TypeId)(x y:SV):ChO (ua P e raw op t x y):=by
 intro q h;unfold ua at h
 repeat' split at h
 all_goals first
  |exact UC _ _ _ _ _ q h
  |(cases h<;>(first|infer_instance|(dsimp only;infer_instance)))
def Yk(raw:Bool)(op:UnOp)(x:SV):ChO (sun raw op x):=by
 intro q h;unfold sun at h
 repeat' split at h
 all_goals (cases h<;>first|exact qn _ _ _|first|infer_instance|(dsimp only;infer_instance))
def VW(P:Program)(raw:Bool)(s d:TypeId)(x:SV):ChO (uO P raw s d x):=by
 intro q h;unfold uO at h
 repeat' split at h
 all_goals (cases h<;>exact qn _ _ _)
def UA(P:Program)(t:TypeId)(x:SV)(lo hi:Option Int):ChO (th P t x lo hi):=by
 intro q h;unfold th at h
 repeat' split at h
 all_goals (cases h<;>(first|infer_instance|(dsimp only;infer_instance)))
def UB(P:Program)(t:TypeId)(x i:SV):ChO (ti P t x i):=by
 intro q h;unfold ti at h
 repeat' split at h
 all_goals (cases h<;>(first|infer_instance|(dsimp only;infer_instance)))
def VV(P:Program)(t:TypeId)(x:SV)(σ:Sg):ChO (uN P t x σ):=by
 intro q h;unfold uN at h
 repeat' split at h
 all_goals (cases h<;>(first|infer_instance|(dsimp only;infer_instance)))
def T9(P:Program)(t:TypeId)(a v:SV)(σ:Sg):ChO (pT P t a v σ):=by
 intro q h;unfold pT at h
 repeat' split at h
 all_goals (cases h<;>(first|infer_instance|(dsimp only;infer_instance)))
def XG(σ:Sg)(e:TypeId)(lt:LT)(x:SV):ChO (pm σ e lt x):=by
 intro q h;unfold pm at h
 repeat' split at h
 all_goals (cases h<;>(first|infer_instance|(dsimp only;infer_instance)))
def XD(σ:Sg)(lt:LT)(x:SV):ChO (q9 σ lt x):=by
 intro q h;unfold q9 at h
 repeat' split at h
 all_goals (cases h<;>(first|infer_instance|(dsimp only;infer_instance)))
def XF(P:Program)(ltOf:TypeId->Option LT)(n:Nat)(t t':TypeId)(σ:Sg)(x y:SV):ChO (rZ P ltOf n t t' σ x y):=by
 intro q h;unfold rZ at h;split at h
 .exact MQ _
 unfold uP at h;split at h
 case h_2=>cases h
 split at h
 case h_2=>cases h
 split at h
 case h_2=>cases h
 rename_i h1 h2;have:=XG _ _ _ _ _ h1;have:=XD _ _ _ _ h2;cases h;dsimp only at*;infer_instance
def VU(P:Program)(ltOf:TypeId->Option LT)(σ:Sg)(n:Nat)(t:TypeId)(x y:SV):ChO (uM P ltOf σ n t x y):=by
 intro q h;unfold uM at h
 repeat' split at h
 all_goals (cases h<;>(first|infer_instance|(dsimp only;infer_instance)))
def qX{f:SV->Option (List Prop×SV)}(hf:∀x,ChO (f x)):∀l:List SV,ChO (gI f l)
 |[],q,h=>by cases h;exact inferInstanceAs (Chk [])
 |x::l,q,h=>by
  unfold gI at h;split at h
  .rename_i h1 h2;have:=hf x _ h1;have:=qX hf l _ h2;cases h;dsimp only at*;infer_instance
  .cases h
def VT(d:Nat)(σ:Sg)(x n:Nat):ChO (rF d σ x n):=by
 intro q h;unfold rF at h
 repeat' split at h
 all_goals (cases h<;>(first|infer_instance|(dsimp only;infer_instance)))
def Tc{σ:Sg}{x:SV}{q:List Prop×SV}(h:fD 0 σ x=some q):q.1=[] :=by cases x<;>unfold fD at h<;>first|(cases h;rfl)|(split at h<;>cases h;rfl)
def sc:∀(d:Nat) (σ:Sg) (x:SV),ChO (fD d σ x)
 |0,_,_=>λq h=>by
  have e:=Tc h;rw[e];exact inferInstanceAs (Chk [])
 |d+1,σ,x=>λq h=>by
  have ih:= @qX _ (sc d σ);cases x
  case ownx s n=>
   unfold fD at h;split at h
   .split at h
    .rename_i hm;cases h;exact ih _ _ hm
    .cases h
   .cases h
  case ptr s n=>
   unfold fD at h;split at h
   .split at h
    .rename_i hm;cases h;exact ih _ _ hm
    .cases h
   .cases h
  case owF x n=>exact VT _ _ _ _ q h
  case agg l=>
   unfold fD at h;split at h
   .rename_i hm;cases h;exact ih _ _ hm
   .cases h
  case fn f a b=>
   unfold fD at h;split at h
   .rename_i h1 h2;have:=ih _ _ h1;have:=ih _ _ h2;cases h;dsimp only at*;infer_instance
   .cases h
  all_goals
   unfold fD at h
   repeat' split at h
   all_goals (cases h<;>(first|infer_instance|(dsimp only;infer_instance)))
def qY(o:Option SV):ChO (lQ o):=by
 intro q h;unfold lQ at h
 repeat' split at h
 all_goals (cases h<;>(first|infer_instance|(dsimp only;infer_instance)))
def vq{o:Option (List Prop×SV)}(ho:ChO o):ChO (nu o):=by
 intro q h;unfold nu at h;split at h
 .rename_i h1;split at h
  .rename_i ps r _ _;have:=ho _ rfl;cases h;exact this
  .cases h
 .cases h
def FZ{o:SR}(ho:ChO o):ChO (mL o):=by
 intro q h;unfold mL at h;split at h
 .split at h
  .have:=ho _ rfl;cases h;exact this
  .cases h
 .cases h
end
noncomputable section
set_option warn.classDefReducibility false
def IX(X:Cx)(raw:Bool)(n:Nat)(o:Op)(E:SE)(σ:Sg):ChO (sop X raw n o E σ):=by
 intro q h;unfold sop at h;split at h
 .cases h;exact inferInstanceAs (Chk [])
 .cases h;exact inferInstanceAs (Chk [])
 .exact qY _ q h
 .unfold tn at h;split at h<;>cases h;exact inferInstanceAs (Chk [])
 .unfold uZ at h;split at h<;>cases h;exact inferInstanceAs (Chk [])
 .unfold tk at h
  repeat' split at h
  all_goals (cases h<;>exact inferInstanceAs (Chk []))
 .unfold tL at h
  repeat' split at h
  all_goals (cases h<;>(first|infer_instance|(dsimp only;infer_instance)))
 .exact FZ (VV _ _ _ _) q h
 .exact T9 _ _ _ _ _ q h
 .split at h<;>cases h;exact inferInstanceAs (Chk [])
 .exact vq (XE _ _ _ _ _ _ _) q h
 .exact vq (Yk _ _ _) q h
 .exact vq (VW _ _ _ _ _) q h
 .cases h;exact inferInstanceAs (Chk [])
 .split at h
  .exact vq (UA _ _ _ _ _) q h
  .cases h
 .split at h<;>cases h;exact inferInstanceAs (Chk [])
 .exact qY _ q h
 .split at h
  .rename_i h1;have:=UB _ _ _ _ _ h1;cases h;exact this
  .cases h
 .exact qY _ q h
 .exact MQ _
 .exact qY _ q h
 .exact XF _ _ _ _ _ _ _ _ q h
 .exact qY _ q h
 .exact qY _ q h
 .exact FZ (VU _ _ _ _ _ _ _) q h
 .cases h
structure EC where
 c:Con
 k:∀x,Chk (c.pre x)
abbrev eJ:=Nat->Option EC
def eJ.t(T:eJ):Tab:=λf=>match T f with|some e=>some e.c|none=>none
def fzN{R:Type}(n:Nat)(k:Nat->R):R:=match n with
 |0=>k 0
 |m+1=>k (m+1)
def lF{R:Type}(n:Nat)(k:Nat->R):fzN n k=k n:=by cases n<;>rfl
def fzI{R:Type}(n:Int)(k:Int->R):R:=match n with
 | .ofNat m=>fzN m λm=>k (.ofNat m)
 | .negSucc m=>fzN m λm=>k (.negSucc m)
def pV{R:Type}(n:Int)(k:Int->R):fzI n k=k n:=by cases n<;>(unfold fzI;dsimp only;rw[lF])
def xz{R:Type}:List Int->(List Int->R)->R
 |[],k=>k []
 |a::l,k=>fzI a λa=>xz l λl=>k (a::l)
def IH{R:Type}:∀(l:List Int) (k:List Int->R),xz l k=k l
 |[],_=>rfl
 |a::l,k=>by unfold xz;rw[pV,IH l]
def xx{R:Type}:List V->(List V->R)->R
 |[],k=>k []
 |a::l,k=>fzI a.x λx=>fzI a.y λy=>xx l λl=>k (⟨x,y⟩::l)
def IF{R:Type}:∀(l:List V) (k:List V->R),xx l k=k l
 |[],_=>rfl
 |a::l,k=>by unfold xx;rw[pV,pV,IF l]
def xy{R:Type}:List Pt->(List Pt->R)->R
 |[],k=>k []
 |a::l,k=>fzI a.x λx=>fzI a.y λy=>fzI a.den λd=>xy l λl=>k (⟨x,y,d⟩::l)
def IG{R:Type}:∀(l:List Pt) (k:List Pt->R),xy l k=k l
 |[],_=>rfl
 |a::l,k=>by unfold xy;rw[pV,pV,pV,IG l]
def fzL{R:Type}:(t:LT)->List t.ty->(List t.ty->R)->R
 | .I,l,k=>xz l k
 | .V,l,k=>xx l k
 | .T,l,k=>xy l k
 | .S,l,k=>k l
 | .R,l,k=>k l
 | .B,l,k=>k l
 | .P,l,k=>k l
 | .Q,l,k=>k l
 | .U,l,k=>k l
 | .E,l,k=>k l
 | .F,l,k=>k l
def Jf{R:Type}(t:LT)(l:List t.ty)(k:List t.ty->R):fzL t l k=k l:=by cases t<;>first|rfl|exact IH _ _|exact IF _ _|exact IG _ _
def oF{R:Type}(f:SV->(SV->R)->R)(l:List SV):(List SV->R)->R:=
 sI (motive:=λ_=>(List SV->R)->R) (λk=>k []) (λx _ ih k=>f x λx=>ih λl=>k (x::l)) l
def fzA{R:Type}(f:SV->(SV->R)->R)(v:SV)(k:SV->R):R:=match v with
 | .int t n=>fzI n λn=>k (.int t n)
 | .bool b=>(match b with|true=>k (.lit true)|false=>k (.lit false))
 | .lit b=>(match b with|true=>k (.lit true)|false=>k (.lit false))
 | .prop _ e=>(match e with| .isTrue _=>k (.lit true)| .isFalse _=>k (.lit false))
 | .agg l=>oF f l λl=>k (.agg l)
 | .tup l=>oF f l λl=>k (.tup l)
 | .own s t n=>fzN n λn=>k (.own s t n)
 | .owns s t o n=>fzN o λo=>fzN n λn=>k (.owns s t o n)
 | .ownx s n=>fzN n λn=>k (.ownx s n)
 | .sl n cs=>fzN n λn=>oF f cs λcs=>k (.sl n cs)
 | .lst t l=>fzL t l λl=>k (.lst t l)
 | .ptr s o=>fzN o λo=>k (.ptr s o)
 | .pte s t i o=>fzN i λi=>fzN o λo=>k (.pte s t i o)
 | .pe t l i o=>fzN i λi=>fzN o λo=>k (.pe t l i o)
 | .pro cs o=>fzN o λo=>oF f cs λcs=>k (.pro cs o)
 |v=>k v
def fz0{R:Type}(v:SV)(k:SV->R):R:=k v
def fz1{R:Type}:SV->(SV->R)->R:=fzA fz0
def fz2{R:Type}:SV->(SV->R)->R:=fzA fz1
def Cp{R:Type}:SV->(SV->R)->R:=fzA fz2
def yE{R:Type}(f:SV->(SV->R)->R):Prop:=∀v,∃v',v'.av=v.av/\(v.ok->v'.ok)/\∀k,f v k=k v'
def Az{R:Type}{f:SV->(SV->R)->R}(hf:yE f):∀l,∃l',avs l'=avs l/\∀k,oF f l k=k l'
 |[] =>⟨[],rfl,λ_=>rfl⟩
 |x::l=>by
  obtain⟨v,h1,_,h2⟩:=hf x;obtain⟨m,h3,h4⟩:=Az hf l;refine⟨v::m,by rw[avs,avs,h1,h3],λk=> ?_⟩;show f x (λx=>oF f l λl=>k (x::l))=_;rw[h2,h4]
def uB{R:Type}{f:SV->(SV->R)->R}(hf:yE f):yE (fzA f):=by
 intro v;have ih:=Az hf;cases v
 case bool b=>exact⟨.lit b,rfl,λ_=>trivial,λ_=>by cases b<;>rfl⟩
 case lit b=>exact⟨.lit b,rfl,λ_=>trivial,λ_=>by cases b<;>rfl⟩
 case prop p e=>exact⟨.lit (@decide p e),rfl,λ_=>trivial,λ_=>by cases e<;>rfl⟩
 case agg l=>
  obtain⟨m,h1,h2⟩:=ih l;exact⟨.agg m,by simp only[SV.av,h1],λ_=>trivial,λk=>h2 _⟩
 case tup l=>
  obtain⟨m,h1,h2⟩:=ih l;exact⟨.tup m,by simp only[SV.av,h1],λ_=>trivial,λk=>h2 _⟩
 case sl n l=>
  obtain⟨m,h1,h2⟩:=ih l;exact⟨.sl n m,by simp only[SV.av,h1],λ_=>trivial,λk=>by unfold fzA;dsimp only;rw[lF,h2]⟩
 case pro l n=>
  obtain⟨m,h1,h2⟩:=ih l;exact⟨.pro m n,by simp only[SV.av,h1],λ_=>trivial,λk=>by unfold fzA;dsimp only;rw[lF,h2]⟩
 all_goals first
  |exact⟨_,rfl,id,λ_=>rfl⟩
  |exact⟨_,rfl,id,λ_=>by unfold fzA;dsimp only;first|exact pV _ _|exact lF _ _|exact Jf _ _ _|(rw[lF];exact lF _ _)⟩
def YR{R:Type}:yE (Cp (R:=R)):=uB (uB (uB λv=>⟨v,rfl,id,λ_=>rfl⟩))
def aJ.cd(d:Nat)(v:Option SOb)(F:aJ)(t:Nat):aJ.at ((d,v)::F) t=if t=d then v else aJ.at F t:=by
 conv=>lhs;unfold aJ.at
 split
 .simp_all
 .rename_i h;rw[if_neg (f9 h)]
def Frm.atR(F:Frm):Nat->SV:=sI (motive:=λ_=>Nat->SV) (λ_=> .undef) (λq _ ih t=>cond (ae t q.1) q.2 (ih t)) F
def Frm.uI(F:Frm):F.atR=F.at:=by
 funext t
 induction F with
 |nil=>rfl
 |cons q F ih=>
  obtain⟨d,v⟩:=q;show cond (ae t d) v (Frm.atR F t)=match ae t d with|true=>v|false=>Frm.at F t
  rw[ih];cases ae t d<;>rfl
def aJ.atR(F:aJ):Nat->Option SOb:=sI (motive:=λ_=>Nat->Option SOb) (λ_=>none) (λq _ ih t=>cond (ae t q.1) q.2 (ih t)) F
def aJ.uI(F:aJ):F.atR=F.at:=by
 funext t
 induction F with
 |nil=>rfl
 |cons q F ih=>
  obtain⟨d,v⟩:=q;show cond (ae t d) v (aJ.atR F t)=match ae t d with|true=>v|false=>aJ.at F t
  rw[ih];cases ae t d<;>rfl
def uT(n:Nat)(F:Frm):Operand->SV
 | .tmp t=>cond (dG t n) (F.atR t) .any
 | .const v=>svC v
 | .func f=> .fnp f [] []
 | .global _=> .any
def Gl(n:Nat)(F:Frm):uT n F=cA n F:=by
 funext x
 cases x with
 |tmp t=>
  show cond (dG t n) (F.atR t) .any=match dG t n with|true=>F.at t|false=>SV.any
  rw[Frm.uI];cases dG t n<;>rfl
 |_=>rfl
def gL(m d:Nat):Bool:=ae (Nat.land (Nat.shiftRight m d) 1) 1
def BA(m d:Nat):gL m d=m.testBit d:=by
 have e:gL m d=ae ((m>>>d)&&&1) 1:=rfl;rw[e,Nat.and_one_is_mod,Nat.testBit_eq_decide_div_mod_eq,Nat.shiftRight_eq_div_pow];cases h:decide (m/2^d % 2=1)with
 |true=>rw[of_decide_eq_true h];rfl
 |false=>
  have:=of_decide_eq_false h;cases hb:ae (m/2^d % 2) 1 with
  |true=>exact(this (bp hb)).elim
  |false=>rfl
def kU(m d:Nat):Nat:=Nat.lor m (Nat.shiftLeft 1 d)
def tc(m d t:Nat):gL (kU m d) t=(gL m t||decide (t=d)):=by
 rw[BA,BA];have e:kU m d=m|||(1<<<d):=rfl
 rw[e,Nat.testBit_or,Nat.one_shiftLeft,Nat.testBit_two_pow]
 congr 1
 by_cases h:t=d
 .subst h;simp
 .rw[decide_eq_false h,decide_eq_false (λe:d=t=>h e.symm)]
def ddF{R:Type}(F:Frm):Nat->(Frm->R)->R:=sI (motive:=λ_=>Nat->(Frm->R)->R) (λ_ k=>k [])
 (λq _ ih m k=>cond (gL m q.1) (ih m k) (fzN (kU m q.1) λm=>ih m λF=>k (q::F))) F
def Bj{R:Type}:∀(F:Frm) (m:Nat),∃F',(∀t,gL m t=false->Frm.at F' t=F.at t)/\∀k:Frm->R,ddF F m k=k F'
 |[],m=>⟨[],λ_ _=>rfl,λ_=>rfl⟩
 |(d,v)::F,m=>by
  cases hb:gL m d with
  |true=>
   obtain⟨F',h1,h2⟩:=Bj (R:=R) F m;refine⟨F',λt ht=> ?_,λk=> ?_⟩
   .rw[Frm.cd,if_neg (λe=>by rw[e,hb]at ht;cases ht)];exact h1 t ht
   .show cond (gL m d) (ddF F m k) _=_;rw[hb];exact h2 k
  |false=>
   obtain⟨F',h1,h2⟩:=Bj (R:=R) F (kU m d);refine⟨(d,v)::F',λt ht=> ?_,λk=> ?_⟩
   .rw[Frm.cd,Frm.cd];split
    .rfl
    .rename_i h;exact h1 t (by rw[tc,ht,decide_eq_false h];rfl)
   .show cond (gL m d) _ (fzN (kU m d) λm=>ddF F m λF=>k ((d,v)::F))=_;rw[hb,lF];exact h2 _
def ddL{R:Type}(F:aJ):Nat->(aJ->R)->R:=sI (motive:=λ_=>Nat->(aJ->R)->R) (λ_ k=>k [])
 (λq _ ih m k=>cond (gL m q.1) (ih m k) (fzN (kU m q.1) λm=>ih m λF=>match q.2 with|some _=>k (q::F)|none=>k F)) F
def Bi{R:Type}:∀(F:aJ) (m:Nat),∃F',(∀t,gL m t=false->aJ.at F' t=F.at t)/\(∀t,gL m t=true->aJ.at F' t=none)/\∀k:aJ->R,ddL F m k=k F'
 |[],m=>⟨[],λ_ _=>rfl,λ_ _=>rfl,λ_=>rfl⟩
 |(d,v)::F,m=>by
  cases hb:gL m d with
  |true=>
   obtain⟨F',h1,h0,h2⟩:=Bi (R:=R) F m;refine⟨F',λt ht=> ?_,h0,λk=> ?_⟩
   .rw[aJ.cd,if_neg (λe=>by rw[e,hb]at ht;cases ht)];exact h1 t ht
   .show cond (gL m d) (ddL F m k) _=_;rw[hb];exact h2 k
  |false=>
   obtain⟨F',h1,h0,h2⟩:=Bi (R:=R) F (kU m d);have e1:∀t,t≠d->gL m t=false->gL (kU m d) t=false:=λt h ht=>by rw[tc,ht,decide_eq_false h];rfl
   have e2:gL (kU m d) d=true:=by rw[tc,decide_eq_true rfl,Bool.or_true]
   cases v with
   |some o=>
    refine⟨(d,some o)::F',λt ht=> ?_,λt ht=> ?_,λk=> ?_⟩
    .rw[aJ.cd,aJ.cd];split
     .rfl
     .rename_i h;exact h1 t (e1 t h ht)
    .rw[aJ.cd,if_neg (λe=>by rw[e,hb]at ht;cases ht)];exact h0 t (by rw[tc,ht];rfl)
    .show cond (gL m d) _ (fzN (kU m d) λm=>ddL F m λF=>k ((d,some o)::F))=_;rw[hb,lF];exact h2 _
   |none=>
    refine⟨F',λt ht=> ?_,λt ht=>h0 t (by rw[tc,ht];rfl),λk=> ?_⟩
    .rw[aJ.cd];split
     .rename_i h;subst h;exact h0 t e2
     .rename_i h;exact h1 t (e1 t h ht)
    .show cond (gL m d) _ (fzN (kU m d) λm=>ddL F m λF=>k F)=_;rw[hb,lF];exact h2 _
def rc{R:Type}(n:Nat)(F:Frm)(d:Option Nat)(r:SV)(k:Frm->R):R:=match d with
 |none=>k F
 |some d=>cond (dG d n) (k ((d,r)::F)) (k F)
def Hc{R:Type}(n:Nat)(F:Frm)(d:Option Nat)(r:SV):∃F',(∀t,F'.at t=(dv n F d r).at t)/\∀k:Frm->R,rc n F d r k=k F':=by
 cases d with
 |none=>exact⟨F,λ_=>rfl,λ_=>rfl⟩
 |some d=>
  unfold rc dv;dsimp only;cases dG d n with
  |true=>exact⟨(d,r)::F,λ_=>rfl,λ_=>rfl⟩
  |false=>exact⟨F,λ_=>rfl,λ_=>rfl⟩
def Frm.Bq{n:Nat}{F F':Frm}(h:∀t,F'.at t=F.at t):F'.av n=F.av n:=List.map_congr_left λt _=>by rw[h]
def Frm.BT{F F':Frm}(h:∀t,F'.at t=F.at t)(hF:F.ok):F'.ok:=λt=>by rw[h];exact hF t
def nl(a b:Option SOb):Prop:=(∀x,a.map (SOb.ob x)=b.map (SOb.ob x))/\∀i,a.bind (SOb.inner i)=b.bind (SOb.inner i)
def nl.rfl{a:Option SOb}:nl a a:=⟨λ_=>Eq.refl _,λ_=>Eq.refl _⟩
def YS{L L':aJ}(h:∀s,nl (L.at s) (L'.at s)):L.fn=L'.fn:=by
 funext s
 unfold aJ.fn Sg.a;split
 .split
  .exact(h _).1 _
  .exact(h _).2 _
 .rfl
def fzO{R:Type}(o:Option SOb)(k:Option SOb->R):R:=match o with
 |some (.box ty cs)=>oF fz2 cs λcs=>k (some (.box ty cs))
 |some (.arr ty ez cs)=>oF fz2 cs λcs=>k (some (.arr ty ez cs))
 |some (.row ty t l)=>fzL t l λl=>k (some (.row ty t l))
 |o=>k o
def Zd{R:Type}(o:Option SOb):∃o',nl o' o/\∀k:Option SOb->R,fzO o k=k o':=by
 have hs:=Az (R:=R) (f:=fz2) (uB (uB λv=>⟨v,rfl,id,λ_=>rfl⟩));unfold fzO;split
 .rename_i ty cs;obtain⟨m,h1,h2⟩:=hs cs;exact⟨some (.box ty m),⟨λx=>by simp only[dn,SOb.ob,h1],λ_=>rfl⟩,λk=>h2 _⟩
 .rename_i ty ez cs;obtain⟨m,h1,h2⟩:=hs cs;exact⟨some (.arr ty ez m),⟨λx=>by simp only[dn,SOb.ob,h1],λ_=>rfl⟩,λk=>h2 _⟩
 .exact⟨_,nl.rfl,λk=>Jf _ _ _⟩
 .exact⟨_,nl.rfl,λk=>rfl⟩
def xp{R:Type}(W:aJ):aJ->(aJ->R)->R:=sI (motive:=λ_=>aJ->(aJ->R)->R) (λL k=>k L) (λq _ ih L k=>ih L λL=>fzO q.2 λo=>k ((q.1,o)::L)) W
def Ha{R:Type}:∀(W L:aJ),∃L',(∀s,nl (aJ.at L' s) (aJ.at (W++L) s))/\∀k:aJ->R,xp W L k=k L'
 |[],L=>⟨L,λ_=>nl.rfl,λ_=>rfl⟩
 |(s,o)::W,L=>by
  obtain⟨L',h1,h2⟩:=Ha (R:=R) W L;obtain⟨o',h3,h4⟩:=Zd (R:=R) o;refine⟨(s,o')::L',λt=> ?_,λk=>by show xp W L (λL=>fzO o λo=>k ((s,o)::L))=_;rw[h2,h4]⟩;rw[aJ.cd,ma,aJ.cd];split
  .exact h3
  .exact h1 t
def xY(T:eJ)(σ:Sg)(f:Nat)(xs:List SV):Option (SV×List Nat×aJ):=match T f with
 |some ⟨⟨_,dec,_,.val fr res⟩,k⟩=>(match hm:gI (fD 3 σ) xs with
  |some (ps,bs)=>(match(qX (sc 3 σ) xs (ps,bs) hm).b with
   |true=>(match dec bs with
    |some x=>(match(k x).b,(res x).ape,bJ (avs xs)with
     |true,false,some _=>some (res x,[],[])
     |true,false,none=>(match fr,rQ (res x)with
      |false,false=>(match xs.all (jA 3 σ)with|true=>some (res x,bD (cn 3 σ) xs,(bD (cn 3 σ) xs).map (·,none))|false=>none)
      |_,_=>some (res x,bD (cn 3 σ) xs,[]))
     |_,_,_=>none)
    |none=>none)
   |false=>none)
  |none=>none)
 |_=>none
def G0{T:eJ}{n:Nat}{σ:Sg}{f:Nat}{xs:List SV}{q:SV×List Nat×aJ}(h:xY T σ f xs=some q):∃ps,rG T.t n σ f xs=some (ps,q)/\∀p∈ps,p:=by
 unfold xY at h;split at h
 case h_2=>cases h
 rename_i Y dec pre fr res k hT;have e1:T.t f=some ⟨Y,dec,pre,.val fr res⟩:=by unfold eJ.t;rw[hT]
 split at h
 case h_2=>cases h
 rename_i ps bs hm;split at h
 case h_2=>cases h
 rename_i hc;have hps:=(qX (sc 3 σ) xs (ps,bs) hm).h hc;split at h
 case h_2=>cases h
 rename_i x hx;refine⟨ps++pre x,?_⟩;unfold rG;rw[e1];dsimp only;rw[hm];dsimp only;rw[hx];dsimp only;split at h
 .rename_i h1 h2 h3;have hk:=(k x).h h1;cases h;rw[h2,h3];exact⟨rfl,λp hp=>(eK.1 hp).elim (hps p) (hk p)⟩
 .rename_i h1 h2 h3;have hk:=(k x).h h1;rw[h2,h3];dsimp only;refine⟨?_,λp hp=>(eK.1 hp).elim (hps p) (hk p)⟩;split at h
  .rename_i h4;rw[h4];split at h
   .rename_i h5;cases h;dsimp only;rw[h5]
   .cases h
  .rename_i hn;cases h;split
   .rename_i h4;exact(hn rfl h4).elim
   .rfl
 .cases h
def A6(T:eJ)(σ:Sg)(fv:SV)(xs:List SV):Option (SV×List Nat×aJ):=match fv with
 | .fn g a b=>xY T σ g (a++xs++b)
 | .fnp g a b=>(match bJ (avs a),bJ (avs b)with|some _,some _=>xY T σ g (a++xs++b)|_,_=>none)
 |_=>none
def UD{P:Program}{T:eJ}{n:Nat}{σ:Sg}{fv:SV}{xs:List SV}{q:SV×List Nat×aJ}(h:A6 T σ fv xs=some q):∃ps,tK P T.t n σ fv xs=some (ps,q)/\∀p∈ps,p:=by
 unfold A6 at h;unfold tK;split at h
 .exact G0 h
 .split at h
  .rename_i h1 h2;dsimp only;rw[h1,h2];exact G0 h
  .cases h
 .cases h
def Cj:Op->Bool
 | .assign _=>false
 |_=>true
def Jp:Op->Option (Operand×List Operand)
 | .call {callee:= .value f,args, .. }=>some (f,args.toList)
 |_=>none
def opE(X:Cx)(T:eJ)(more:Nat->Op->SE->Sg->Option (SV×List Nat×aJ))(n:Nat)(o:Op)(E:SE)(σ:Sg):Option (SV×List Nat×aJ):=match Jp o with
 |some (f,args)=>A6 T σ (E f) (args.map E)
 |none=>(match h:sop X (Cj o) n o E σ with
  |some q=>(match(IX X (Cj o) n o E σ q h).b with|true=>some q.2|false=>none)
  |none=>more n o E σ)
def mG(P:Program)(more:Nat->Op->SE->Sg->Option (SV×List Nat×aJ)):Prop:=∀(n:Nat) (o:Oper) (E:SE) (σ:Sg) r rd W,(∀x,(E x).ok)->more n o.op E σ=some (r,rd,W)->(∃R' W',bB P o E.a σ.a n r.av R' W'/\bI σ rd W R' W')/\r.ok
def ZG{X:Cx}(hX:X.Ok){T:eJ}(hT:T.t.Ok X.P){more:Nat->Op->SE->Sg->Option (SV×List Nat×aJ)}(hM:mG X.P more){n:Nat}{o:Oper}{E:SE}{σ:Sg}{r:SV}{rd:List Nat}{W:aJ}(hE:∀x,(E x).ok)(h:opE X T more n o.op E σ=some (r,rd,W)):
  (∃R' W',bB X.P o E.a σ.a n r.av R' W'/\bI σ rd W R' W')/\r.ok:=by
 have key:∀(Y:Cx),Y.Ok->Y.P=X.P->∀raw ps,sop Y raw n o.op E σ=some (ps,r,rd,W)->(∀p∈ps,p)->(∃R' W',bB X.P o E.a σ.a n r.av R' W'/\bI σ rd W R' W')/\r.ok:=by intro Y hY hP raw ps h1 h2;rw[<-hP];exact HJ hY (raw:=raw) hE ps r rd W (by unfold Cd;rw[h1];rfl) h2
 unfold opE at h;split at h
 .rename_i f args hc;obtain⟨ps,h1,h2⟩:=UD (P:=X.P) (n:=n) h;refine key {X with T:=T.t} ⟨hT,hX.2.1,hX.2.2⟩ rfl true ps ?_ h2;unfold Jp at hc;split at hc
  .rename_i ho;cases hc;rw[ho];unfold sop;exact h1
  .cases hc
 .split at h
  .rename_i q hq;split at h
   .rename_i hc;have hc:=(IX X (Cj o.op) n o.op E σ q hq).h hc;obtain⟨ps,q2⟩:=q;cases h;exact key X hX rfl _ ps hq hc
   .cases h
  .exact hM n o E σ r rd W hE h
end
noncomputable section
set_option warn.classDefReducibility false
abbrev iQ:=Nat->Op->SE->Sg->Option (SV×List Nat×aJ)
abbrev EKt:=Frm->aJ->dX->Option SV
abbrev ENt:=Nat->Frm->aJ->dX->EKt->Option SV
def Cw(X:Cx)(T:eJ)(M:iQ)(n N:Nat)(ds:List (Option Nat))(o:Oper)(next:ENt):ENt:=λi F L log K=>
 let go:Unit->Option SV:=λ_=>match opE X T M (N+i) o.op (uT n F) L.atR with
  |some (r,rd,W)=>Cp r λr=>xp W L λL=>rc n F o.dst r λF=>next (i+1) F L (log++[(rd.map ncl,W.map λ(q:Nat×Option SOb)=>ncl q.1)]) K
  |none=>none
 let no:Unit->Option SV:=λ_=>rc n F o.dst .undef λF=>next (i+1) F L (log++[([],[])]) K
 match o.guard with
 |none=>go ()
 |some (j,want)=>(match(ds[j]?).join with
  |some d=>(match dG d n,F.atR d with
   |true,.lit b=>(match b,want with
    |true,true=>go ()
    |false,false=>go ()
    |_,_=>no ())
   |true,.undef=>no ()
   |_,_=>none)
  |none=>none)
def rj(X:Cx)(T:eJ)(M:iQ)(n N:Nat)(ds:List (Option Nat))(l:List Oper):ENt:=
 sI (motive:=λ_=>ENt) (λ_ F L log K=>K F L log) (λo _ ih=>Cw X T M n N ds o ih) l
def Tl(n:Nat)(FA:List AV)(LA:Sto)(G:Frm->aJ->Prop):Prop:=∃F' L',FA=F'.av n/\LA=L'.fn/\F'.ok/\G F' L'
def wW{X:Cx}(hX:X.Ok){T:eJ}(hT:T.t.Ok X.P){M:iQ}(hM:mG X.P M){n N:Nat}{ds:List (Option Nat)}{K:Frm->aJ->dX->Option SV}{v:SV}:
  ∀(l:List Oper) (i:Nat) (F:Frm) (L:aJ) (log:dX),F.ok->rj X T M n N ds l i F L log K=some v->
   cN X.P N ds l i (F.av n) L.fn log λFA LA log'=>Tl n FA LA λF' L'=>K F' L' log'=some v
 |[],i,F,L,log,hF,h=>by
  unfold cN;exact⟨F,L,rfl,rfl,hF,h⟩
 |o::rest,i,F,L,log,hF,h=>by
  have run:(match opE X T M (N+i) o.op (uT n F) L.atR with
   |some (r,rd,W)=>Cp r λr=>xp W L λL=>rc n F o.dst r λF=>rj X T M n N ds rest (i+1) F L (log++[(rd.map ncl,W.map λ(q:Nat×Option SOb)=>ncl q.1)]) K
   |none=>none)=some v->
    ∃r R W Rc Wc,bB X.P o (dC (F.av n)) L.fn (N+i) r R W/\inC R Rc/\inC (W.map (·.1)) Wc/\cN X.P N ds rest (i+1) (cJ (F.av n) o.dst r) (aX L.fn W) (log++[(Rc,Wc)]) λFA LA log'=>Tl n FA LA λF' L'=>K F' L' log'=some v:=by
   intro h;split at h
   case h_2=>cases h
   rename_i r R W hs;rw[Gl,aJ.uI]at hs;obtain⟨⟨R',W',h5,f1,f2,f3⟩,h4⟩:=ZG hX hT hM (Gk hF) hs;have e1:SE.a (cA n F)=dC (F.av n):=funext λx=>eT x;rw[e1]at h5;have e3:aX L.fn W'=aJ.fn (W++L):=by unfold aJ.fn;rw[f3,aJ.pd]
   obtain⟨r',g1,g2,g3⟩:=YR (R:=Option SV) r;rw[g3]at h;obtain⟨L',k1,k2⟩:=Ha (R:=Option SV) W L;rw[k2]at h;obtain⟨F',m1,m2⟩:=Hc (R:=Option SV) n F o.dst r';rw[m2]at h;refine⟨r.av,R',W',_,_,h5,f1,f2,?_⟩;rw[e3,<-YS k1,<-g1,iy,<-Frm.Bq m1];exact wW hX hT hM rest (i+1) F' L' _ (Frm.BT m1 (nT hF (g2 h4))) h
  have skip:(rc n F o.dst .undef λF=>rj X T M n N ds rest (i+1) F L (log++[([],[])]) K)=some v->
    cN X.P N ds rest (i+1) (cJ (F.av n) o.dst .undef) L.fn (log++[([],[])]) λFA LA log'=>Tl n FA LA λF' L'=>K F' L' log'=some v:=by
   intro h;obtain⟨F',m1,m2⟩:=Hc (R:=Option SV) n F o.dst .undef;rw[m2]at h;have e:AV.undef=SV.av .undef:=rfl;rw[e,iy,<-Frm.Bq m1];exact wW hX hT hM rest (i+1) F' L _ (Frm.BT m1 (nT hF (show SV.ok .undef from trivial))) h
  replace h:Cw X T M n N ds o (rj X T M n N ds rest) i F L log K=some v:=h;unfold Cw at h;unfold cN;dsimp only at h;split at h
  .rename_i hg;rw[hg];exact run h
  .rename_i j want hg;rw[hg];dsimp only;split at h
   case h_2=>cases h
   rename_i d hdj;have gd:d<n->gdA ds (F.av n) j=(match(F.at d).av with| .p (.bool b)=>some (some b)| .undef=>some none|_=>none):=by intro hlt;unfold gdA;rw[hdj];dsimp only;rw[Frm.fi hlt];rfl
   split at h
   .rename_i b hlt hb;rw[Frm.uI]at hb;rw[gd ((dc _ _).1 hlt),hb];show(if b=want then _ else _);cases b<;>cases want<;>dsimp only at h
    .rw[if_pos rfl];exact run h
    .rw[if_neg (by decide)];exact skip h
    .rw[if_neg (by decide)];exact skip h
    .rw[if_pos rfl];exact run h
   .rename_i hlt hb;rw[Frm.uI]at hb;rw[gd ((dc _ _).1 hlt),hb];exact skip h
   .cases h
def Cu(X:Cx)(T:eJ)(M:iQ)(n:Nat)(ops:List Oper)(draw:Bool)(F:Frm)(L:aJ)(N:Nat)(K:Frm->aJ->Option SV):Option SV:=match draw with
 |true=>(match X.P.follows .mixedOrders,rN ops (pY ops),dOk ops n with
  |true,true,true=>rj X T M n N (ops.map (·.dst)) ops 0 F L [] λF L log=>(match nf (pY ops) log with|true=>K F L|false=>none)
  |_,_,_=>none)
 |false=>(match gOk ops with
  |true=>rj X T M n N (ops.map (·.dst)) ops 0 F L [] λF L _=>K F L
  |false=>none)
def YV{X:Cx}(hX:X.Ok){T:eJ}(hT:T.t.Ok X.P){M:iQ}(hM:mG X.P M){n:Nat}{ops:List Oper}{draw:Bool}{F:Frm}{L:aJ}{N:Nat}{K:Frm->aJ->Option SV}{v:SV}(hF:F.ok)(h:Cu X T M n ops draw F L N K=some v):
  yD X.P draw ops (F.av n) L.fn N λFA LA=>Tl n FA LA λF' L'=>K F' L'=some v:=by
 unfold Cu at h;split at h
 .split at h
  .rename_i h1 h2 h3;refine⟨_,h1,h2,by rw[Frm.eH];exact h3,?_⟩;refine eI ?_ (wW hX hT hM ops 0 F L [] hF h);rintro FA LA log ⟨F',L',rfl,rfl,hF',hh⟩;split at hh
   .rename_i hf;exact⟨hf,F',L',rfl,rfl,hF',hh⟩
   .cases hh
  .cases h
 .split at h
  .rename_i h1;exact⟨h1,wW hX hT hM ops 0 F L [] hF h⟩
  .cases h
abbrev uX:=Exit->Frm->aJ->Nat->Option SV
def CR(body:uX->Frm->aJ->Nat->Option SV)(Q:uX):Nat->Frm->aJ->Nat->Option SV
 |0,_,_,_=>none
 |k+1,F,L,N=>ddF F 0 λF=>ddL L 0 λL=>body (λe F' L' N'=>match e with| .normal=>CR body Q k F' L' N'|e=>Q e F' L' N') F L N
def iP(X:Cx)(T:eJ)(M:iQ)(n lf:Nat):Code->uX->Frm->aJ->Nat->Option SV
 | .skip,Q,F,L,N=>Q .normal F L N
 | .region _ ops draw,Q,F,L,N=>fzN (N+ops.size) λN'=>Cu X T M n ops.toList draw F L N λF L=>Q .normal F L N'
 | .seq a b,Q,F,L,N=>iP X T M n lf a (λe F L N=>match e with| .normal=>iP X T M n lf b Q F L N|e=>Q e F L N) F L N
 | .cond c t e,Q,F,L,N=>(match uT n F c with
   | .lit true=>iP X T M n lf t Q F L N
   | .lit false=>iP X T M n lf e Q F L N
   | .bool true=>iP X T M n lf t Q F L N
   | .bool false=>iP X T M n lf e Q F L N
   |_=>none)
 | .block id c,Q,F,L,N=>iP X T M n lf c (λe F L N=>match e with| .exit id'=>(match ae id' id with|true=>Q .normal F L N|false=>Q (.exit id') F L N)|e=>Q e F L N) F L N
 | .loop c,Q,F,L,N=>CR (λQ F L N=>iP X T M n lf c Q F L N) Q lf F L N
 | .exit id,Q,F,L,N=>Q (.exit id) F L N
 | .ret,Q,F,L,N=>Q .ret F L N
 | .scope c,Q,F,L,N=>iP X T M n lf c (λe F L N=>match e with| .goto _=>none|e=>Q e F L N) F L N
 | .label _,Q,F,L,N=>Q .normal F L N
 |_,_,_,_,_=>none
def W4{X:Cx}(hX:X.Ok){T:eJ}(hT:T.t.Ok X.P){M:iQ}(hM:mG X.P M){n lf:Nat}{v:SV}:∀(c:Code) (Q:uX) (F:Frm) (L:aJ) (N:Nat),F.ok->iP X T M n lf c Q F L N=some v->
  awp X.P c (λe FA LA N'=>Tl n FA LA λF' L'=>Q e F' L' N'=some v) (F.av n) L.fn N:=by
 intro c;induction c with
 |skip=>intro Q F L N hF h;exact⟨F,L,rfl,rfl,hF,h⟩
 |region id ops draw=>
  intro Q F L N hF h;unfold iP at h;rw[lF]at h;exact .inl (YV hX hT hM hF h)
 |seq a b iha ihb=>
  intro Q F L N hF h;refine⟨λFA LA N'=>Tl n FA LA λF' L'=>iP X T M n lf b Q F' L' N'=some v,gw a ?_ (iha _ F L N hF h),?_⟩
  .intro e FA LA N' ht;cases e<;>exact ht
  .rintro FA LA N' ⟨F',L',rfl,rfl,hF',hh⟩;exact⟨_,_,_,cZ.rfl,ihb Q F' L' N' hF' hh⟩
 |cond c t e iht ihe=>
  intro Q F L N hF h;unfold iP at h;have ev:∀u,uT n F c=u->dC (F.av n) c=u.av:=λu hu=>by rw[<-eT,<-Gl,hu]
  split at h
  .rename_i hc;exact⟨true,ev _ hc,λ_=>iht Q F L N hF h,λhh=>by cases hh⟩
  .rename_i hc;exact⟨false,ev _ hc,(λhh=>by cases hh),λ_=>ihe Q F L N hF h⟩
  .rename_i hc;exact⟨true,ev _ hc,λ_=>iht Q F L N hF h,λhh=>by cases hh⟩
  .rename_i hc;exact⟨false,ev _ hc,(λhh=>by cases hh),λ_=>ihe Q F L N hF h⟩
  .cases h
 |block id c ih=>
  intro Q F L N hF h;refine gw c ?_ (ih _ F L N hF h);intro e FA LA N' ht;cases e
  case exit id'=>
   dsimp only at ht|-;cases hb:ae id' id with
   |true=>rw[hb]at ht;rw[if_pos (bp hb)];exact ht
   |false=>rw[hb]at ht;rw[if_neg (f9 hb)];exact ht
  all_goals exact ht
 |loop c ih=>
  intro Q F L N hF h;unfold iP at h
  let rep:Nat->List AV->Sto->Nat->Prop:=λk FA LA N'=>Tl n FA LA λF' L'=>CR (λQ F L N=>iP X T M n lf c Q F L N) Q k F' L' N'=some v
  have hmu:∃μ:List AV->Sto->Nat->Nat,∀FA LA N',(∃k,rep k FA LA N')->rep (μ FA LA N') FA LA N'/\∀k,rep k FA LA N'->μ FA LA N'<=k:=by
   have:∀FA LA N',∃k,(∃k,rep k FA LA N')->rep k FA LA N'/\∀j,rep j FA LA N'->k<=j:=by
    intro FA LA N';by_cases hh:∃k,rep k FA LA N'
    .obtain⟨k,h1,h2⟩:=least hh;exact⟨k,by grind⟩
    .exact⟨0,λh=>(hh h).elim⟩
   exact⟨λFA LA N'=>Classical.choose (this FA LA N'),λFA LA N'=>Rp (this FA LA N')⟩
  obtain⟨μ,hμ⟩:=hmu;refine Fg (λFA LA N'=>∃k,rep k FA LA N') μ ⟨_,_,_,cZ.rfl,lf,⟨F,L,rfl,rfl,hF,h⟩⟩ ?_;intro FA LA N' hr;have hk:=(hμ FA LA N' hr).1;generalize hkk:μ FA LA N'=k at hk|-;obtain⟨F',L',rfl,rfl,hF',hh⟩:=hk;cases k with
  |zero=>cases hh
  |succ k=>
   obtain⟨F2,d1,d2⟩:=Bj (R:=Option SV) F' 0;obtain⟨L2,d3,_,d4⟩:=Bi (R:=Option SV) L' 0;have z:∀t,gL 0 t=false:=λt=>by rw[BA,Nat.zero_testBit]
   have hh:ddF F' 0 _=some v:=hh;rw[d2,d4]at hh;rw[<-Frm.Bq λt=>d1 t (z t),show L'.fn=L2.fn from congrArg Sg.a (funext λt=>(d3 t (z t)).symm)];refine gw c ?_ (ih _ F2 L2 N' (Frm.BT (λt=>d1 t (z t)) hF') hh);intro e FA LA N2 ht;cases e
   case normal=>
    have hr2:rep k FA LA N2:=ht;exact⟨_,_,_,cZ.rfl,⟨k,hr2⟩,Nat.lt_succ_of_le ((hμ _ _ _ ⟨k,hr2⟩).2 k hr2)⟩
   all_goals exact ht
 |exit id=>intro Q F L N hF h;exact⟨F,L,rfl,rfl,hF,h⟩
 |ret=>intro Q F L N hF h;exact⟨F,L,rfl,rfl,hF,h⟩
 |rangeFunc f params x y _ _=>intro Q F L N hF h;cases h
 |scope c ih=>
  intro Q F L N hF h;refine gw c ?_ (ih _ F L N hF h);intro e FA LA N' ht;cases e<;>first|exact ht|(obtain⟨_,_,_,_,_,hh⟩:=ht;cases hh)
 |label l=>intro Q F L N hF h;exact⟨F,L,rfl,rfl,hF,h⟩
 |goto l=>intro Q F L N hF h;cases h
 |refuse s=>intro Q F L N hF h;cases h
def x9(P:Program)(n:Nat)(rs:List ResultVar)(F:Frm)(L:aJ):Option SV:=match j4 P n F L.at rs with
 |some l=>(match hm:gI (fD 3 L.at) l with
  |some (ps,m)=>(match(qX (sc 3 L.at) l (ps,m) hm).b with|true=>some (lO m)|false=>none)
  |none=>none)
 |none=>none
def PX(P:Program)(n:Nat)(rs:List ResultVar):uX:=λe F L _=>match e with
 | .normal=>x9 P n rs F L
 | .ret=>x9 P n rs F L
 |_=>none
def ZF{m:List SV}{u:List PV}(h2:avs m=u.map .p):(lO m).av= .p (jX u):=by
 cases m with
 |nil=>
  have:u=[] :=by have:=congrArg fg h2;simp[avs]at this;grind
  subst this;rfl
 |cons x m=>
  cases m with
  |nil=>
   cases u with
   |nil=>simp[avs]at h2
   |cons y u=>
    have h5:u=[] :=by have:=congrArg fg h2;simp only[avs,cV,iJ,iI,eB]at this;grind
    subst h5;simp only[avs,cV,lc,List.cons.injEq,and_true]at h2;exact h2
  |cons y m=>
   have h5:(lO (x::y::m)).av=gq (avs (x::y::m)):=rfl;rw[h5,h2];unfold gq;rw[cW];cases u with
   |nil=>simp[avs]at h2
   |cons a u=>
    cases u with
    |nil=>simp[avs]at h2
    |cons b u=>rfl
def Xt{P:Program}{n:Nat}{rs:List ResultVar}{v:SV}{e:Exit}{F:Frm}{L:aJ}{N:Nat}(h:PX P n rs e F L N=some v):∃q,v.av= .p q/\ra P rs q e (F.av n) L.fn N:=by
 have key:x9 P n rs F L=some v->∃q,v.av= .p q/\fV P rs (F.av n) L.fn λl=>∃m,cM (cq 3 L.fn) l=some m/\jX m=q:=by
  intro h;unfold x9 at h;split at h
  case h_2=>cases h
  rename_i l hl;split at h
  case h_2=>cases h
  rename_i ps m hm;split at h
  case h_2=>cases h
  rename_i hc;cases h;obtain⟨u,h1,h2⟩:=qh (λx ps y=>si) hm (Chk.h (self:=qX (sc 3 L.at) l (ps,m) hm) hc);exact⟨_,ZF h2,kr hl ⟨u,h1,rfl⟩⟩
 cases e<;>first|exact key h|cases h
def ub(X:Cx)(T:eJ)(M:iQ)(lf f:Nat)(args:List SV):Option SV:=match fy X.P f,X.P.funcs[f]? with
 |true,some fn=>(match fn.body with
  |some c=>(match iV args.length fn.ntmps,cw (λv=>match v.ape with|true=>false|false=>true) args with
   |true,true=>iP X T M fn.ntmps lf c (PX X.P fn.ntmps fn.results.toList) (j9 args 0) [] 0
   |_,_=>none)
  |none=>none)
 |_,_=>none
def GA{X:Cx}(hX:X.Ok){T:eJ}(hT:T.t.Ok X.P){M:iQ}(hM:mG X.P M){lf f:Nat}{args:List SV}{v:SV}{A:List PV}(hA:avs args=A.map .p)(h:ub X T M lf f args=some v)(hv:∃q,v.av= .p q):∃q,v.av= .p q/\Sat X.P false f A q:=by
 obtain⟨q,hq⟩:=hv;unfold ub at h;split at h
 case h_2=>cases h
 rename_i fn hok hf;split at h
 case h_2=>cases h
 rename_i c hb;split at h
 case h_2=>cases h
 rename_i hn hpe;have hn:=jJ hn;have hpe:∀v∈args,v.ape=false:=λv hv=>by have:=dH hpe v hv;grind
 have hal:(A.map AV.p).length=A.length:=by grind
 have hAF:A.map .p++bS (fn.ntmps-A.length) .undef=(j9 args 0).av fn.ntmps:=by rw[AU hn,hA,hal]
 refine⟨q,hq,vT hok hf hb (.inl ⟨Jh,rfl⟩) ?_⟩;rw[hAF];refine gw c ?_ (W4 hX hT hM c _ _ [] 0 (wc hpe) h);rintro e FA LA N' ⟨F',L',rfl,rfl,_,hh⟩;obtain⟨q',h1,h2⟩:=Xt hh;rw[hq]at h1;cases h1;exact h2
def isP(v:SV):Bool:=match v.av with
 | .p _=>true
 |_=>false
def PT(X:Cx)(T:eJ)(M:iQ)(lf f:Nat)(args:List SV):Option (List SV×SV):=match bJ (avs args)with
 |some _=>(match ub X T M lf f args with
  |some v=>(match isP v with|true=>some (args,v)|false=>none)
  |none=>none)
 |none=>none
def C3(X:Cx)(T:eJ)(M:iQ)(lf f:Nat):EC:=⟨⟨List SV×SV,PT X T M lf f,λ_=>[],.val false (·.2)⟩,λ_=>inferInstanceAs (Chk [])⟩
def Yf{X:Cx}(hX:X.Ok){T:eJ}(hT:T.t.Ok X.P){M:iQ}(hM:mG X.P M)(lf f:Nat):(C3 X T M lf f).c.Ok X.P f:=by
 intro xs x h _;unfold C3 PT at h;dsimp only at h;split at h
 case h_2=>cases h
 rename_i A hA;split at h
 case h_2=>cases h
 rename_i v hv;split at h
 case h_2=>cases h
 rename_i hp;cases h;have hA:=fR hA;obtain⟨q,h1,h2⟩:=GA hX hT hM hA hv (by
  unfold isP at hp;split at hp
  .rename_i q hq;exact⟨q,hq⟩
  .cases hp)
 exact⟨A,q,hA,h1,h2⟩
def xg(X:Cx)(T0:eJ)(M:iQ)(lf:Nat):Nat->eJ
 |0=>T0
 |k+1=>λf=>match T0 f with
  |some e=>some e
  |none=>some (C3 X (xg X T0 M lf k) M lf f)
def HF{X:Cx}(hX:X.Ok){T0:eJ}(h0:T0.t.Ok X.P){M:iQ}(hM:mG X.P M){lf:Nat}:∀k,(xg X T0 M lf k).t.Ok X.P
 |0=>h0
 |k+1=>by
  intro f c hc;unfold eJ.t xg at hc;split at hc
  .rename_i e he;cases hc;split at he
   .rename_i e' h1;cases he;exact h0 f _ (by unfold eJ.t;rw[h1])
   .cases he;exact Yf hX (HF hX h0 hM k) hM lf f
  .cases hc
end
section
variable {P:Program} {o:Oper} {E:Operand->AV} {σ:Nat->Option Ob} {n:Nat}
def W9{c:Call}{x y:Operand}{t t' e:TypeId}{s off m k:Nat}{ob:Ob}{cs:List PV}(ho:o.op= .call c)(hc:c.callee= .builtin .copy)(hargs:c.args= #[x,y])(hat:c.argTypes= #[t,t'])(ht:P.underlying t=some (.slice e))
  (hsz:(P.info? e).map (·.size)=some 1) (ex:E x= .own s off m) (ey:E y= .p (.sl k cs)) (hob:σ s=some ob) (he1:ob.esz=1) (hk:k=cs.length) (hoff:off+m<=ob.cells.length):
  bB P o E σ n (.p (.int .i64 (lm k m:Nat))) [s] [(s,some ⟨ob.ty,ob.esz,c7 ob.cells off ((cs.take (lm k m)).map .p)⟩)] :=by
 have he:ob.esz≠0:=by omega
 intro C0 ρ g V w B hs hB hR hn hgn hE;have g1:=hE x (by rw[ho];simp[cG,fz,hargs]);have g2:=hE y (by rw[ho];simp[cG,fz,hargs]);rw[ex]at g1;rw[ey]at g2;have hgs:g s=some ob:=by grind
 have hcl:∀v w',(Builtin.copy_ #[t,t'] o.type #[bF V x,bF V y]).run P w= .ok v w'->(execOp (bF V) o).run P w= .ok (.value v) w':=by intro v w' h;unfold execOp;simp only[ho,resolve,hc,invoke,builtin,hargs,hat,bo,cK,b9,List.map_toArray,cV,lc]at*;rw[h];rfl
 obtain⟨mn,hmn⟩:∃mn,mn=lm k m:=⟨_,rfl⟩;rw[<-hmn];have hmk:mn<=k:=by rw[hmn];exact Nat.min_le_left _ _
 have hmm:mn<=m:=by rw[hmn];exact Nat.min_le_right _ _
 obtain⟨l,hl⟩:∃l:List AV,l=(cs.take mn).map .p:=⟨_,rfl⟩;rw[<-hl];have hll:l.length=mn:=by rw[hl,eB,ew];omega
 obtain⟨q,cp,hρ,hcase⟩:=g1;obtain⟨a2,c2,hv2,hc2,hn2,hcc⟩:=g2;by_cases hm:mn=0
 .have hl0:l=[] :=ip.1 (by rw[hll,hm]);subst hl0;have hr:(Builtin.copy_ #[t,t'] o.type #[bF V x,bF V y]).run P w= .ok (goInt 0) w:=by
   rcases hcase with⟨_,hv,h0,_⟩|⟨b,p0,c',_,hv,_⟩
   .rw[hv,hv2];exact run_copy_none w t t' o.type e _ _ _ _ _ _ ht hsz (by rw[<-hm,hmn];first|rfl|(congr 1;omega))
   .rw[hv,hv2];exact run_copy_none w t t' o.type e _ _ _ _ _ _ ht hsz (by rw[<-hm,hmn])
  have hup:aX g [(s,some (⟨ob.ty,ob.esz,c7 ob.cells off []⟩:Ob))] =g:=by
   funext s'
   unfold aX;by_cases h:s'=s
   .subst h;simp[cL,c7,hgs]
   .simp[cL,beq_eq_false_iff_ne.2 h]
  unfold cX;rw[hcl _ _ hr,hup];exact⟨ρ,λ_ _=>rfl,λ_ _ _ h=>h,hs,by rw[hm];rfl,Below.refl _ _⟩
 have hm0:m≠0:=by omega
 have hk0:0<k:=by omega
 have hmc:lm mn cs.length=mn:=by rw[<-hk];exact Nat.min_eq_left hmk
 have hom:off+mn<=ob.cells.length:=by omega
 obtain⟨b,p0,c',rfl,hv,h5,h6,h7⟩:=hcase.resolve_left (λh=>hm0 h.2.2.1);have:=h6 hm0;subst this;obtain⟨hBb,arr,hO⟩:=hs.at hgs hρ;obtain⟨ad,rfl⟩:∃ad,a2=some ad:=by
  cases a2 with
  |none=>have:=(hn2 rfl).2;subst this;simp at hk;omega
  |some ad=>exact⟨ad,rfl⟩
 obtain⟨hspot,hcells⟩:=hcc ad rfl;have hspot:=hspot hk0;obtain⟨vs,hvl,hvc,hvr,r2⟩:=(hcells.take mn).vals;have hvl:vs.length=mn:=by rw[hvl,ew];exact hmc
 have r1:ao ρ (ak C0 B w ρ g) l vs:=by rw[hl];exact bK.toA hvr
 have hlen:=r1.length;have hoff:p0+l.length<=ob.cells.length:=by rw[hll];exact hom
 have hle:ob.cells.length<=arr.size:=(hO.row he).2.1;have hr:(Builtin.copy_ #[t,t'] o.type #[bF V x,bF V y]).run P w= .ok (goInt vs.length) (w.setRow b (arr.toList.take p0++vs++arr.toList.drop (p0+vs.length)).toArray):=by
  have hfit:p0+vs.length<=arr.size:=by rw[hvl,<-hll];exact Nat.le_trans hoff hle
  rw[hv,hv2];exact run_copy_row P w t t' o.type e b p0 m _ ad k c2 arr ob.ty vs ht hsz hO.blk (by rw[hvl,hmn]) (λj v hj=>by
   have:=(hvc j v hj).1;have e:ad.add j=⟨ad.block,ad.off+j,none⟩:=by
    obtain⟨a1,a2,a3⟩:=ad;cases hspot;unfold Addr.add;split
    .rename_i h;subst h;rfl
    .rfl
   rw[e];exact this) hfit r2
 unfold cX;rw[hcl _ _ hr];clear hcase hr;have hblk:(w.setRow b (arr.toList.take p0++vs++arr.toList.drop (p0+vs.length)).toArray).heap[b]? =some (.cells (arr.toList.take p0++vs++arr.toList.drop (p0+vs.length)).toArray ob.ty (0,0)):=setRow_heap w b arr _ ob.ty _ hO.blk;have hold:∀k,k≠b->(w.setRow b (arr.toList.take p0++vs++arr.toList.drop (p0+vs.length)).toArray).heap[k]? =w.heap[k]? :=by intro k hk;unfold uy;simp only[Array.getElem?_modify];rw[if_neg (by grind)]
 have hsize:(w.setRow b (arr.toList.take p0++vs++arr.toList.drop (p0+vs.length)).toArray).heap.size=w.heap.size:=by unfold uy;simp
 have hlk:∀s',s'≠s->[(s,some (⟨ob.ty,ob.esz,c7 ob.cells p0 l⟩:Ob))].lookup s'=none:=by intro s' hs';simp[cL,beq_eq_false_iff_ne.2 hs']
 have hup:∀s',s'≠s->aX g [(s,some ⟨ob.ty,ob.esz,c7 ob.cells p0 l⟩)] s'=g s':=by intro s' hs';unfold aX;rw[hlk s' hs']
 have hmono:∀b' o' x,ak C0 B w ρ g b' o' x->ak C0 B (w.setRow b (arr.toList.take p0++vs++arr.toList.drop (p0+vs.length)).toArray) ρ (aX g [(s,some ⟨ob.ty,ob.esz,c7 ob.cells p0 l⟩)]) b' o' x:=by
  intro b' o' x ⟨e1,e2,e0⟩;have hne:b'≠b:=λe=>by grind
  refine⟨(World.cell?_of_block (hold b' hne)).trans e1,?_,e0⟩;intro s' c' e3;by_cases e:s'=s
  .grind
  .grind
 refine⟨ρ,λ_ _=>rfl,hmono,?_,by rw[hvl];rfl,⟨rfl,rfl,rfl,by omega,by grind⟩⟩;refine hs.step (by grind) (λ_ _ h=>h) hmono ?_ ?_ λk es clock hk=>hold k (mA hk hO.blk)
 .intro s' o' b' c' e1 e2 e3;refine hold b' λe=> ?_;subst e;have:=hs.inj s s' ob o' b' cp c' hgs e2 hρ e3;grind
 .intro s' o' e;have e1:s'=s:=by
   rcases Nat.decEq s' s with h|h
   .grind
   .exact h
  subst e1;have e2:o'=⟨ob.ty,ob.esz,c7 ob.cells p0 l⟩:=by simp[cL]at e;exact e.symm
  subst e2;have hasz:(arr.toList.take p0++vs++arr.toList.drop (p0+vs.length)).toArray.size=arr.size:=by simp[ew];omega
  refine⟨some b,cp,hρ,.inr ⟨b,_,rfl,hBb,⟨hblk,?_,?_,?_⟩,?_⟩⟩
  .intro hz;rw[hasz,hO.box hz];exact(mw _ _ _).symm
  .intro hz;obtain⟨k1,k2,k3⟩:=hO.row hz;rw[hasz];exact⟨k1,by rw[mw];exact k2,k3⟩
  .intro j y hj;rcases v7 l ob.cells p0 hoff j y hj with⟨h1,h2⟩|⟨h1,h2⟩
   .obtain⟨u,k1,k2⟩:=r1.get _ _ _ y h2;refine⟨u,?_,r2 u (by grind),aU.mono (λ_ _ h=>h) hmono y u k2⟩;grind
   .obtain⟨u,k1,k3,k2⟩:=hO.cells j y h2;refine⟨u,?_,k3,aU.mono (λ_ _ h=>h) hmono y u k2⟩;grind
  .intro s2 o' c' hne e3 e4;rw[hup s2 hne]at e3;exact hne (hs.inj s' s2 ob o' b cp c' hgs e3 hρ e4).symm
def E7{op:BinOp}{t t':TypeId}{x y:Operand}(ho:o.op= .binOp op t x y t'){k k':IntKind}{a b:Int}(ea:E x= .p (.int k a))(eb:E y= .p (.int k' b))(hb:0<=b){r:Int}(hr:(op= .shl/\r=k.wrap (a*2^min b.toNat k.bits))\/(op= .shr/\r=a.fdiv (2^min b.toNat k.bits))):bB P o E σ n (.p (.int k r)) [] [] :=by
 have hx:x∈o.op.operands.toList:=by rw[ho];simp[cG]
 have hy:y∈o.op.operands.toList:=by rw[ho];simp[cG]
 refine bB.val ?_;intro ρ C V w hE;have h1:=hE x hx;have h2:=hE y hy;rw[ea]at h1;rw[eb]at h2;unfold aU a8 at h1 h2;have h3:(do eqGuard op t x y (.int k a) (.int k' b);binOp op t (.int k a) (.int k' b):Sem Value).run P w= .ok (.int k r) w:=by
  rcases hr with⟨rfl,rfl⟩|⟨rfl,rfl⟩
  .simp only[eqGuard,binOp,Op.shift,bo,cK,b9,if_neg (show¬b<0 by omega)];rfl
  .simp only[eqGuard,binOp,Op.shift,bo,cK,b9,if_neg (show¬b<0 by omega)];rfl
 refine⟨.int k r,?_,by rfl⟩;unfold execOp;rw[ho];simp only[h1,h2,bo (x:=(do eqGuard op t x y (.int k a) (.int k' b);binOp op t (.int k a) (.int k' b):Sem Value)),h3,b9,cK]
def YN{t:TypeId}{x i:Operand}(ho:o.op= .index t x i){s:ByteArray}{k:IntKind}{m:Nat}{b:UInt8}(ht:P.underlying t=some .string)(ex:E x= .p (.str s))(ei:E i= .p (.int k (m:Int)))(hb:s[m]? =some b):bB P o E σ n (.p (.int .u8 (b.toNat:Nat))) [] [] :=by
 have hx:x∈o.op.operands.toList:=by rw[ho];simp[cG]
 have hy:i∈o.op.operands.toList:=by rw[ho];simp[cG]
 refine bB.val ?_;intro ρ C V w hE;have h1:=hE x hx;have h2:=hE i hy;rw[ex]at h1;rw[ei]at h2;unfold aU a8 at h1 h2;refine⟨.int .u8 (b.toNat:Nat),?_,by rfl⟩;unfold execOp;rw[ho];simp[h1,h2,Instr.index,asIntOf,run_underlying ht,hb]
end
noncomputable section
set_option warn.classDefReducibility false
def mkE(P:Program)(n:Nat)(σ:Sg)(t:TypeId)(x y:SV):Option (SV×List Nat×aJ):=match x,y with
 | .int _ (.ofNat m),.int _ (.ofNat m')=>(match ae m' m,bu P t,frs σ n with
   |true,some e,true=>(match P.info? e,pg P e with
    |some i,some (z::zs)=>(match iV (m*aj P e) 1000000,iV (m*i.bytes) 1000000000 with
     |true,true=>some (.ownx n m,[],[(n,some (.arr e (aj P e) (rb m (z::zs))))])
     |_,_=>none)
    |_,_=>none)
   |_,_,_=>none)
 |_,_=>none
def ZO{P:Program}{n:Nat}{o:Oper}{E:SE}{σ:Sg}{t:TypeId}{x y:Operand}(ho:o.op= .makeSlice t x y){r:SV}{rd:List Nat}{W:aJ}(h:mkE P n σ t (E x) (E y)=some (r,rd,W)):
  AOp P n o E.a σ.a (λr' R' W'=>r'=r.av/\bI σ rd W R' W')/\r.ok:=by
 unfold mkE at h;split at h
 case h_2=>cases h
 rename_i k1 m k2 m' ex ey;split at h
 case h_2=>cases h
 rename_i e hm he hf;have hm:=bp hm;subst hm;split at h
 case h_2=>cases h
 rename_i i z zs hi hz;split at h
 case h_2=>cases h
 rename_i b1 b2;cases h;obtain⟨f1,f2⟩:=gj hf;obtain⟨z1,z2⟩:=o7 hz;refine⟨?_,trivial⟩;unfold AOp;rw[ho];dsimp only;refine .inl ⟨k1,k2,m',e,_,i,?_,?_,he,hi,z1,z2,by simp[avs],jJ b1,jJ b2,?_,?_⟩
 .unfold SE.a;rw[ex];rfl
 .unfold SE.a;rw[ey];rfl
 .show _=AV.own (aD n) 0 _;rw[f1]
 .rw[<-Ah];exact bI.new (ob:= .arr e (aj P e) (rb m' (z::zs))) f2 f1 rfl
def slE(P:Program)(t:TypeId)(x:SV)(lo hi:Option Int):Option SV:=match x,bu P t with
 | .sl m cs,some e=>(match(P.info? e).isSome,ae (aj P e) 0,bJ (avs cs)with
   |true,false,some _=>(match(inferInstance:Decidable (0<=lo.getD 0/\lo.getD 0<=hi.getD m/\hi.getD m<=m))with
    | .isTrue _=>some (.sl ((hi.getD m).toNat-(lo.getD 0).toNat) ((cs.take ((hi.getD m).toNat*aj P e)).drop ((lo.getD 0).toNat*aj P e)))
    | .isFalse _=>none)
   |_,_,_=>none)
 |_,_=>none
def Y4{P:Program}{n:Nat}{o:Oper}{E:SE}{σ:Sg}{t:TypeId}{x:Operand}{lo hi:Option Operand}(ho:o.op= .slice t x lo hi none){a b:Option Int}(ha:lS E lo=some a)(hb:lS E hi=some b){r:SV}(h:slE P t (E x) a b=some r):
  AOp P n o E.a σ.a (λr' R' W'=>r'=r.av/\bI σ [] [] R' W')/\r.ok:=by
 unfold slE at h;split at h
 case h_2=>cases h
 rename_i m cs e ex he;split at h
 case h_2=>cases h
 rename_i q h1 h2 hq;split at h
 case h_2=>cases h
 rename_i hd _;cases h;refine⟨?_,trivial⟩;unfold AOp;rw[ho];dsimp only;have key:∀(z:Option Operand) (c:Option Int) (d:Int),lS E z=some c->loA E.a z d=some (c.getD d):=by
  intro z c d hz;cases z with
  |none=>cases hz;rfl
  |some z=>
   unfold lS at hz;dsimp only at hz;split at hz<;>cases hz;rename_i k hk;exact H9 hk
 have e1:(E x).av= .p (.sl m q):=by rw[ex];simp only[SV.av,hq]
 have e2:qv ((E x).av)=m:=by rw[e1];rfl
 have e0:E.a x=(E x).av:=rfl;rw[e0,key lo a 0 ha,key hi b _ hb,e1];have e3:qv (.p (.sl m q))=(m:Int):=rfl;rw[e3];refine⟨e,_,_,he,h1,f9 h2,rfl,rfl,hd.1,hd.2.1,hd.2.2,?_,bI.read σ []⟩;have e4:avs ((cs.take ((b.getD m).toNat*aj P e)).drop ((a.getD 0).toNat*aj P e))=((q.take ((b.getD m).toNat*aj P e)).drop ((a.getD 0).toNat*aj P e)).map .p:=by rw[wM,tF,fR hq,List.map_drop,sD]
 simp only[SV.av,e4,cW]
def cpE(P:Program)(σ:Sg)(t:TypeId)(x y:SV):Option (SV×List Nat×aJ):=match x,y with
 | .ownx s m,.sl k cs=>(match σ s,bu P t with
   |some (.arr ty ez ds),some e=>(match P.info? e,ae ez 1,bJ (avs cs)with
    |some i,true,some _=>(match ae i.size 1,ae k cs.length,iV m ds.length with
     |true,true,true=>some (.int .i64 (lm k m:Nat),[s],[(s,some (.arr ty ez (jW ds 0 (cs.take (lm k m)))))])
     |_,_,_=>none)
    |_,_,_=>none)
   |_,_=>none)
 |_,_=>none
def Zn{P:Program}{n:Nat}{o:Oper}{E:SE}{σ:Sg}{c:Call}{t t':TypeId}{x y:Operand}(ho:o.op= .call c)(hc:c.callee= .builtin .copy)(hargs:c.args= #[x,y])(hat:c.argTypes= #[t,t']){r:SV}{rd:List Nat}{W:aJ}(h:cpE P σ t (E x) (E y)=some (r,rd,W)):
  (∃R' W',bB P o E.a σ.a n r.av R' W'/\bI σ rd W R' W')/\r.ok:=by
 unfold cpE at h;split at h
 case h_2=>cases h
 rename_i s m k cs ex ey;split at h
 case h_2=>cases h
 rename_i ty ez ds e hs he;split at h
 case h_2=>cases h
 rename_i i q hi h1 hq;split at h
 case h_2=>cases h
 rename_i h2 h3 h4;cases h;have h1:=bp h1;have h2:=bp h2;have h3:=bp h3;have h4:=jJ h4;subst h1;have hqq:=fR hq;have hql:q.length=cs.length:=by have:=congrArg fg hqq;simpa[fh]using this.symm
 have e1:E.a x= .own (aD s) 0 m:=by unfold SE.a;rw[ex];rfl
 have e2:E.a y= .p (.sl k q):=by unfold SE.a;rw[ey];simp only[SV.av,hq]
 have:=W9 (P:=P) (E:=E.a) (σ:=σ.a) (n:=n) ho hc hargs hat (iw he) (by rw[hi];simp[h2]) e1 e2 (by rw[Sg.bW,hs];rfl) rfl (by rw[h3,hql]) (by rw[gc];show m<=(avs ds).length;rw[fh];exact h4);refine⟨⟨_,_,this,?_⟩,trivial⟩;have e3:c7 (avs ds) 0 ((q.take (lm k m)).map .p)=avs (jW ds 0 (cs.take (lm k m))):=by rw[qd,tF,hqq,sD]
 have f:=bI.flat (σ:=σ) (rd:=[s]) (W:=[(s,some (.arr ty 1 (jW ds 0 (cs.take (lm k m)))))]) λq hq=>by rw[bM.1 hq,hs];exact⟨rfl,rfl⟩
 have e4:aJ.sto [(s,some (.arr ty 1 (jW ds 0 (cs.take (lm k m)))))] =[(aD s,some ⟨ty,1,c7 (avs ds) 0 ((q.take (lm k m)).map .p)⟩)] :=by rw[e3];rfl
 rw[e4]at f;exact f
def shE(op:BinOp)(x y:SV):Option SV:=match x,y with
 | .int k a,.int _ (.ofNat m)=>(match op with
   | .shl=>some (.int k (PR k a m))
   | .shr=>some (.int k (mO k a m))
   |_=>none)
 |_,_=>none
def Y5{P:Program}{n:Nat}{o:Oper}{E:SE}{σ:Sg}{op:BinOp}{t t':TypeId}{x y:Operand}(ho:o.op= .binOp op t x y t'){r:SV}(h:shE op (E x) (E y)=some r):(∃R' W',bB P o E.a σ.a n r.av R' W'/\bI σ [] [] R' W')/\r.ok:=by
 unfold shE at h;split at h
 case h_2=>cases h
 rename_i k a k' m ex ey;have e1:E.a x= .p (.int k a):=by unfold SE.a;rw[ex];rfl
 have e2:E.a y= .p (.int k' (m:Int)):=by unfold SE.a;rw[ey];rfl
 split at h<;>cases h
 .exact⟨⟨_,_,E7 ho e1 e2 (yd _) (.inl ⟨rfl,rfl⟩),bI.read σ []⟩,trivial⟩
 .exact⟨⟨_,_,E7 ho e1 e2 (yd _) (.inr ⟨rfl,rfl⟩),bI.read σ []⟩,trivial⟩
def idE(P:Program)(t:TypeId)(x i:SV):Option SV:=match x,i,P.underlying t with
 | .str s,.int _ (.ofNat m),some .string=>(match s[m]? with|some b=>some (.int .u8 (b.toNat:Nat))|none=>none)
 |_,_,_=>none
def ZW{P:Program}{n:Nat}{o:Oper}{E:SE}{σ:Sg}{t:TypeId}{x i:Operand}(ho:o.op= .index t x i){r:SV}(h:idE P t (E x) (E i)=some r):(∃R' W',bB P o E.a σ.a n r.av R' W'/\bI σ [] [] R' W')/\r.ok:=by
 unfold idE at h;split at h
 case h_2=>cases h
 rename_i s k m ex ei ht;split at h<;>cases h;rename_i b hb;exact⟨⟨_,_,YN ho ht (by unfold SE.a;rw[ex];rfl) (by unfold SE.a;rw[ei];rfl) hb,bI.read σ []⟩,trivial⟩
def xO(P:Program):iQ:=λn o E σ=>match o with
 | .makeSlice t a b=>mkE P n σ t (E a) (E b)
 | .slice t x lo hi none=>(match lS E lo,lS E hi with
   |some a,some b=>(match slE P t (E x) a b with|some r=>some (r,[],[])|none=>none)
   |_,_=>none)
 | .call {callee:= .builtin .copy,args:=⟨[x,y]⟩,argTypes:=⟨[t,_]⟩}=>cpE P σ t (E x) (E y)
 | .index t x i=>(match idE P t (E x) (E i)with|some r=>some (r,[],[])|none=>none)
 | .binOp op _ x y _=>(match shE op (E x) (E y)with|some r=>some (r,[],[])|none=>none)
 |_=>none
def GN(P:Program):mG P (xO P):=by
 intro n o E σ r rd W hE h;generalize ho:o.op=op at h;have fin:AOp P n o E.a σ.a (λr' R' W'=>r'=r.av/\bI σ rd W R' W')/\r.ok->(∃R' W',bB P o E.a σ.a n r.av R' W'/\bI σ rd W R' W')/\r.ok:=by rintro⟨h1,h2⟩;obtain⟨r',R',W',h3,rfl,h4⟩:=zd h1;exact⟨⟨R',W',h3,h4⟩,h2⟩
 unfold xO at h;split at h
 .exact fin (ZO ho h)
 .split at h
  .rename_i a b ha hb;split at h<;>cases h;rename_i hr;exact fin (Y4 ho ha hb hr)
  .cases h
 .exact Zn ho rfl rfl rfl h
 .split at h<;>cases h;rename_i hr;exact ZW ho hr
 .split at h<;>cases h;rename_i hr;exact Y5 ho hr
 .cases h
def EC.at{X:Type}(dec:List SV->Option X)(t:X->Bool)(fr:Bool)(r:SV):EC:=⟨⟨Unit,λxs=>match dec xs with
 |some x=>(match t x with|true=>some ()|false=>none)
 |none=>none,λ_=>[],.val fr λ_=>r⟩,λ_=>inferInstanceAs (Chk [])⟩
def xb{P:Program}{f:Nat}{X:Type}{dec:List SV->Option X}{pre:X->List Prop}{fr:Bool}{res:X->SV}(h:Con.Ok P f ⟨X,dec,pre,.val fr res⟩){t:X->Bool}{x0:X}{r:SV}(ht:∀x,t x=true->x=x0)(hp:∀p∈pre x0,p)(hr:(res x0).av=r.av):(EC.at dec t fr r).c.Ok P f:=by
 intro xs u hd _;change (match dec xs with|some x=>(match t x with|true=>some ()|false=>none)|none=>none)=some u at hd;split at hd
 .rename_i x hx;split at hd
  .rename_i h1;have:=ht x h1;subst this;obtain⟨A,q,h1,h2,h3⟩:=h xs x hx hp;exact⟨A,q,h1,by rw[<-hr];exact h2,h3⟩
  .cases hd
 .cases hd
def ZB{X:Cx}(hX:X.Ok){T:eJ}(hT:T.t.Ok X.P){M:iQ}(hM:mG X.P M){lf f:Nat}{α:Type}{A:Arl α}(x0:α){t:α->Bool}{v:SV}(ht:∀x,t x=true->x=x0)(hv:isP v=true)(h:ub X T M lf f (A.enc x0)=some v):(EC.at A.dec t false v).c.Ok X.P f:=by
 intro xs u hd _;change (match A.dec xs with|some x=>(match t x with|true=>some ()|false=>none)|none=>none)=some u at hd;split at hd
 .rename_i x hx;split at hd
  .rename_i h1;have:=ht x h1;subst this;obtain⟨B,hB⟩:=A.pl x;obtain⟨q,h2,h3⟩:=GA hX hT hM hB h (by
    unfold isP at hv;split at hv
    .rename_i q hq;exact⟨q,hq⟩
    .cases hv)
   exact⟨B,q,by rw[A.ok xs x hx,hB],h2,h3⟩
  .cases hd
 .cases hd
def uR{X:Type}:List ((X->Bool)×SV)->X->Option SV
 |[],_=>none
 |(t,v)::l,x=>match t x with|true=>some v|false=>uR l x
def EC.pts{X:Type}(dec:List SV->Option X)(l:List ((X->Bool)×SV)):EC:=⟨⟨SV,λxs=>match dec xs with
 |some x=>uR l x
 |none=>none,λ_=>[],.val false λv=>v⟩,λ_=>inferInstanceAs (Chk [])⟩
def ZD{P:Program}{f:Nat}{X:Type}{dec:List SV->Option X}:∀{l:List ((X->Bool)×SV)},(∀q∈l,(EC.at dec q.1 false q.2).c.Ok P f)->(EC.pts dec l).c.Ok P f:=by
 intro l hl xs v hd _;change (match dec xs with|some x=>uR l x|none=>none)=some v at hd;split at hd
 .rename_i x hx;have key:∀l:List ((X->Bool)×SV),uR l x=some v->∃q∈l,q.1 x=true/\q.2=v:=by
   intro l;induction l with
   |nil=>intro h;cases h
   |cons q l ih=>
    obtain⟨t,u⟩:=q;intro h;unfold uR at h;split at h
    .rename_i h1;cases h;exact⟨_,eG,h1,rfl⟩
    .obtain⟨q,h1,h2⟩:=ih h;exact⟨q,dK _ h1,h2⟩
  obtain⟨q,h1,h2,rfl⟩:=key l hd;exact hl q h1 xs () (by show(match dec xs with|some x=>(match q.1 x with|true=>some ()|false=>none)|none=>none)=some ();rw[hx];dsimp only;rw[h2]) (λp hp=>(dg hp).elim)
 .cases hd
def xF:List (Nat×EC)->eJ
 |[],_=>none
 |(g,c)::l,f=>match ae f g with|true=>some c|false=>xF l f
def Fr{P:Program}:∀{l:List (Nat×EC)},(∀q∈l,q.2.c.Ok P q.1)->(xF l).t.Ok P
 |[],_=>λf c h=>by cases h
 |(g,e)::l,hl=>by
  intro f c h;unfold eJ.t xF at h;split at h
  .rename_i e' he;cases h;split at he
   .rename_i hb;cases he;rw[bp hb];exact hl _ eG
   .exact Fr (l:=l) (λq hq=>hl q (dK _ hq)) f _ (by unfold eJ.t;rw[he])
  .cases h
end
noncomputable def aC0:Con:=C4 (ac (aL .S) (a1 (aF 42))) (λ(l,_)=>[l.length<=1000000]) (λ(l,_)=> .bool (l.any ff)) (ac (aL .S) (a1 C7)) (λ(l,_)=>[l.length<=1000000]) (λ(l,_)=> .bool (l.any fN))
noncomputable def N6:Tab:=ap [(41,aC0)] NS
def Bv:N6.Ok aH:=aq Z6 ⟨IW Pf Pe,trivial⟩
noncomputable def a54(p:Pl)(b:Nat):List SV->aJ->List (Nat×Ann):=λ_ _=>
 [lp 7 44 (cyP p aC).length (λ_=>[]) [] (λ_=>[]) (λk=>[(b+23,.row 3 .I (ph1 p k).1),(b+32,.row 3 .I (ph1 p k).2.1),(b+17,.fam 49 43 .Q (ph1 p k).2.2 []),(19,.box 29 [.lst .S p.sg,.lst .T p.vs,.own 902 .E p.es.length,.owF (b+17) (ph1 p k).2.2.length])]) λk=>
   [lp 11 54 (aO (cyP p aC) k).length (λ_=>[]) [] (λ_=>[]) (λj=>[(b+32,.row 3 .I (ofC k (ph1 p k).2.1 (aO (cyP p aC) k) j))]),
    jU 16 [(69,.bool (!inP p (aO (cyP p aC) k) (lvP p aC)))],
    (10017,.mk Unit (λ_ _=>some ()) [] (λ_=>[]) (λ_=>[]) (λ_=>[(b+23,.row 3 .I (((ph1 p k).1.set k (-1)).set k ((ph1 p k).2.2.length:Int)))]) (λ_=>0) (λ_=>[]))],
  lp 22 94 (cyP p aC).length (λ_=>[]) [] (λ_=>[]) (λk=>[(b+23,.row 3 .I (ph2 p k).1),(b+17,.fam 49 43 .Q (ph2 p k).2 [])]) λk=>
   [jb 25 14 (ouP (ph2 p k).1 (ph2 p k).2 (aO (cyP p aC) k) k)],
  lp 30 169 p.es.length (λ_=>[]) [] (λ_=>[]) (λe=>[(902,.row 45 .E (ph3 p (ph1 p (cyP p aC).length).2.1 (ph2 p (cyP p aC).length).1 e))])]
noncomputable def un(p:Pl)(b:Nat):List SV->aJ->List (Nat×Ann):=λxs L=>match xs with
 | .int _ (.ofNat k)::_=>(match L.at (b+23)with
   |some (.row _ .I fa)=>[(10006,.mk Unit (λ_ _=>some ()) [] (λ_=>[]) (λ_=>[]) (λ_=>[(b+23,.row 3 .I (fdP p (ph1 p (cyP p aC).length).2.1 fa (aO (cyP p aC) k) k))]) (λ_=>0) (λ_=>[]))]
   |_=>[])
 |_=>[]
noncomputable def wE(m:Nat):Frm->aJ->Option (MF×List Ed):=λ_ L=>match L.at m,L.at 19 with
 |some (.it _ M),some (.box _ [_,_,.own s _ _,_])=>(match L.at s with|some (.row _ .E es)=>some (M,es)|_=>none)
 |some (.it _ M),some (.box _ [_,_,.nil,_])=>some (M,[])
 |_,_=>none
noncomputable def Q8:Con:=con (a1 (aL .S)) (λl=>[l.length<=1000,(dP l=0->BdOk l)]) (λl=> .tup [.agg [.lst .S (bN l).sg,.lst .T (bN l).vs,.lst .E (bN l).es,.lst .F (bN l).fs],.int .i64 (dP l)])
def Pg:Q8.Ok aH 13:=Ye (uG Bv) (D:=λl=>Cn (cxI N6) RY (a54 (aA l) 921) (un (aA l) 921)) (λ_=>YM (uG Bv) rfl) (Za (uG Bv) rfl) (raw:=au) (λl=>[lp 11 37 l.length (λ_=>[]) [901,902] (λk=>[(6,.own 901 .U k)]) (λk=>[(901,.row 25 .U (onP l k)),(19,.box 29 [.lst .S l,.own 902 .T (vsK l k).length,.nil,.nil]),(902,.row 60 .T (vsK l k))]),
  (10018,.mk Unit (λ_ _=>some ()) [902] (λ_=>[]) (λ_=>[]) (λ_=>[(19,.box 29 [.lst .S l,.lst .T (vsP l),.own 902 .E 0,.nil]),(902,.row 45 .E [])]) (λ_=>0) (λ_=>[])),
  lp 20 65 l.length (λ_=>[]) [] (λ_=>[]) (λk=>[(907,.mf (cU l k))]) λk=>
  [jU 22 [(9,.int .i64 (k:Int)),(10,.lst .T (bC l k))],lp 24 72 (bC l k).length (λ_=>[]) [] (λj=>[(11,.int .i64 (fm (vsP l) (bC l k) j))]) (λj=>[(907,.mf (dI (vsP l) (bC l k) k (cU l k) j))]) λj=>
  [(10029,.mk Unit (λ_ _=>some ()) [] (λ_=>[]) (λ_=>[]) (λ_=>[(907,.mf (dI (vsP l) (bC l k) k (cU l k) (j+1)))]) (λ_=>0) (λ_=>[]))]],
  (33,.mk (MF×List Ed) (wE 907) [902] (λy=>[(y.2++edM y.1).Perm (edM (cU l l.length))]) (λ_=>[]) (λy=>[(907,.it none y.1),(19,.box 29 [.lst .S l,.lst .T (vsP l),.own 902 .E y.2.length,.nil]),(902,.row 45 .E y.2)]) (λy=>y.1.length) λ_=>[]),
  (10037,.mk Unit (λ_ _=>some ()) [] (λ_=>[]) (λ_=>[]) (λ_=>[(19,.box 29 [.lst .S l,.lst .T (vsP l),.own 902 .E (esP l).length,.nil]),(902,.row 45 .E (esP l))]) (λ_=>0) (λ_=>[]))]) (λ_=>⟨_,rfl⟩) λl hp=>aw (q:=l.length<=1000000/\(iu l ff=true->(bN l).sg=([] :List aDc)/\(bN l).vs=([] :List Pt)/\(bN l).es=([] :List Ed)/\(bN l).fs=([] :List (List (List Int)))/\1=dP l)/\
 (iu l ff=false->l.length<=1000000/\(iu l fN=true->(bN l).sg=([] :List aDc)/\(bN l).vs=([] :List Pt)/\(bN l).es=([] :List Ed)/\(bN l).fs=([] :List (List (List Int)))/\2=dP l)/\
  (iu l fN=false->(200<(l.length:Int)->(bN l).sg=([] :List aDc)/\(bN l).vs=([] :List Pt)/\(bN l).es=([] :List Ed)/\(bN l).fs=([] :List (List (List Int)))/\9=dP l)/\
   (¬200<(l.length:Int)->l.length<=1000000/\(0=(0:Int)/\(0:Nat)=0/\onP l 0=([] :List (List Pt))/\l=l/\(vsK l 0).length=0/\vsK l 0=([] :List Pt)/\(0:Nat)<=l.length)/\
    (∀x:Nat,x<=l.length->((x:Int)<l.length->l.length<=1000/\x<l.length/\(∀p:Pt,p∈aa l x l.length->POk p)/\x=(onP l x).length/\(onP l x).length+[bC l x].length<=1000000/\ix (x:Int) (onP l x++[bC l x]).length/\x<(onP l x++[bC l x]).length/\(vsK l x).length=(vsK l x).length/\(vsK l x).length+(pq (onP l x++[bC l x]) x).length<=1000000/\aG ((x:Int)+1)/\(x:Int)+1=((x+1:Nat):Int)/\(onP l x++[bC l x]).length=x+1/\onP l x++[bC l x] =onP l (x+1)/\l=l/\(vsK l x++pq (onP l x++[bC l x]) x).length=(vsK l (x+1)).length/\vsK l x++pq (onP l x++[bC l x]) x=vsK l (x+1)/\x+1<=l.length/\l.length-(x+1)<l.length-x)/\
     (¬(x:Int)<l.length->(vsK l x).length=(vsK l x).length/\(vsK l x).length<=1000000/\(∀p:Pt,p∈vsK l x->POk p)/\((((vsK l x).length:Int)<2->(vsK l x).length=(aY (ltC aW) (vsK l x)).length/\l=l/\aY (ltC aW) (vsK l x)=vsP l/\(0:Nat)=0/\([] :List Ed)=([] :List Ed))/\
       (¬((vsK l x).length:Int)<2->(1=(1:Int)/\(1:Nat)<=(vsK l x).length/\(1:Nat)<=1/\cmD (aY (ltC aW) (vsK l x)) 1)/\
        (∀x_1:Nat,x_1<=(vsK l x).length/\(1:Nat)<=x_1/\cmD (aY (ltC aW) (vsK l x)) x_1->((x_1:Int)<(vsK l x).length->ix (x_1:Int) (vsK l x).length/\x_1<(aY (ltC aW) (vsK l x)).length/\aG ((x_1:Int)-1)/\ix ((x_1:Int)-1) (vsK l x).length/\((x_1:Int)-1).toNat<(aY (ltC aW) (vsK l x)).length/\([(aQ (aY (ltC aW) (vsK l x)) x_1).x,(aQ (aY (ltC aW) (vsK l x)) x_1).y,(aQ (aY (ltC aW) (vsK l x)) x_1).den] =[(aQ (aY (ltC aW) (vsK l x)) ((x_1:Int)-1).toNat).x,(aQ (aY (ltC aW) (vsK l x)) ((x_1:Int)-1).toNat).y,(aQ (aY (ltC aW) (vsK l x)) ((x_1:Int)-1).toNat).den]->(0<=(x_1:Int)/\(x_1:Int)<=(vsK l x).length)/\(1=(1:Int)/\(x_1:Int)=((x_1+(cmW (aY (ltC aW) (vsK l x)) x_1 1).length:Nat):Int)/\aY (ltC aW) (vsK l x)=cmR (aY (ltC aW) (vsK l x)) x_1 1/\(1:Nat)<=1/\(1:Nat)<=(vsK l x).length-x_1)/\
           (∀x_2:Nat,(1:Nat)<=x_2/\x_2<=(vsK l x).length-x_1->((x_2:Int)<(((vsK l x).length-x_1:Nat):Int)->ix (x_2:Int) ((vsK l x).length-x_1)/\x_1+x_2<(cmR (aY (ltC aW) (vsK l x)) x_1 x_2).length/\aG ((x_2:Int)-1)/\ix ((x_2:Int)-1) ((vsK l x).length-x_1)/\x_1+((x_2:Int)-1).toNat<(cmR (aY (ltC aW) (vsK l x)) x_1 x_2).length/\(¬[(aQ (cmR (aY (ltC aW) (vsK l x)) x_1 x_2) (x_1+x_2)).x,(aQ (cmR (aY (ltC aW) (vsK l x)) x_1 x_2) (x_1+x_2)).y,(aQ (cmR (aY (ltC aW) (vsK l x)) x_1 x_2) (x_1+x_2)).den] =[(aQ (cmR (aY (ltC aW) (vsK l x)) x_1 x_2) (x_1+((x_2:Int)-1).toNat)).x,(aQ (cmR (aY (ltC aW) (vsK l x)) x_1 x_2) (x_1+((x_2:Int)-1).toNat)).y,(aQ (cmR (aY (ltC aW) (vsK l x)) x_1 x_2) (x_1+((x_2:Int)-1).toNat)).den]->ix (x_2:Int) ((vsK l x).length-x_1)/\x_1+x_2<(cmR (aY (ltC aW) (vsK l x)) x_1 x_2).length/\ix ((x_1+(cmW (aY (ltC aW) (vsK l x)) x_1 x_2).length:Nat):Int) (vsK l x).length/\x_1+(cmW (aY (ltC aW) (vsK l x)) x_1 x_2).length<(cmR (aY (ltC aW) (vsK l x)) x_1 x_2).length/\aG (((x_1+(cmW (aY (ltC aW) (vsK l x)) x_1 x_2).length:Nat):Int)+1)/\aG ((x_2:Int)+1)/\(x_2:Int)+1=((x_2+1:Nat):Int)/\((x_1+(cmW (aY (ltC aW) (vsK l x)) x_1 x_2).length:Nat):Int)+1=((x_1+(cmW (aY (ltC aW) (vsK l x)) x_1 (x_2+1)).length:Nat):Int)/\cR (cmR (aY (ltC aW) (vsK l x)) x_1 x_2) (x_1+(cmW (aY (ltC aW) (vsK l x)) x_1 x_2).length) (aQ (cmR (aY (ltC aW) (vsK l x)) x_1 x_2) (x_1+x_2))=cmR (aY (ltC aW) (vsK l x)) x_1 (x_2+1)/\(1:Nat)<=x_2+1/\x_2+1<=(vsK l x).length-x_1/\(vsK l x).length-(x_2+1)<(vsK l x).length-x_2)/\
             (¬(¬[(aQ (cmR (aY (ltC aW) (vsK l x)) x_1 x_2) (x_1+x_2)).x,(aQ (cmR (aY (ltC aW) (vsK l x)) x_1 x_2) (x_1+x_2)).y,(aQ (cmR (aY (ltC aW) (vsK l x)) x_1 x_2) (x_1+x_2)).den] =[(aQ (cmR (aY (ltC aW) (vsK l x)) x_1 x_2) (x_1+((x_2:Int)-1).toNat)).x,(aQ (cmR (aY (ltC aW) (vsK l x)) x_1 x_2) (x_1+((x_2:Int)-1).toNat)).y,(aQ (cmR (aY (ltC aW) (vsK l x)) x_1 x_2) (x_1+((x_2:Int)-1).toNat)).den])->aG ((x_2:Int)+1)/\(x_2:Int)+1=((x_2+1:Nat):Int)/\((x_1+(cmW (aY (ltC aW) (vsK l x)) x_1 x_2).length:Nat):Int)=((x_1+(cmW (aY (ltC aW) (vsK l x)) x_1 (x_2+1)).length:Nat):Int)/\cmR (aY (ltC aW) (vsK l x)) x_1 x_2=cmR (aY (ltC aW) (vsK l x)) x_1 (x_2+1)/\(1:Nat)<=x_2+1/\x_2+1<=(vsK l x).length-x_1/\(vsK l x).length-(x_2+1)<(vsK l x).length-x_2))/\
            (¬(x_2:Int)<(((vsK l x).length-x_1:Nat):Int)->(0<=((x_1+(cmW (aY (ltC aW) (vsK l x)) x_1 x_2).length:Nat):Int)/\((x_1+(cmW (aY (ltC aW) (vsK l x)) x_1 x_2).length:Nat):Int)<=(vsK l x).length)/\x_1+(cmW (aY (ltC aW) (vsK l x)) x_1 x_2).length+((vsK l x).length-(x_1+(cmW (aY (ltC aW) (vsK l x)) x_1 x_2).length))<=(cmR (aY (ltC aW) (vsK l x)) x_1 x_2).length/\(0<=((x_1+(cmW (aY (ltC aW) (vsK l x)) x_1 x_2).length:Nat):Int)/\((x_1+(cmW (aY (ltC aW) (vsK l x)) x_1 x_2).length:Nat):Int)<=(vsK l x).length)/\x_1+(cmW (aY (ltC aW) (vsK l x)) x_1 x_2).length<=(ai (x_1+(cmW (aY (ltC aW) (vsK l x)) x_1 x_2).length) (cmR (aY (ltC aW) (vsK l x)) x_1 x_2)++bS ((vsK l x).length-(x_1+(cmW (aY (ltC aW) (vsK l x)) x_1 x_2).length)) (⟨0,0,0⟩:Pt)++bT (x_1+(cmW (aY (ltC aW) (vsK l x)) x_1 x_2).length+((vsK l x).length-(x_1+(cmW (aY (ltC aW) (vsK l x)) x_1 x_2).length))) (cmR (aY (ltC aW) (vsK l x)) x_1 x_2)).length/\l=l/\ai (x_1+(cmW (aY (ltC aW) (vsK l x)) x_1 x_2).length) (ai (x_1+(cmW (aY (ltC aW) (vsK l x)) x_1 x_2).length) (cmR (aY (ltC aW) (vsK l x)) x_1 x_2)++bS ((vsK l x).length-(x_1+(cmW (aY (ltC aW) (vsK l x)) x_1 x_2).length)) (⟨0,0,0⟩:Pt)++bT (x_1+(cmW (aY (ltC aW) (vsK l x)) x_1 x_2).length+((vsK l x).length-(x_1+(cmW (aY (ltC aW) (vsK l x)) x_1 x_2).length))) (cmR (aY (ltC aW) (vsK l x)) x_1 x_2))=vsP l/\(0:Nat)=0/\([] :List Ed)=([] :List Ed))))/\
          (¬[(aQ (aY (ltC aW) (vsK l x)) x_1).x,(aQ (aY (ltC aW) (vsK l x)) x_1).y,(aQ (aY (ltC aW) (vsK l x)) x_1).den] =[(aQ (aY (ltC aW) (vsK l x)) ((x_1:Int)-1).toNat).x,(aQ (aY (ltC aW) (vsK l x)) ((x_1:Int)-1).toNat).y,(aQ (aY (ltC aW) (vsK l x)) ((x_1:Int)-1).toNat).den]->aG ((x_1:Int)+1)/\(x_1:Int)+1=((x_1+1:Nat):Int)/\x_1+1<=(vsK l x).length/\(1:Nat)<=x_1+1/\cmD (aY (ltC aW) (vsK l x)) (x_1+1)/\(vsK l x).length-(x_1+1)<(vsK l x).length-x_1))/\
         (¬(x_1:Int)<(vsK l x).length->(vsK l x).length=(aY (ltC aW) (vsK l x)).length/\l=l/\aY (ltC aW) (vsK l x)=vsP l/\(0:Nat)=0/\([] :List Ed)=([] :List Ed)))))/\
      (∀y:Unit,(0=(0:Int)/\([] :List (Prod (Prod Nat Nat) (List Int)))=cU l 0/\(0:Nat)<=l.length)/\
       (∀x_1:Nat,x_1<=l.length->((x_1:Int)<x->(ix (x_1:Int) x/\x_1<(onP l x).length/\(x_1:Int)=x_1/\pq (onP l x) x_1=bC l x_1)/\
         (∀y_1:Unit,(0=(0:Int)/\ -1=fm (vsP l) (bC l x_1) 0/\cU l x_1=dI (vsP l) (bC l x_1) (x_1:Int) (cU l x_1) 0/\(0:Nat)<=(bC l x_1).length)/\
          (∀x_2:Nat,x_2<=(bC l x_1).length->((x_2:Int)<(bC l x_1).length->ix (x_2:Int) (bC l x_1).length/\(vsP l).length<=1000000/\POk (aQ (bC l x_1) x_2)/\(∀v:Pt,v∈vsP l->POk v)/\((0<=fm (vsP l) (bC l x_1) x_2->(0<=fm (vsP l) (bC l x_1) x_2/\0<=(ptX (aQ (bC l x_1) x_2) (vsP l):Int))/\oZ (yU (λx_3=>x_3.1) (dI (vsP l) (bC l x_1) (x_1:Int) (cU l x_1) x_2))/\(∀a:Nat,∀q:Prod (Prod Nat Nat) (List Int),GetElem?.getElem? (dI (vsP l) (bC l x_1) (x_1:Int) (cU l x_1) x_2) a=Option.some q/\q.1=((fm (vsP l) (bC l x_1) x_2).toNat,ptX (aQ (bC l x_1) x_2) (vsP l))->(0<=(fm (vsP l) (bC l x_1) x_2)/\0<=(ptX (aQ (bC l x_1) x_2) (vsP l):Int))/\(q.2.length+1)=q.2.length+1/\a<(dI (vsP l) (bC l x_1) (x_1:Int) (cU l x_1) x_2).length/\(cc (dI (vsP l) (bC l x_1) (x_1:Int) (cU l x_1) x_2) a ((0,0),([] :List Int))).1=((fm (vsP l) (bC l x_1) x_2).toNat,ptX (aQ (bC l x_1) x_2) (vsP l))/\q.2.length=(cc (dI (vsP l) (bC l x_1) (x_1:Int) (cU l x_1) x_2) a ((0,0),([] :List Int))).2.length/\q.2.length+1<=1000000/\oZ (yU (λx_3=>x_3.1) (dI (vsP l) (bC l x_1) (x_1:Int) (cU l x_1) x_2))/\eW (dI (vsP l) (bC l x_1) (x_1:Int) (cU l x_1) x_2) ((fm (vsP l) (bC l x_1) x_2).toNat,ptX (aQ (bC l x_1) x_2) (vsP l)) (x_1:Int)=dI (vsP l) (bC l x_1) (x_1:Int) (cU l x_1) (x_2+1))/\
              ((∀q:Prod (Prod Nat Nat) (List Int),q∈dI (vsP l) (bC l x_1) (x_1:Int) (cU l x_1) x_2->q.1≠((fm (vsP l) (bC l x_1) x_2).toNat,ptX (aQ (bC l x_1) x_2) (vsP l)))->(0<=(fm (vsP l) (bC l x_1) x_2)/\0<=(ptX (aQ (bC l x_1) x_2) (vsP l):Int))/\1=1/\(∀q:Prod (Prod Nat Nat) (List Int),q∈(dI (vsP l) (bC l x_1) (x_1:Int) (cU l x_1) x_2)->q.1≠((fm (vsP l) (bC l x_1) x_2).toNat,ptX (aQ (bC l x_1) x_2) (vsP l)))/\oZ (yU (λx_3=>x_3.1) (dI (vsP l) (bC l x_1) (x_1:Int) (cU l x_1) x_2))/\eW (dI (vsP l) (bC l x_1) (x_1:Int) (cU l x_1) x_2) ((fm (vsP l) (bC l x_1) x_2).toNat,ptX (aQ (bC l x_1) x_2) (vsP l)) (x_1:Int)=dI (vsP l) (bC l x_1) (x_1:Int) (cU l x_1) (x_2+1)))/\
             (¬0<=fm (vsP l) (bC l x_1) x_2->dI (vsP l) (bC l x_1) (x_1:Int) (cU l x_1) x_2=dI (vsP l) (bC l x_1) (x_1:Int) (cU l x_1) (x_2+1)))/\
            (∀y_2:Unit,aG ((x_2:Int)+1)/\(x_2:Int)+1=((x_2+1:Nat):Int)/\(ptX (aQ (bC l x_1) x_2) (vsP l):Int)=fm (vsP l) (bC l x_1) (x_2+1)/\dI (vsP l) (bC l x_1) (x_1:Int) (cU l x_1) (x_2+1)=dI (vsP l) (bC l x_1) (x_1:Int) (cU l x_1) (x_2+1)/\x_2+1<=(bC l x_1).length/\(bC l x_1).length-(x_2+1)<(bC l x_1).length-x_2))/\
           (¬(x_2:Int)<(bC l x_1).length->aG ((x_1:Int)+1)/\(x_1:Int)+1=((x_1+1:Nat):Int)/\dI (vsP l) (bC l x_1) (x_1:Int) (cU l x_1) x_2=cU l (x_1+1)/\x_1+1<=l.length/\l.length-(x_1+1)<l.length-x_1))))/\
        (¬(x_1:Int)<x->(cU l x_1=cU l x_1/\l=l/\vsP l=vsP l/\(0:Nat)=([] :List Ed).length/\([] :List Ed)=([] :List Ed)/\List.Perm (([] :List Ed)++edM (cU l x_1)) (edM (cU l l.length)))/\
         (∀x_2:Prod MF (List Ed),List.Perm (x_2.2++edM x_2.1) (edM (cU l l.length))->(x_2.1=([] :List (Prod (Prod Nat Nat) (List Int)))->(x_2.2.length=x_2.2.length/\x_2.2.length<=1000000/\EdK x_2.2/\l=l/\vsP l=vsP l/\x_2.2.length=(esP l).length/\aY (ltC gK) x_2.2=esP l)/\
           (∀y_1:Unit,(esP l).length=(esP l).length/\PlOk (⟨l,vsP l,esP l,([] :List (List (List Int)))⟩:Pl)/\LvO (⟨l,vsP l,esP l,([] :List (List (List Int)))⟩:Pl) aC/\(esP l).length=(esP l).length/\PlOk (⟨l,vsP l,esP l,([] :List (List (List Int)))⟩:Pl)/\LvO (⟨l,vsP l,esP l,([] :List (List (List Int)))⟩:Pl) aC/\0<=((cyP (⟨l,vsP l,esP l,([] :List (List (List Int)))⟩:Pl) aC).length:Int)/\((cyP (⟨l,vsP l,esP l,([] :List (List (List Int)))⟩:Pl) aC).length:Int)=(cyP (⟨l,vsP l,esP l,([] :List (List (List Int)))⟩:Pl) aC).length/\((cyP (⟨l,vsP l,esP l,([] :List (List (List Int)))⟩:Pl) aC).length:Int)<=1000000/\(cyP (⟨l,vsP l,esP l,([] :List (List (List Int)))⟩:Pl) aC).length*8<=1000000000/\aG (2*((esP l).length:Int))/\0<=2*((esP l).length:Int)/\2*((esP l).length:Int)=2*(esP l).length/\2*((esP l).length:Int)<=1000000/\2*(esP l).length*8<=1000000000/\(0=(0:Int)/\bS (cyP (⟨l,vsP l,esP l,([] :List (List (List Int)))⟩:Pl) aC).length (0:Int)=bS (cyP (aA l) aC).length 0/\bS (2*(esP l).length) (0:Int)=bS (2*(aA l).es.length) 0/\[([] :List (List Int))] =[([] :List (List Int))]/\l=(aA l).sg/\vsP l=(aA l).vs/\(esP l).length=(aA l).es.length/\(1:Nat)=[([] :List (List Int))].length/\(0:Nat)<=(cyP (aA l) aC).length)/\
            (∀x_3:Nat,x_3<=(cyP (aA l) aC).length->((x_3:Int)<(cyP (⟨l,vsP l,esP l,([] :List (List (List Int)))⟩:Pl) aC).length->ix (x_3:Int) (cyP (⟨l,vsP l,esP l,([] :List (List (List Int)))⟩:Pl) aC).length/\ix (x_3:Int) (cyP (⟨l,vsP l,esP l,([] :List (List (List Int)))⟩:Pl) aC).length/\x_3<(ph1 (aA l) x_3).1.length/\(0=(0:Int)/\(ph1 (aA l) x_3).2.1=ofC (x_3:Int) (ph1 (aA l) x_3).2.1 (aO (cyP (aA l) aC) x_3) 0/\(0:Nat)<=(aO (cyP (aA l) aC) x_3).length)/\
              (∀x_4:Nat,x_4<=(aO (cyP (aA l) aC) x_3).length->((x_4:Int)<(aO (cyP (⟨l,vsP l,esP l,([] :List (List (List Int)))⟩:Pl) aC) x_3).length->ix (x_4:Int) (aO (cyP (⟨l,vsP l,esP l,([] :List (List (List Int)))⟩:Pl) aC) x_3).length/\ix (aM (aO (cyP (⟨l,vsP l,esP l,([] :List (List (List Int)))⟩:Pl) aC) x_3) x_4) (2*(esP l).length)/\(aM (aO (cyP (⟨l,vsP l,esP l,([] :List (List (List Int)))⟩:Pl) aC) x_3) x_4).toNat<(ofC (x_3:Int) (ph1 (aA l) x_3).2.1 (aO (cyP (aA l) aC) x_3) x_4).length/\aG ((x_4:Int)+1)/\(x_4:Int)+1=((x_4+1:Nat):Int)/\cR (ofC (x_3:Int) (ph1 (aA l) x_3).2.1 (aO (cyP (aA l) aC) x_3) x_4) (aM (aO (cyP (⟨l,vsP l,esP l,([] :List (List (List Int)))⟩:Pl) aC) x_3) x_4).toNat (x_3:Int)=ofC (x_3:Int) (ph1 (aA l) x_3).2.1 (aO (cyP (aA l) aC) x_3) (x_4+1)/\x_4+1<=(aO (cyP (aA l) aC) x_3).length/\(aO (cyP (aA l) aC) x_3).length-(x_4+1)<(aO (cyP (aA l) aC) x_3).length-x_4)/\
               (¬(x_4:Int)<(aO (cyP (⟨l,vsP l,esP l,([] :List (List (List Int)))⟩:Pl) aC) x_3).length->((aA l).es.length=(esP l).length/\(ph1 (aA l) x_3).2.2.length=(ph1 (aA l) x_3).2.2.length/\PlOk (⟨(aA l).sg,(aA l).vs,esP l,(ph1 (aA l) x_3).2.2⟩:Pl)/\LvIn (⟨(aA l).sg,(aA l).vs,esP l,(ph1 (aA l) x_3).2.2⟩:Pl) (lvP (⟨l,vsP l,esP l,([] :List (List (List Int)))⟩:Pl) aC)/\(0:Nat)<(aO (cyP (⟨l,vsP l,esP l,([] :List (List (List Int)))⟩:Pl) aC) x_3).length/\(aO (cyP (⟨l,vsP l,esP l,([] :List (List (List Int)))⟩:Pl) aC) x_3).length<=1000000/\(∀h:Int,h∈aO (cyP (⟨l,vsP l,esP l,([] :List (List (List Int)))⟩:Pl) aC) x_3->HIn (⟨(aA l).sg,(aA l).vs,esP l,(ph1 (aA l) x_3).2.2⟩:Pl) h)/\(0:Nat)<(aO (lvP (⟨l,vsP l,esP l,([] :List (List (List Int)))⟩:Pl) aC) (bv (⟨(aA l).sg,(aA l).vs,esP l,(ph1 (aA l) x_3).2.2⟩:Pl) (aO (cyP (⟨l,vsP l,esP l,([] :List (List (List Int)))⟩:Pl) aC) x_3)).toNat).length/\(!inP (⟨(aA l).sg,(aA l).vs,esP l,(ph1 (aA l) x_3).2.2⟩:Pl) (aO (cyP (⟨l,vsP l,esP l,([] :List (List (List Int)))⟩:Pl) aC) x_3) (lvP (⟨l,vsP l,esP l,([] :List (List (List Int)))⟩:Pl) aC))=(!inP (aA l) (aO (cyP (aA l) aC) x_3) (lvP (aA l) aC)))/\
                (∀y_2:Unit,((!inP (aA l) (aO (cyP (aA l) aC) x_3) (lvP (aA l) aC))=true->(ix (x_3:Int) (cyP (⟨l,vsP l,esP l,([] :List (List (List Int)))⟩:Pl) aC).length/\x_3<(cR (ph1 (aA l) x_3).1 x_3 (-1)).length/\cR (cR (ph1 (aA l) x_3).1 x_3 (-1)) x_3 ((ph1 (aA l) x_3).2.2.length:Int)=cR (cR (ph1 (aA l) x_3).1 x_3 (-1)) x_3 ((ph1 (aA l) x_3).2.2.length:Int))/\
                  (∀y_3:Unit,((ph1 (aA l) x_3).2.2.length)=((ph1 (aA l) x_3).2.2).length/\((ph1 (aA l) x_3).2.2.length)+1<=1000000/\aG ((x_3:Int)+1)/\(x_3:Int)+1=((x_3+1:Nat):Int)/\cR (cR (ph1 (aA l) x_3).1 x_3 (-1)) x_3 ((ph1 (aA l) x_3).2.2.length:Int)=(ph1 (aA l) (x_3+1)).1/\ofC (x_3:Int) (ph1 (aA l) x_3).2.1 (aO (cyP (aA l) aC) x_3) x_4=(ph1 (aA l) (x_3+1)).2.1/\((ph1 (aA l) x_3).2.2)++[[aO (cyP (⟨l,vsP l,esP l,([] :List (List (List Int)))⟩:Pl) aC) x_3]] =(ph1 (aA l) (x_3+1)).2.2/\(aA l).sg=(aA l).sg/\(aA l).vs=(aA l).vs/\(aA l).es.length=(aA l).es.length/\((ph1 (aA l) x_3).2.2.length+1)=(ph1 (aA l) (x_3+1)).2.2.length/\x_3+1<=(cyP (aA l) aC).length/\(cyP (aA l) aC).length-(x_3+1)<(cyP (aA l) aC).length-x_3))/\
                 ((!inP (aA l) (aO (cyP (aA l) aC) x_3) (lvP (aA l) aC))=false->aG ((x_3:Int)+1)/\(x_3:Int)+1=((x_3+1:Nat):Int)/\cR (ph1 (aA l) x_3).1 x_3 (-1)=(ph1 (aA l) (x_3+1)).1/\ofC (x_3:Int) (ph1 (aA l) x_3).2.1 (aO (cyP (aA l) aC) x_3) x_4=(ph1 (aA l) (x_3+1)).2.1/\(ph1 (aA l) x_3).2.2=(ph1 (aA l) (x_3+1)).2.2/\(aA l).sg=(aA l).sg/\(aA l).vs=(aA l).vs/\(aA l).es.length=(aA l).es.length/\(ph1 (aA l) x_3).2.2.length=(ph1 (aA l) (x_3+1)).2.2.length/\x_3+1<=(cyP (aA l) aC).length/\(cyP (aA l) aC).length-(x_3+1)<(cyP (aA l) aC).length-x_3)))))/\
             (¬(x_3:Int)<(cyP (⟨l,vsP l,esP l,([] :List (List (List Int)))⟩:Pl) aC).length->(0=(0:Int)/\(ph1 (aA l) x_3).1=(ph1 (aA l) (cyP (aA l) aC).length).fst/\(ph1 (aA l) x_3).2.2=(ph1 (aA l) (cyP (aA l) aC).length).2.snd/\(0:Nat)<=(cyP (aA l) aC).length)/\
              (∀x_4:Nat,x_4<=(cyP (aA l) aC).length->((x_4:Int)<(cyP (⟨l,vsP l,esP l,([] :List (List (List Int)))⟩:Pl) aC).length->ix (x_4:Int) (cyP (⟨l,vsP l,esP l,([] :List (List (List Int)))⟩:Pl) aC).length/\(ix (x_4:Int) (cyP (⟨l,vsP l,esP l,([] :List (List (List Int)))⟩:Pl) aC).length/\x_4<(ph2 (aA l) x_4).1.length/\(0<aM (ph2 (aA l) x_4).1 x_4->ix (x_4:Int) (cyP (⟨l,vsP l,esP l,([] :List (List (List Int)))⟩:Pl) aC).length/\x_4<(ph2 (aA l) x_4).1.length/\ix (aM (ph2 (aA l) x_4).1 x_4) (ph1 (aA l) x_3).2.2.length/\(aM (ph2 (aA l) x_4).1 x_4).toNat<(ph2 (aA l) x_4).2.length/\(0<((cc (ph2 (aA l) x_4).2 (aM (ph2 (aA l) x_4).1 x_4).toNat ([] :List (List Int))).length:Int)->ix (x_4:Int) (cyP (⟨l,vsP l,esP l,([] :List (List (List Int)))⟩:Pl) aC).length/\x_4<(ph2 (aA l) x_4).1.length/\ix (aM (ph2 (aA l) x_4).1 x_4) (ph1 (aA l) x_3).2.2.length/\(aM (ph2 (aA l) x_4).1 x_4).toNat<(ph2 (aA l) x_4).2.length/\ix 0 (cc (ph2 (aA l) x_4).2 (aM (ph2 (aA l) x_4).1 x_4).toNat ([] :List (List Int))).length/\(aM (ph2 (aA l) x_4).1 x_4).toNat<(ph2 (aA l) x_4).2.length/\(0:Nat)<(cc (ph2 (aA l) x_4).2 (aM (ph2 (aA l) x_4).1 x_4).toNat ([] :List (List Int))).length/\ix 0 (aO (cc (ph2 (aA l) x_4).2 (aM (ph2 (aA l) x_4).1 x_4).toNat ([] :List (List Int))) 0).length/\ix 0 (aO (cyP (⟨l,vsP l,esP l,([] :List (List (List Int)))⟩:Pl) aC) x_4).length/\decide (aM (aO (cc (ph2 (aA l) x_4).2 (aM (ph2 (aA l) x_4).1 x_4).toNat ([] :List (List Int))) 0) 0=aM (aO (cyP (⟨l,vsP l,esP l,([] :List (List (List Int)))⟩:Pl) aC) x_4) 0)=ouP (ph2 (aA l) x_4).1 (ph2 (aA l) x_4).2 (aO (cyP (aA l) aC) x_4) x_4)/\
                  (¬0<((cc (ph2 (aA l) x_4).2 (aM (ph2 (aA l) x_4).1 x_4).toNat ([] :List (List Int))).length:Int)->false=ouP (ph2 (aA l) x_4).1 (ph2 (aA l) x_4).2 (aO (cyP (aA l) aC) x_4) x_4))/\
                 (¬0<aM (ph2 (aA l) x_4).1 x_4->false=ouP (ph2 (aA l) x_4).1 (ph2 (aA l) x_4).2 (aO (cyP (aA l) aC) x_4) x_4))/\
                (∀y_2:Unit,(ix (x_4:Int) (cyP (⟨l,vsP l,esP l,([] :List (List (List Int)))⟩:Pl) aC).length/\x_4<(ph2 (aA l) x_4).1.length/\(aM (ph2 (aA l) x_4).1 x_4<0->ix (x_4:Int) (cyP (⟨l,vsP l,esP l,([] :List (List (List Int)))⟩:Pl) aC).length/\x_4<(ph2 (aA l) x_4).1.length/\ix (x_4:Int) (cyP (⟨l,vsP l,esP l,([] :List (List (List Int)))⟩:Pl) aC).length/\(aA l).es.length=(esP l).length/\(ph1 (aA l) x_3).2.2.length=(ph2 (aA l) x_4).2.length/\PlOk (⟨(aA l).sg,(aA l).vs,esP l,(ph2 (aA l) x_4).2⟩:Pl)/\(0:Nat)<(aO (cyP (⟨l,vsP l,esP l,([] :List (List (List Int)))⟩:Pl) aC) x_4).length/\(aO (cyP (⟨l,vsP l,esP l,([] :List (List (List Int)))⟩:Pl) aC) x_4).length<=1000000/\(∀h:Int,h∈aO (cyP (⟨l,vsP l,esP l,([] :List (List (List Int)))⟩:Pl) aC) x_4->HIn (⟨(aA l).sg,(aA l).vs,esP l,(ph2 (aA l) x_4).2⟩:Pl) h)/\ix (bv (⟨(aA l).sg,(aA l).vs,esP l,(ph2 (aA l) x_4).2⟩:Pl) (aO (cyP (⟨l,vsP l,esP l,([] :List (List (List Int)))⟩:Pl) aC) x_4)) (aA l).vs.length/\(aA l).es.length=(esP l).length/\(ph1 (aA l) x_3).2.2.length=(ph2 (aA l) x_4).2.length/\PlOk (⟨(aA l).sg,(aA l).vs,esP l,(ph2 (aA l) x_4).2⟩:Pl)/\QOk (aQ (aA l).vs (bv (⟨(aA l).sg,(aA l).vs,esP l,(ph2 (aA l) x_4).2⟩:Pl) (aO (cyP (⟨l,vsP l,esP l,([] :List (List (List Int)))⟩:Pl) aC) x_4)).toNat)/\(0<=bwP (⟨(aA l).sg,(aA l).vs,esP l,(ph2 (aA l) x_4).2⟩:Pl) (aQ (aA l).vs (bv (⟨(aA l).sg,(aA l).vs,esP l,(ph2 (aA l) x_4).2⟩:Pl) (aO (cyP (⟨l,vsP l,esP l,([] :List (List (List Int)))⟩:Pl) aC) x_4)).toNat)->ix (bwP (⟨(aA l).sg,(aA l).vs,esP l,(ph2 (aA l) x_4).2⟩:Pl) (aQ (aA l).vs (bv (⟨(aA l).sg,(aA l).vs,esP l,(ph2 (aA l) x_4).2⟩:Pl) (aO (cyP (⟨l,vsP l,esP l,([] :List (List (List Int)))⟩:Pl) aC) x_4)).toNat)) (2*(esP l).length)/\(bwP (⟨(aA l).sg,(aA l).vs,esP l,(ph2 (aA l) x_4).2⟩:Pl) (aQ (aA l).vs (bv (⟨(aA l).sg,(aA l).vs,esP l,(ph2 (aA l) x_4).2⟩:Pl) (aO (cyP (⟨l,vsP l,esP l,([] :List (List (List Int)))⟩:Pl) aC) x_4)).toNat)).toNat<(ph1 (aA l) x_3).2.1.length/\(cyP (⟨l,vsP l,esP l,([] :List (List (List Int)))⟩:Pl) aC).length=(cR (ph2 (aA l) x_4).1 x_4 0).length/\2*(esP l).length=(ph1 (aA l) x_3).2.1.length/\(cR (ph2 (aA l) x_4).1 x_4 0).length<=1000000/\(0<=aM (ph1 (aA l) x_3).2.1 (bwP (⟨(aA l).sg,(aA l).vs,esP l,(ph2 (aA l) x_4).2⟩:Pl) (aQ (aA l).vs (bv (⟨(aA l).sg,(aA l).vs,esP l,(ph2 (aA l) x_4).2⟩:Pl) (aO (cyP (⟨l,vsP l,esP l,([] :List (List (List Int)))⟩:Pl) aC) x_4)).toNat)).toNat/\aM (ph1 (aA l) x_3).2.1 (bwP (⟨(aA l).sg,(aA l).vs,esP l,(ph2 (aA l) x_4).2⟩:Pl) (aQ (aA l).vs (bv (⟨(aA l).sg,(aA l).vs,esP l,(ph2 (aA l) x_4).2⟩:Pl) (aO (cyP (⟨l,vsP l,esP l,([] :List (List (List Int)))⟩:Pl) aC) x_4)).toNat)).toNat<(cR (ph2 (aA l) x_4).1 x_4 0).length)/\0<=aM (cR (ph2 (aA l) x_4).1 x_4 0) (aM (ph1 (aA l) x_3).2.1 (bwP (⟨(aA l).sg,(aA l).vs,esP l,(ph2 (aA l) x_4).2⟩:Pl) (aQ (aA l).vs (bv (⟨(aA l).sg,(aA l).vs,esP l,(ph2 (aA l) x_4).2⟩:Pl) (aO (cyP (⟨l,vsP l,esP l,([] :List (List (List Int)))⟩:Pl) aC) x_4)).toNat)).toNat).toNat/\ix (x_4:Int) (cyP (⟨l,vsP l,esP l,([] :List (List (List Int)))⟩:Pl) aC).length/\x_4<(cR (ph2 (aA l) x_4).1 x_4 0).length/\cR (cR (ph2 (aA l) x_4).1 x_4 0) x_4 (aM (cR (ph2 (aA l) x_4).1 x_4 0) (aM (ph1 (aA l) x_3).2.1 (bwP (⟨(aA l).sg,(aA l).vs,esP l,(ph2 (aA l) x_4).2⟩:Pl) (aQ (aA l).vs (bv (⟨(aA l).sg,(aA l).vs,esP l,(ph2 (aA l) x_4).2⟩:Pl) (aO (cyP (⟨l,vsP l,esP l,([] :List (List (List Int)))⟩:Pl) aC) x_4)).toNat)).toNat).toNat)=fdP (aA l) (ph1 (aA l) (cyP (aA l) aC).length).2.1 (ph2 (aA l) x_4).1 (aO (cyP (aA l) aC) x_4) x_4)/\
                   (¬0<=bwP (⟨(aA l).sg,(aA l).vs,esP l,(ph2 (aA l) x_4).2⟩:Pl) (aQ (aA l).vs (bv (⟨(aA l).sg,(aA l).vs,esP l,(ph2 (aA l) x_4).2⟩:Pl) (aO (cyP (⟨l,vsP l,esP l,([] :List (List (List Int)))⟩:Pl) aC) x_4)).toNat)->cR (ph2 (aA l) x_4).1 x_4 0=fdP (aA l) (ph1 (aA l) (cyP (aA l) aC).length).2.1 (ph2 (aA l) x_4).1 (aO (cyP (aA l) aC) x_4) x_4))/\
                  (¬aM (ph2 (aA l) x_4).1 x_4<0->(ph2 (aA l) x_4).1=fdP (aA l) (ph1 (aA l) (cyP (aA l) aC).length).2.1 (ph2 (aA l) x_4).1 (aO (cyP (aA l) aC) x_4) x_4))/\
                 (∀y_3:Unit,ix (x_4:Int) (cyP (⟨l,vsP l,esP l,([] :List (List (List Int)))⟩:Pl) aC).length/\x_4<(fdP (aA l) (ph1 (aA l) (cyP (aA l) aC).length).2.1 (ph2 (aA l) x_4).1 (aO (cyP (aA l) aC) x_4) x_4).length/\((!ouP (ph2 (aA l) x_4).1 (ph2 (aA l) x_4).2 (aO (cyP (aA l) aC) x_4) x_4)=true->ix (aM (fdP (aA l) (ph1 (aA l) (cyP (aA l) aC).length).2.1 (ph2 (aA l) x_4).1 (aO (cyP (aA l) aC) x_4) x_4) x_4) (ph1 (aA l) x_3).2.2.length/\(aM (fdP (aA l) (ph1 (aA l) (cyP (aA l) aC).length).2.1 (ph2 (aA l) x_4).1 (aO (cyP (aA l) aC) x_4) x_4) x_4).toNat<(ph2 (aA l) x_4).2.length/\(aM (fdP (aA l) (ph1 (aA l) (cyP (aA l) aC).length).2.1 (ph2 (aA l) x_4).1 (aO (cyP (aA l) aC) x_4) x_4) x_4).toNat<(ph2 (aA l) x_4).2.length/\(cc (ph2 (aA l) x_4).2 (aM (fdP (aA l) (ph1 (aA l) (cyP (aA l) aC).length).2.1 (ph2 (aA l) x_4).1 (aO (cyP (aA l) aC) x_4) x_4) x_4).toNat ([] :List (List Int))).length=(cc (ph2 (aA l) x_4).2 (aM (fdP (aA l) (ph1 (aA l) (cyP (aA l) aC).length).2.1 (ph2 (aA l) x_4).1 (aO (cyP (aA l) aC) x_4) x_4) x_4).toNat ([] :List (List Int))).length/\(cc (ph2 (aA l) x_4).2 (aM (fdP (aA l) (ph1 (aA l) (cyP (aA l) aC).length).2.1 (ph2 (aA l) x_4).1 (aO (cyP (aA l) aC) x_4) x_4) x_4).toNat ([] :List (List Int))).length+[aO (cyP (⟨l,vsP l,esP l,([] :List (List (List Int)))⟩:Pl) aC) x_4].length<=1000000/\ix (aM (fdP (aA l) (ph1 (aA l) (cyP (aA l) aC).length).2.1 (ph2 (aA l) x_4).1 (aO (cyP (aA l) aC) x_4) x_4) x_4) (ph1 (aA l) x_3).2.2.length/\(aM (fdP (aA l) (ph1 (aA l) (cyP (aA l) aC).length).2.1 (ph2 (aA l) x_4).1 (aO (cyP (aA l) aC) x_4) x_4) x_4).toNat=(aM (fdP (aA l) (ph1 (aA l) (cyP (aA l) aC).length).2.1 (ph2 (aA l) x_4).1 (aO (cyP (aA l) aC) x_4) x_4) x_4).toNat/\(aM (fdP (aA l) (ph1 (aA l) (cyP (aA l) aC).length).2.1 (ph2 (aA l) x_4).1 (aO (cyP (aA l) aC) x_4) x_4) x_4).toNat<(ph2 (aA l) x_4).2.length/\aG ((x_4:Int)+1)/\(aM (fdP (aA l) (ph1 (aA l) (cyP (aA l) aC).length).2.1 (ph2 (aA l) x_4).1 (aO (cyP (aA l) aC) x_4) x_4) x_4).toNat<(ph2 (aA l) x_4).2.length/\(cc (ph2 (aA l) x_4).2 (aM (fdP (aA l) (ph1 (aA l) (cyP (aA l) aC).length).2.1 (ph2 (aA l) x_4).1 (aO (cyP (aA l) aC) x_4) x_4) x_4).toNat ([] :List (List Int))++[aO (cyP (⟨l,vsP l,esP l,([] :List (List (List Int)))⟩:Pl) aC) x_4]).length=(cc (ph2 (aA l) x_4).2 (aM (fdP (aA l) (ph1 (aA l) (cyP (aA l) aC).length).2.1 (ph2 (aA l) x_4).1 (aO (cyP (aA l) aC) x_4) x_4) x_4).toNat ([] :List (List Int))++[aO (cyP (⟨l,vsP l,esP l,([] :List (List (List Int)))⟩:Pl) aC) x_4]).length/\(x_4:Int)+1=((x_4+1:Nat):Int)/\fdP (aA l) (ph1 (aA l) (cyP (aA l) aC).length).2.1 (ph2 (aA l) x_4).1 (aO (cyP (aA l) aC) x_4) x_4=(ph2 (aA l) (x_4+1)).1/\cR (ph2 (aA l) x_4).2 (aM (fdP (aA l) (ph1 (aA l) (cyP (aA l) aC).length).2.1 (ph2 (aA l) x_4).1 (aO (cyP (aA l) aC) x_4) x_4) x_4).toNat (cc (ph2 (aA l) x_4).2 (aM (fdP (aA l) (ph1 (aA l) (cyP (aA l) aC).length).2.1 (ph2 (aA l) x_4).1 (aO (cyP (aA l) aC) x_4) x_4) x_4).toNat ([] :List (List Int))++[aO (cyP (⟨l,vsP l,esP l,([] :List (List (List Int)))⟩:Pl) aC) x_4])=(ph2 (aA l) (x_4+1)).2/\x_4+1<=(cyP (aA l) aC).length/\(cyP (aA l) aC).length-(x_4+1)<(cyP (aA l) aC).length-x_4)/\
                  ((!ouP (ph2 (aA l) x_4).1 (ph2 (aA l) x_4).2 (aO (cyP (aA l) aC) x_4) x_4)=false->aG ((x_4:Int)+1)/\(x_4:Int)+1=((x_4+1:Nat):Int)/\fdP (aA l) (ph1 (aA l) (cyP (aA l) aC).length).2.1 (ph2 (aA l) x_4).1 (aO (cyP (aA l) aC) x_4) x_4=(ph2 (aA l) (x_4+1)).1/\(ph2 (aA l) x_4).2=(ph2 (aA l) (x_4+1)).2/\x_4+1<=(cyP (aA l) aC).length/\(cyP (aA l) aC).length-(x_4+1)<(cyP (aA l) aC).length-x_4))))/\
               (¬(x_4:Int)<(cyP (⟨l,vsP l,esP l,([] :List (List (List Int)))⟩:Pl) aC).length->(0=(0:Int)/\esP l=ph3 (aA l) (ph1 (aA l) (cyP (aA l) aC).length).2.1 (ph2 (aA l) (cyP (aA l) aC).length).1 0/\(0:Nat)<=(aA l).es.length)/\
                (∀x_5:Nat,x_5<=(aA l).es.length->((x_5:Int)<(aA l).es.length->aG (2*(x_5:Int))/\ix (2*(x_5:Int)) (2*(esP l).length)/\2*x_5<(ph1 (aA l) x_3).2.1.length/\ix (aM (ph1 (aA l) x_3).2.1 (2*x_5)) (cyP (⟨l,vsP l,esP l,([] :List (List (List Int)))⟩:Pl) aC).length/\(aM (ph1 (aA l) x_3).2.1 (2*x_5)).toNat<(ph2 (aA l) x_4).1.length/\aG (2*(x_5:Int))/\aG (2*(x_5:Int)+1)/\ix (2*(x_5:Int)+1) (2*(esP l).length)/\2*x_5+1<(ph1 (aA l) x_3).2.1.length/\ix (aM (ph1 (aA l) x_3).2.1 (2*x_5+1)) (cyP (⟨l,vsP l,esP l,([] :List (List (List Int)))⟩:Pl) aC).length/\(aM (ph1 (aA l) x_3).2.1 (2*x_5+1)).toNat<(ph2 (aA l) x_4).1.length/\ix (x_5:Int) (aA l).es.length/\x_5<(ph3 (aA l) (ph1 (aA l) (cyP (aA l) aC).length).2.1 (ph2 (aA l) (cyP (aA l) aC).length).1 x_5).length/\ix (x_5:Int) (aA l).es.length/\x_5<(cR (ph3 (aA l) (ph1 (aA l) (cyP (aA l) aC).length).2.1 (ph2 (aA l) (cyP (aA l) aC).length).1 x_5) x_5 (⟨(aP (ph3 (aA l) (ph1 (aA l) (cyP (aA l) aC).length).2.1 (ph2 (aA l) (cyP (aA l) aC).length).1 x_5) x_5).fr,(aP (ph3 (aA l) (ph1 (aA l) (cyP (aA l) aC).length).2.1 (ph2 (aA l) (cyP (aA l) aC).length).1 x_5) x_5).to,aM (ph2 (aA l) x_4).1 (aM (ph1 (aA l) x_3).2.1 (2*x_5)).toNat,(aP (ph3 (aA l) (ph1 (aA l) (cyP (aA l) aC).length).2.1 (ph2 (aA l) (cyP (aA l) aC).length).1 x_5) x_5).rt,(aP (ph3 (aA l) (ph1 (aA l) (cyP (aA l) aC).length).2.1 (ph2 (aA l) (cyP (aA l) aC).length).1 x_5) x_5).src⟩:Ed)).length/\aG ((x_5:Int)+1)/\(x_5:Int)+1=((x_5+1:Nat):Int)/\cR (cR (ph3 (aA l) (ph1 (aA l) (cyP (aA l) aC).length).2.1 (ph2 (aA l) (cyP (aA l) aC).length).1 x_5) x_5 (⟨(aP (ph3 (aA l) (ph1 (aA l) (cyP (aA l) aC).length).2.1 (ph2 (aA l) (cyP (aA l) aC).length).1 x_5) x_5).fr,(aP (ph3 (aA l) (ph1 (aA l) (cyP (aA l) aC).length).2.1 (ph2 (aA l) (cyP (aA l) aC).length).1 x_5) x_5).to,aM (ph2 (aA l) x_4).1 (aM (ph1 (aA l) x_3).2.1 (2*x_5)).toNat,(aP (ph3 (aA l) (ph1 (aA l) (cyP (aA l) aC).length).2.1 (ph2 (aA l) (cyP (aA l) aC).length).1 x_5) x_5).rt,(aP (ph3 (aA l) (ph1 (aA l) (cyP (aA l) aC).length).2.1 (ph2 (aA l) (cyP (aA l) aC).length).1 x_5) x_5).src⟩:Ed)) x_5 (⟨(aP (cR (ph3 (aA l) (ph1 (aA l) (cyP (aA l) aC).length).2.1 (ph2 (aA l) (cyP (aA l) aC).length).1 x_5) x_5 (⟨(aP (ph3 (aA l) (ph1 (aA l) (cyP (aA l) aC).length).2.1 (ph2 (aA l) (cyP (aA l) aC).length).1 x_5) x_5).fr,(aP (ph3 (aA l) (ph1 (aA l) (cyP (aA l) aC).length).2.1 (ph2 (aA l) (cyP (aA l) aC).length).1 x_5) x_5).to,aM (ph2 (aA l) x_4).1 (aM (ph1 (aA l) x_3).2.1 (2*x_5)).toNat,(aP (ph3 (aA l) (ph1 (aA l) (cyP (aA l) aC).length).2.1 (ph2 (aA l) (cyP (aA l) aC).length).1 x_5) x_5).rt,(aP (ph3 (aA l) (ph1 (aA l) (cyP (aA l) aC).length).2.1 (ph2 (aA l) (cyP (aA l) aC).length).1 x_5) x_5).src⟩:Ed)) x_5).fr,(aP (cR (ph3 (aA l) (ph1 (aA l) (cyP (aA l) aC).length).2.1 (ph2 (aA l) (cyP (aA l) aC).length).1 x_5) x_5 (⟨(aP (ph3 (aA l) (ph1 (aA l) (cyP (aA l) aC).length).2.1 (ph2 (aA l) (cyP (aA l) aC).length).1 x_5) x_5).fr,(aP (ph3 (aA l) (ph1 (aA l) (cyP (aA l) aC).length).2.1 (ph2 (aA l) (cyP (aA l) aC).length).1 x_5) x_5).to,aM (ph2 (aA l) x_4).1 (aM (ph1 (aA l) x_3).2.1 (2*x_5)).toNat,(aP (ph3 (aA l) (ph1 (aA l) (cyP (aA l) aC).length).2.1 (ph2 (aA l) (cyP (aA l) aC).length).1 x_5) x_5).rt,(aP (ph3 (aA l) (ph1 (aA l) (cyP (aA l) aC).length).2.1 (ph2 (aA l) (cyP (aA l) aC).length).1 x_5) x_5).src⟩:Ed)) x_5).to,(aP (cR (ph3 (aA l) (ph1 (aA l) (cyP (aA l) aC).length).2.1 (ph2 (aA l) (cyP (aA l) aC).length).1 x_5) x_5 (⟨(aP (ph3 (aA l) (ph1 (aA l) (cyP (aA l) aC).length).2.1 (ph2 (aA l) (cyP (aA l) aC).length).1 x_5) x_5).fr,(aP (ph3 (aA l) (ph1 (aA l) (cyP (aA l) aC).length).2.1 (ph2 (aA l) (cyP (aA l) aC).length).1 x_5) x_5).to,aM (ph2 (aA l) x_4).1 (aM (ph1 (aA l) x_3).2.1 (2*x_5)).toNat,(aP (ph3 (aA l) (ph1 (aA l) (cyP (aA l) aC).length).2.1 (ph2 (aA l) (cyP (aA l) aC).length).1 x_5) x_5).rt,(aP (ph3 (aA l) (ph1 (aA l) (cyP (aA l) aC).length).2.1 (ph2 (aA l) (cyP (aA l) aC).length).1 x_5) x_5).src⟩:Ed)) x_5).lf,aM (ph2 (aA l) x_4).1 (aM (ph1 (aA l) x_3).2.1 (2*x_5+1)).toNat,(aP (cR (ph3 (aA l) (ph1 (aA l) (cyP (aA l) aC).length).2.1 (ph2 (aA l) (cyP (aA l) aC).length).1 x_5) x_5 (⟨(aP (ph3 (aA l) (ph1 (aA l) (cyP (aA l) aC).length).2.1 (ph2 (aA l) (cyP (aA l) aC).length).1 x_5) x_5).fr,(aP (ph3 (aA l) (ph1 (aA l) (cyP (aA l) aC).length).2.1 (ph2 (aA l) (cyP (aA l) aC).length).1 x_5) x_5).to,aM (ph2 (aA l) x_4).1 (aM (ph1 (aA l) x_3).2.1 (2*x_5)).toNat,(aP (ph3 (aA l) (ph1 (aA l) (cyP (aA l) aC).length).2.1 (ph2 (aA l) (cyP (aA l) aC).length).1 x_5) x_5).rt,(aP (ph3 (aA l) (ph1 (aA l) (cyP (aA l) aC).length).2.1 (ph2 (aA l) (cyP (aA l) aC).length).1 x_5) x_5).src⟩:Ed)) x_5).src⟩:Ed)=ph3 (aA l) (ph1 (aA l) (cyP (aA l) aC).length).2.1 (ph2 (aA l) (cyP (aA l) aC).length).1 (x_5+1)/\x_5+1<=(aA l).es.length/\(aA l).es.length-(x_5+1)<(aA l).es.length-x_5)/\
                 (¬(x_5:Int)<(aA l).es.length->(aA l).es.length=(ph3 (aA l) (ph1 (aA l) (cyP (aA l) aC).length).2.1 (ph2 (aA l) (cyP (aA l) aC).length).1 x_5).length/\(ph1 (aA l) x_3).2.2.length=(ph2 (aA l) x_4).2.length/\(aA l).sg=(bN l).sg/\(aA l).vs=(bN l).vs/\ph3 (aA l) (ph1 (aA l) (cyP (aA l) aC).length).2.1 (ph2 (aA l) (cyP (aA l) aC).length).1 x_5=(bN l).es/\(ph2 (aA l) x_4).2=(bN l).fs/\0=dP l))))))))/\
          (∀i:Nat,∀q:Prod (Prod Nat Nat) (List Int),GetElem?.getElem? x_2.1 i=Option.some q->ix 0 2/\ix 1 2/\x_2.2.length=x_2.2.length/\x_2.2.length+[(⟨(q.1.1:Int),(q.1.2:Int),0,0,q.2⟩:Ed)].length<=1000000/\Dk x_2.1 i=Dk x_2.1 i/\l=l/\vsP l=vsP l/\(x_2.2++[(⟨(q.1.1:Int),(q.1.2:Int),0,0,q.2⟩:Ed)]).length=(x_2.2++[(⟨(q.1.1:Int),(q.1.2:Int),0,0,q.2⟩:Ed)]).length/\x_2.2++[(⟨(q.1.1:Int),(q.1.2:Int),0,0,q.2⟩:Ed)] =x_2.2++[(⟨(q.1.1:Int),(q.1.2:Int),0,0,q.2⟩:Ed)]/\List.Perm (x_2.2++[(⟨(q.1.1:Int),(q.1.2:Int),0,0,q.2⟩:Ed)] ++edM (Dk x_2.1 i)) (edM (cU l l.length))/\(Dk x_2.1 i).length<x_2.1.length))))))))))) (by kernel_rfl) (by
  change l.length<=1000/\((dP l=0->BdOk l))at hp;obtain⟨hl,hB⟩:=hp;refine⟨by omega,λh1=> ?_,λh1=>⟨by omega,λh2=> ?_,λh2=>⟨λh3=> ?_,λh3=> ?_⟩⟩⟩
  .have e:dP l=1:=by unfold dP;rw[if_pos h1]
   rw[A9 (by rw[e];decide),e];exact⟨rfl,rfl,rfl,rfl,rfl⟩
  .have e:dP l=2:=by unfold dP;rw[if_neg (by rw[h1];decide),if_pos h2]
   rw[A9 (by rw[e];decide),e];exact⟨rfl,rfl,rfl,rfl,rfl⟩
  .have e:dP l=9:=by unfold dP;rw[if_neg (by rw[h1];decide),if_neg (by rw[h2];decide),if_pos (by omega)]
   rw[A9 (by rw[e];decide),e];exact⟨rfl,rfl,rfl,rfl,rfl⟩
  have e0:dP l=0:=by unfold dP;rw[if_neg (by rw[h1];decide),if_neg (by rw[h2];decide),if_neg (by omega)]
  have B:=hB e0;have eP:bN l=dR (aA l):=if_pos e0;have hlen:=B.len;refine⟨by omega,⟨rfl,rfl,rfl,rfl,rfl,rfl,cO _⟩,λx hx=>⟨λhlt=> ?_,λhge=> ?_⟩⟩
  .have hv:=wP l x;have hm:=BV (a:=x) (n:=l.length) (by omega) hlen;have hp:=sq l x;rw[WT,Ho (DP x),Ao,Ao];exact⟨by omega,by omega,B.raw x (by omega),rfl,by simp only[eD];omega,by unfold ix;omega,by omega,rfl,by omega,by unfold aG;omega,rfl,rfl,rfl,rfl,rfl,rfl,by omega,by omega⟩
  obtain rfl:x=l.length:=by omega
  have hv:=wP l l.length;have hm:=BV (a:=l.length) (n:=l.length) hlen hlen;have hSl:(aY (ltC aW) (vsK l l.length)).length=(vsK l l.length).length:=(fP _ _).length_eq;refine⟨rfl,by omega,λp hp=> ?_,⟨λh4=>⟨hSl.symm,rfl,(Gx (by omega)).symm,rfl,rfl⟩,λh4=> ?_⟩,λ_=>⟨⟨rfl,rfl,cO _⟩,λi hi=>⟨λhlt=> ?_,λhge=> ?_⟩⟩⟩
  .obtain⟨i,h1,h2⟩:=AX hp;exact B.raw i h1 p (zo h2)
  .obtain⟨c1,c2⟩:=Md hSl (by omega) (show fM (aY (ltC aW) (vsK l l.length))=vsP l from rfl) h4;refine⟨c1,λk hk=>⟨λhlt=> ?_,λhge=> ?_⟩⟩
   .obtain⟨a1,a2,a3,a4,a5,b,c⟩:=(c2 k hk).1 hlt;refine⟨a1,a2,a3,a4,a5,λhe=> ?_,c⟩;obtain⟨b1,b2,b3⟩:=b he;refine⟨b1,b2,λj hj=>⟨(b3 j hj).1,λhg=> ?_⟩⟩;obtain⟨d1,d2,d3,d4,d5⟩:=(b3 j hj).2 hg;rw[gc]at d4;exact⟨d1,d2,d3,d4,rfl,d5,rfl,rfl⟩
   .obtain⟨d1,d2⟩:=(c2 k hk).2 hge;exact⟨d1,rfl,d2,rfl,rfl⟩
  .have hpl:=sq l i;have hmem:∀j,j<(bC l i).length->POk (aQ (bC l i) j):=λj hj=>B.raw i (by omega) _ (zo (by rw[nU hj];exact eR hj))
   have hvl:(vsP l).length<=100000:=B.pl.lv;refine⟨⟨by unfold ix;omega,by rw[Ao];omega,rfl,Ho (by omega)⟩,λ_=>⟨⟨rfl,rfl,rfl,cO _⟩,λj hj=>⟨λhlt2=>⟨by unfold ix;omega,by omega,hmem j (by omega),Yu B,⟨λhn=> ?_,λhn=>Xc (λh=>hn (Ga.2 h))⟩,λ_=>⟨by unfold aG;omega,rfl,Ts,rfl,by omega,by omega⟩⟩,λhg=> ?_⟩⟩⟩
   .have hk:=ve (vs:=vsP l) (pts:=bC l i) (i:=(i:Int)) (oh l i) j;have hj1:=Ga.1 hn;have hnn:0<=fm (vsP l) (bC l i) j/\0<=(ptX (aQ (bC l i) j) (vsP l):Int):=⟨hn,yd _⟩;refine⟨hnn,hk,λa q hq=> ?_,λhno=>⟨hnn,rfl,hno,hk,HI hj1⟩⟩;obtain⟨ha,e⟩:=oT.1 hq.1;have hr:=zD (vs:=vsP l) (pts:=bC l i) (i:=(i:Int)) (E6 l i) j q (List.mem_of_getElem? hq.1);have hm2:=BV (a:=i) (n:=l.length) (by omega) hlen;have eg:cc (dI (vsP l) (bC l i) (i:Int) (cU l i) j) a ((0,0),([] :List Int))=q:=by rw[bq,hq.1];rfl
    rw[eg];exact⟨hnn,rfl,ha,hq.2,rfl,by omega,hk,HI hj1⟩
   .obtain rfl:j=(bC l i).length:=by omega
    exact⟨by unfold aG;omega,rfl,rfl,by omega,by omega⟩
  obtain rfl:i=l.length:=by omega
  have hle:(esP l).length<=400000:=B.pl.le;have hel:(edM (cU l l.length)).length<=400000:=by rw[A2];exact hle
  refine⟨⟨rfl,rfl,rfl,rfl,rfl,uq _⟩,λy hy=>⟨λhM=> ?_,λi q hq=> ?_⟩⟩
  rotate_left
  .have hlen2:=hy.length_eq;obtain⟨hi2,_⟩:=oT.1 hq;have hel2:(edM y.1).length=y.1.length:=eB _;rw[dh]at hlen2;refine⟨by unfold ix;omega,by unfold ix;omega,rfl,by simp only[eD];omega,rfl,rfl,rfl,rfl,rfl,(VM hq _).trans hy,?_⟩;rw[List.length_eraseIdx_of_lt hi2];omega
  have hperm:y.2.Perm (edM (cU l l.length)):=by rw[hM]at hy;have:y.2++edM [] =y.2:=je _;rw[this]at hy;exact hy
  have hek:=A3 (oh l l.length);refine⟨⟨rfl,by have:=hperm.length_eq;omega,EdK.perm hperm hek,rfl,rfl,by rw[hperm.length_eq,A2],V1 hperm hek⟩,λ_=> ?_⟩;clear hy hM hperm y hge hB;have P:=B.pl;have hPE:(⟨l,vsP l,esP l,([] :List (List (List Int)))⟩:Pl)=aA l:=rfl;rw[hPE];have hes:(esP l).length=(aA l).es.length:=rfl;obtain⟨hcy,hcm⟩:=rY P;refine⟨rfl,P,B.ord,rfl,P,B.ord,by omega,rfl,by omega,by omega,by unfold aG;omega,by omega,by omega,by omega,by omega,⟨rfl,rfl,rfl,rfl,rfl,rfl,rfl,rfl,cO _⟩,λk hk=>⟨λhlt=> ?_,λhge=> ?_⟩⟩
  .obtain⟨c1,c2,c3⟩:=hcm _ (kK (l:=cyP (aA l) aC) (i:=k) (by omega));obtain⟨m1,m2⟩:=nK (aA l) k;have I:=qf P k (show k<=(cyP (aA l) aC).length by omega);have f1:=I.f1;have f2:=I.f2;have m1:(ph1 (aA l) k).1.length=(cyP (aA l) aC).length:=m1;refine⟨by unfold ix;omega,by unfold ix;omega,by omega,⟨rfl,rfl,cO _⟩,λj hj=>⟨λhlt2=> ?_,λhg=> ?_⟩⟩
   .have H:=c3 _ (iX (l:=aO (cyP (aA l) aC) k) (i:=j) (by omega));have h1:=H.1;have h2:=H.2;exact⟨by unfold ix;omega,by unfold ix;omega,by rw[tO];omega,by unfold aG;omega,rfl,rfl,by omega,by omega⟩
   .obtain rfl:j=(aO (cyP (aA l) aC) k).length:=by omega
    refine⟨⟨rfl,rfl,P.fs _,(ni P aC).fs _,c1,by omega,c3,?_,?_⟩,λ_=>⟨λhin=> ?_,λhin=> ?_⟩⟩
    .have:=At (aA l) (ph1 (aA l) k).2.2 (aO (cyP (aA l) aC) k);have e:bv (⟨(aA l).sg,(aA l).vs,esP l,(ph1 (aA l) k).2.2⟩:Pl) (aO (cyP (aA l) aC) k)=bv (aA l) (aO (cyP (aA l) aC) k):=this;rw[e];exact ZR P c1 c3
    .have e:inP (⟨(aA l).sg,(aA l).vs,esP l,(ph1 (aA l) k).2.2⟩:Pl) (aO (cyP (aA l) aC) k) (lvP (aA l) aC)=inP (aA l) (aO (cyP (aA l) aC) k) (lvP (aA l) aC):=ZV (aA l) _ _ _;rw[e]
    .have hin:¬inP (aA l) (aO (cyP (aA l) aC) k) (lvP (aA l) aC)=true:=by
      cases h:inP (aA l) (aO (cyP (aA l) aC) k) (lvP (aA l) aC)with
      |true=>rw[h]at hin;cases hin
      |false=>exact sH
     have e:ph1 (aA l) (k+1)=_:=if_neg hin;rw[e];refine⟨⟨by unfold ix;omega,by rw[fA];omega,rfl⟩,λ_=>⟨rfl,by omega,by unfold aG;omega,rfl,rfl,rfl,rfl,rfl,rfl,rfl,?_,by omega,by omega⟩⟩;simp only[dh,eD]
    .have hin:inP (aA l) (aO (cyP (aA l) aC) k) (lvP (aA l) aC)=true:=by
      cases h:inP (aA l) (aO (cyP (aA l) aC) k) (lvP (aA l) aC)with
      |true=>rfl
      |false=>rw[h]at hin;cases hin
     have e:ph1 (aA l) (k+1)=_:=if_pos hin;rw[e];exact⟨by unfold aG;omega,rfl,rfl,rfl,rfl,rfl,rfl,rfl,rfl,by omega,by omega⟩
  obtain rfl:k=(cyP (aA l) aC).length:=by omega
  have I1:=qf P _ (az (nC (aA l)));have hf2:(ph1 (aA l) (cyP (aA l) aC).length).2.2.length<=(cyP (aA l) aC).length+1:=I1.f2;obtain⟨ml,mo⟩:=nK (aA l) (cyP (aA l) aC).length;have ml:(ph1 (aA l) (cyP (aA l) aC).length).1.length=(cyP (aA l) aC).length:=ml;refine⟨⟨rfl,rfl,rfl,cO _⟩,λk hk2=>⟨λhlt=> ?_,λhge2=> ?_⟩⟩
  .obtain⟨c1,c2,c3⟩:=hcm _ (kK (l:=cyP (aA l) aC) (i:=k) (by omega));have I:=pH B k (show k<=(cyP (aA l) aC).length by omega);have i1:(ph2 (aA l) k).1.length=(cyP (aA l) aC).length:=I.l1;have i2:(ph2 (aA l) k).2.length=(ph1 (aA l) (cyP (aA l) aC).length).2.2.length:=I.l2;have f1:1<=(ph1 (aA l) (cyP (aA l) aC).length).2.2.length:=I1.f1;have v0:aM (ph2 (aA l) k).1 k=aM (ph1 (aA l) (cyP (aA l) aC).length).1 k:=I.v2 k (az _);have v1:0<aM (ph2 (aA l) k).1 k->aM (ph2 (aA l) k).1 k<((ph1 (aA l) (cyP (aA l) aC).length).2.2.length:Int):=by
    intro h;rcases I1.v1 k (show k<(cyP (aA l) aC).length by omega)with h3|h3
    .have:aM (ph1 (aA l) (cyP (aA l) aC).length).1 k= -1:=h3.1;omega
    .rw[v0];exact h3.2
   obtain⟨w1,w2⟩:=IJ B (show k<(cyP (aA l) aC).length by omega) I;have w0:=w1 k (DP k);have w0:0<=aM (fdP (aA l) (ph1 (aA l) (cyP (aA l) aC).length).2.1 (ph2 (aA l) k).1 (aO (cyP (aA l) aC) k) k) k/\aM (fdP (aA l) (ph1 (aA l) (cyP (aA l) aC).length).2.1 (ph2 (aA l) k).1 (aO (cyP (aA l) aC) k) k) k<((ph1 (aA l) (cyP (aA l) aC).length).2.2.length:Int):=w0;refine⟨by unfold ix;omega,⟨by unfold ix;omega,by omega,λh0=> ?_,λh0=> ?_⟩,λ_=>⟨⟨by unfold ix;omega,by omega,λh0=> ?_,λh0=> ?_⟩,λ_=>⟨by unfold ix;omega,by rw[A0];omega,λho=> ?_,λho=> ?_⟩⟩⟩
   .have hv:=v1 h0;have hr:=I.r _ (sz (l:=(ph2 (aA l) k).2) (i:=(aM (ph2 (aA l) k).1 k).toNat) (by omega));rw[Pn];refine⟨by unfold ix;omega,by omega,by unfold ix;omega,by omega,λh5=> ?_,λh5=> ?_⟩
    .have hrow:=hr.2 _ (kK (l:=bl (ph2 (aA l) k).2 (aM (ph2 (aA l) k).1 k).toNat) (i:=0) (by omega));refine⟨by unfold ix;omega,by omega,by unfold ix;omega,by omega,by unfold ix;omega,by omega,by omega,by unfold ix;omega,by unfold ix;omega,?_⟩;unfold ouP;rw[decide_eq_true h0,decide_eq_true (show 0<(bl (ph2 (aA l) k).2 (aM (ph2 (aA l) k).1 k).toNat).length by omega),jH,jH]
    .unfold ouP;rw[decide_eq_false (show¬0<(bl (ph2 (aA l) k).2 (aM (ph2 (aA l) k).1 k).toNat).length by omega),ll,Bool.and_false]
   .unfold ouP;rw[decide_eq_false h0,ll]
   .have hlow:=wT P c1 c3;have e1:∀fs,bv (⟨(aA l).sg,(aA l).vs,esP l,fs⟩:Pl) (aO (cyP (aA l) aC) k)=bv (aA l) (aO (cyP (aA l) aC) k):=λfs=>At (aA l) fs _;have e2:∀fs q,bwP (⟨(aA l).sg,(aA l).vs,esP l,fs⟩:Pl) q=bwP (aA l) q:=λfs q=>Zt (aA l) fs q;simp only[e1,e2];have hq:POk (aQ (aA l).vs (bv (aA l) (aO (cyP (aA l) aC) k)).toNat)/\(aQ (aA l).vs (bv (aA l) (aO (cyP (aA l) aC) k)).toNat).den<=33000000:=P.pt _ (by
     have hh:(bv (aA l) (aO (cyP (aA l) aC) k)).toNat<(aA l).vs.length:=by omega
     rw[nU hh];exact eR hh)
    refine⟨by unfold ix;omega,by omega,by unfold ix;omega,rfl,i2.symm,P.fs _,c1,by omega,c3,by unfold ix;omega,rfl,i2.symm,P.fs _,hq.1.q hq.2,λhb=> ?_,λhb=> ?_⟩
    .have hb:0<=bwQ (aA l) (aO (cyP (aA l) aC) k):=hb;have S:=zq B (show k<(cyP (aA l) aC).length by omega) I h0 hb;have s1:=S.h.1;have s2:=S.h.2;have s3:=S.j;have s4:=S.lt;have s3:0<=aM (ph1 (aA l) (cyP (aA l) aC).length).2.1 (bwQ (aA l) (aO (cyP (aA l) aC) k)).toNat:=s3;have s4:aM (ph1 (aA l) (cyP (aA l) aC).length).2.1 (bwQ (aA l) (aO (cyP (aA l) aC) k)).toNat<k:=s4;show ix (bwQ (aA l) (aO (cyP (aA l) aC) k)) _/\(bwQ (aA l) (aO (cyP (aA l) aC) k)).toNat<_/\_/\_/\_/\(0<=aM _ (bwQ (aA l) (aO (cyP (aA l) aC) k)).toNat/\aM _ (bwQ (aA l) (aO (cyP (aA l) aC) k)).toNat<_)/\0<=aM _ (aM _ (bwQ (aA l) (aO (cyP (aA l) aC) k)).toNat).toNat/\_;have hj:=I.v1 (aM (ph1 (aA l) (cyP (aA l) aC).length).2.1 (bwQ (aA l) (aO (cyP (aA l) aC) k)).toNat).toNat (by omega);refine⟨by unfold ix;omega,by omega,by rw[fA];omega,by omega,by rw[fA];omega,⟨s3,by rw[fA];omega⟩,?_,by unfold ix;omega,by rw[fA];omega,?_⟩
     .rw[fQ,if_neg (by omega)];exact hj.1
     .unfold fdP;rw[if_pos h0,if_pos hb];rfl
    .have hb:¬0<=bwQ (aA l) (aO (cyP (aA l) aC) k):=hb;unfold fdP;rw[if_pos h0,if_neg hb]
   .unfold fdP;rw[if_neg h0]
   .have ho:¬ouP (ph2 (aA l) k).1 (ph2 (aA l) k).2 (aO (cyP (aA l) aC) k) k=true:=by
     cases h:ouP (ph2 (aA l) k).1 (ph2 (aA l) k).2 (aO (cyP (aA l) aC) k) k with
     |true=>rw[h]at ho;cases ho
     |false=>exact sH
    have e:ph2 (aA l) (k+1)=_:=if_neg ho;rw[e,Pn];have hr:=I.r _ (sz (l:=(ph2 (aA l) k).2) (i:=(aM (fdP (aA l) (ph1 (aA l) (cyP (aA l) aC).length).2.1 (ph2 (aA l) k).1 (aO (cyP (aA l) aC) k) k) k).toNat) (by omega));exact⟨by unfold ix;omega,by omega,by omega,rfl,by simp only[eD];omega,by unfold ix;omega,rfl,by omega,by unfold aG;omega,by omega,rfl,rfl,rfl,rfl,by omega,by omega⟩
   .have ho:ouP (ph2 (aA l) k).1 (ph2 (aA l) k).2 (aO (cyP (aA l) aC) k) k=true:=by
     cases h:ouP (ph2 (aA l) k).1 (ph2 (aA l) k).2 (aO (cyP (aA l) aC) k) k with
     |true=>rfl
     |false=>rw[h]at ho;cases ho
    have e:ph2 (aA l) (k+1)=_:=if_pos ho;rw[e];exact⟨by unfold aG;omega,rfl,rfl,rfl,by omega,by omega⟩
  obtain rfl:k=(cyP (aA l) aC).length:=by omega
  have I2:=pH B _ (az (nC (aA l)));have n1:(ph2 (aA l) (cyP (aA l) aC).length).1.length=(cyP (aA l) aC).length:=I2.l1;refine⟨⟨rfl,rfl,cO _⟩,λe he=>⟨λhlt=> ?_,λhg=> ?_⟩⟩
  .have hpos:=Z2 (p:=aA l) (by omega);have o1:=I1.o _ (iX (l:=(ph1 (aA l) (nC (aA l))).2.1) (i:=2*e) (by show 2*e<(ph1 (aA l) (cyP (aA l) aC).length).2.1.length;omega));have o2:=I1.o _ (iX (l:=(ph1 (aA l) (nC (aA l))).2.1) (i:=2*e+1) (by show 2*e+1<(ph1 (aA l) (cyP (aA l) aC).length).2.1.length;omega));have o1:aM (ph1 (aA l) (cyP (aA l) aC).length).2.1 (2*e)=0\/0<=aM (ph1 (aA l) (cyP (aA l) aC).length).2.1 (2*e)/\aM (ph1 (aA l) (cyP (aA l) aC).length).2.1 (2*e)<((cyP (aA l) aC).length:Int):=o1;have o2:aM (ph1 (aA l) (cyP (aA l) aC).length).2.1 (2*e+1)=0\/0<=aM (ph1 (aA l) (cyP (aA l) aC).length).2.1 (2*e+1)/\aM (ph1 (aA l) (cyP (aA l) aC).length).2.1 (2*e+1)<((cyP (aA l) aC).length:Int):=o2;have l3:=pG (aA l) (ph1 (aA l) (cyP (aA l) aC).length).2.1 (ph2 (aA l) (cyP (aA l) aC).length).1 e;refine⟨by unfold aG;omega,by unfold ix;omega,by omega,by unfold ix;omega,by omega,by unfold aG;omega,by unfold aG;omega,by unfold ix;omega,by omega,by unfold ix;omega,by omega,by unfold ix;omega,by omega,by unfold ix;omega,by rw[fA];omega,by unfold aG;omega,rfl,?_,by omega,by omega⟩;exact Xv (by omega)
  .obtain rfl:e=(aA l).es.length:=by omega
   rw[eP];exact⟨(pG _ _ _ _).symm,I2.l2.symm,rfl,rfl,rfl,rfl,e0.symm⟩)
section
open Go.RowKit Go.Shelf
attribute [local go_sem] Oper.semAt_some
def RdH(n0:Nat)(w:World)(ah:Option Addr)(hs:List RV):Prop:=∀i,i<hs.length->∃b off,ah=some ⟨b,off,none⟩/\b<n0/\w.cell? ⟨b,off+i,none⟩=some (RV.enc (hs.getD i default))
def RdH.below{n0:Nat}{w w':World}{ah:Option Addr}{hs:List RV}(h:RdH n0 w ah hs)(hb:Below n0 w w'):RdH n0 w' ah hs:=by intro i hi;obtain⟨b,off,ha,hlt,h1⟩:=h i hi;exact⟨b,off,ha,hlt,(hb.cell (p:=⟨b,_,none⟩) hlt).trans h1⟩
def Kp2(n0 b:Nat)(W W':World):Prop:=Below n0 W W'/\W'.heap[b]? =W.heap[b]?
def Kp2.trans{n0 b:Nat}{A B C:World}(h:Kp2 n0 b A B)(k:Kp2 n0 b B C):Kp2 n0 b A C:=⟨h.1.trans k.1,k.2.trans h.2⟩
def Kp2.blk{n0 b:Nat}{W W':World}{t:TypeId}{cs:Array Value}(h:Kp2 n0 b W W')(hb:Blk W b t cs):Blk W' b t cs:=h.2.trans hb
def Ui(F:Fence)(n:Nat)(h179:F.fn 216)(hro:F.round=none)(hn:1<=n)(l b n0:Nat)(o:RV)(ah:Option Addr)(ch:Nat)(hs:List RV)(hhs:hs.length<=1000)(J Jx:List RV->World->Prop)
  (hY:∀pre x W,x∈o::hs->J pre W->pre.length<hs.length+1->YieldAt F (n-1) aH l #[RV.enc x] W λe W'=>
    (e= .returned (.bool true)/\J (pre++[x]) W'/\Kp2 n0 b W W')\/(e= .returned (.bool false)/\Jx (pre++[x]) W'))
  (W:World) (hB:Blk W b 81 #[RV.enc o,.slice ah hs.length ch]) (hH:RdH n0 W ah hs) (h0:J [] W):
  CallsIn F n aH 216 #[.func (.yield l) #[] #[],.pointer (some ⟨b,0,none⟩)] W λe W'=>(∃v,e= .returned v)/\
   ((∃ys,ys=o::hs/\J ys W')\/(∃pre,pre<+:o::hs/\Jx pre W')):=by
 obtain⟨fn,tmps,assign,body,hy,hR⟩:=hY [] o W eG h0 (by simp);dsimp only[RV.enc]at hy;have c0:=hB.cell 0;have c1:=hB.cell 1;simp[RV.enc]at c0 c1;refine callsIn_of_wp Tryz.func216 rfl h179 ?_ hro;simp only[Tryz.ntmps216,DK,iJ,iI,Nat.reduceAdd,Nat.reduceSub,SI,SJ,SK,SL,oS,ma]
 gi_wp2
 refine hR.mono ?_;rintro e W1 (⟨rfl,hJ1,hk1⟩|⟨rfl,hJx1⟩)
 .have hB1:=hk1.blk hB;have hH1:=hH.below hk1.1;clear c0 c1 hR hy;have c0:=hB1.cell 0;have c1:=hB1.cell 1;simp[RV.enc]at c0 c1
  gi_wp2
  gi_loopw [4,13] (λ_ i wr=>∃k:Nat,k<=hs.length/\i= .int .i64 k/\J (o::hs.take k) wr/\Kp2 n0 b W1 wr) (λ_ i _=>hs.length-(intOf i).toNat)
  case atStart=>exact⟨0,by omega,rfl,by grind,Below.refl _ _,rfl⟩
  case round=>
   obtain⟨k,hk,rfl,hJr,hkr⟩:=hrel;by_cases hlt:k<hs.length
   .obtain⟨bb,off,rfl,hbb,p0⟩:=hH1.below hkr.1 k hlt;have hblt:bb<wr.heap.size:=by
     rcases jc bb wr.heap.size with h|h
     .exact h
     .simp[World.cell?,Array.getElem?_eq_none h]at p0
    have htk:o::hs.take (k+1)=(o::hs.take k)++[hs.getD k default] :=by rw[List.take_add_one,bq,dA hlt];simp
    obtain⟨fn,tmps,assign,body,hy,hR⟩:=hY (o::hs.take k) (hs.getD k default) wr (dK _ (by grind)) hJr (by simp;omega);rw[<-htk]at hR;dsimp only[RV.enc]at hy;unfold RV.enc at p0;clear htk;generalize hs.getD k default=z at hy p0
    gi_wp2
    refine hR.mono ?_;rintro e W3 (⟨rfl,hJ3,hk3⟩|⟨rfl,hJx3⟩)
    .gi_wp2
     go_roundw
     case rel=>exact⟨k+1,by omega,by go_num,hJ3,hkr.trans hk3⟩
     case measure=>simp[intOf];omega
    .gi_wp2
     refine bodyPost_ret (results_none rfl _ _ _) rfl ?_;grind
   .have hk2:k=hs.length:=by omega
    subst hk2;rw[jg]at hJr
    gi_wp2
    go_end0
    grind
 .gi_wp2
  refine bodyPost_ret (results_none rfl _ _ _) rfl ?_;grind
def So(F:Fence)(n:Nat)(h179:F.fn 216)(hro:F.round=none)(hn:1<=n)(b n0:Nat)(o:RV)(ah:Option Addr)(ch:Nat)(hs:List RV)(hhs:hs.length<=1000)(w:World)(hn0:n0<=w.heap.size)(hB:Blk w b 81 #[RV.enc o,.slice ah hs.length ch])(hH:RdH n0 w ah hs):
  SeqStopsK F n aH 216 #[.pointer (some ⟨b,0,none⟩)] (λx:{x:RV//x∈o::hs}=> #[RV.enc x.1]) (Kp2 n0 b) (λys=>ys.map (·.1)=o::hs) (λpre=>pre.map (·.1)<+:o::hs) (hs.length+1) w:=λl J Jx W hW _ _ hY h0=>by
 refine(Ui F n h179 hro hn l b n0 o ah ch hs hhs (λpre W=>∃p:List {x:RV//x∈o::hs},p.map (·.1)=pre/\J p W) (λpre W=>∃p:List {x:RV//x∈o::hs},p.map (·.1)=pre/\Jx p W) ?_ W (hB.ic hW) (hH.below (hW.mono hn0)) ⟨[],rfl,h0⟩).mono ?_
 .rintro pre x W' hx ⟨p,rfl,hJ⟩ hl;obtain⟨fn,tmps,assign,body,hy,hR⟩:=hY p ⟨x,hx⟩ W' hJ (by grind);refine⟨fn,tmps,assign,body,hy,hR.mono ?_⟩;grind
 grind
def aAi{n0 b:Nat}{w:World}(hn:n0<=w.heap.size)(hb:b<w.heap.size)(W:World)(l:Nat)(o o':Obj)(hl:w.heap.size<=l)(h:W.heap[l]? =some o)(h1:o.isCells=false)(h2:o.isWalk=false):Kp2 n0 b W (W.putObj l o'):=
 ⟨belowK_b hn W l o o' hl h h1 h2,World.putObj_heap_other (by omega)⟩
def Uh(o:RV)(ah:Option Addr)(nh ch:Nat)(w:World):
  Calls aH 159 #[.agg #[RV.enc o,.slice ah nh ch]] w λe w'=>e= .returned (.func (.func 216) #[] #[.pointer (some ⟨w.heap.size,0,none⟩)])/\w'=w.alloc (.cells #[RV.enc o,.slice ah nh ch] 81):=by
 unfold RV.enc
 go_enter Tryz.func159,Tryz.ntmps159
 go_wp2
 go_ret
 simp_all
end
section
open Go.RowKit Go.Shelf
attribute [local go_sem] Oper.semAt_some
structure RdSh(w:World)(o:RV)(ah:Option Addr)(hs:List RV):Prop where
 h:RdH w.heap.size w ah hs
 v:∀x∈o::hs,RdV w x.a x.r/\Len x
 n:hs.length<=1000
def gJ(o:RV)(hs:List RV):Shape:=⟨o.r,hs.map RV.r⟩
section
variable {F:Fence} {n:Nat} {P:Program} {fn:Func} {R:Ending->World->Prop} {a:Act} {w:World} {v:Value}
def Tk(hr:(results fn a.tmps).run P w= .ok v w)(hd:a.defers=[])(hR:R (.returned v) w):bodyPostM F n P fn R .ret a w:=by show LeavesInM F n P fn a.tmps R a.defers .returning w;rw[hd];exact⟨v,hr,hR⟩
def Tj{D:Nat}(hd:a.defers=[{target:= .collected D,args:= #[]}])(hK:w.heap[D]? =some (.deferred (some [])))(hr:(results fn a.tmps).run P (w.putObj D (.deferred none))= .ok v (w.putObj D (.deferred none)))
  (hR:R (.returned v) (w.putObj D (.deferred none))):bodyPostM F n P fn R .ret a w:=by
 show LeavesInM F n P fn a.tmps R a.defers .returning w;rw[hd];exact⟨by simp,.inl ⟨_,_,rfl,run_takeDeferred hK,v,hr,hR⟩⟩
end
def nB{n0 D:Nat}{W:World}(hD:n0<=D)(hK:W.heap[D]? =some (.deferred (some []))):Below n0 W (W.putObj D (.deferred none)):=
 (Below.refl n0 W).grown (grownBy_putObj' W D _) (by grind) (by grind)
def TJ{W W':World}(h:Below W.heap.size W W'):KeepsOthers W W':=
 ⟨h.size,λk _o hk _=>(h.block k (by grind)).trans hk⟩
def tZ{β:Type}{B g:Nat}{t:TypeId}{cs:β->Array Value}:OwnFrom B (λ(s:β) W=>Blk W g t (cs s)):=λs W W' row h hg hr=>by have h':W.heap[g]? =some (.cells (cs s) t (0,0)):=h;refine(hg.block g (by grind) ?_).trans h';intro e;obtain⟨_,o,ho,hc⟩:=hr g e.symm;rw[h']at ho;cases ho;cases hc
def JL{β:Type}{B:Nat}{p:β->Prop}:OwnFrom B (λ(s:β) (_:World)=>p s):=λ_ _ _ _ h _ _=>h
def XJ{W:World}{D g:Nat}{t:TypeId}{cs:Array Value}(h:Blk W g t cs)(hK:W.heap[D]? =some (.deferred (some [])))(o':Obj):Blk (W.putObj D o') g t cs:=by have h':W.heap[g]? =some (.cells cs t (0,0)):=h;refine(World.putObj_heap_other ?_).trans h';grind
def nc{F:Fence}{n:Nat}{R:Ending->World->Prop}{W:World}{D s:Nat}{T:Array Value}{v:Bool}(hT:T.getD 2 undef= .pointer (some ⟨s,0,none⟩))(b2:Blk W s 4 #[.bool v])(hK:W.heap[D]? =some (.deferred (some [])))
  (hR:R (.returned (.bool v)) (W.putObj D (.deferred none))):bodyPostM F n aH Tryz.f97 R .ret {tmps:=T,defers:=[{target:= .collected D,args:= #[]}]} W:=by
 refine Tj (v:= .bool v) rfl hK ?_ hR;have c2:=(XJ b2 hK (.deferred none)).cell 0;rw[Array.getD_eq_getD_getElem?]at hT;simp[results,Tryz.f97,go_sem,hT,c2]
def S5{s:Shape}(h:6<s.holes.length):iZ s=false:=by unfold iZ;grind
def jQ(o:bE)(L:List bE)(i:Nat):Bool:=aDj (aZ L i) o 2&&gD (aZ L i) o&&
 ((bO i).all λk=>gD (aZ L i) (aZ L k)&&aDj (aZ L i) (aZ L k) 0&&aDj (aZ L k) (aZ L i) 0)
def pj(L:List bE)(i k:Nat):Bool:=gD (aZ L i) (aZ L k)&&aDj (aZ L i) (aZ L k) 0&&aDj (aZ L k) (aZ L i) 0
def vP(s:Shape):iZ s=(decide (s.holes.length<=6)&&(dL s).all dF&&decide (iv s<=80)&&((bO s.holes.length).all (jQ s.outer s.holes))):=rfl
def S6{s:Shape}{i:Nat}(hi:i<s.holes.length)(h:jQ s.outer s.holes i=false):iZ s=false:=by rw[vP];grind
def SY{s:Shape}(h:80<iv s):iZ s=false:=by rw[vP,decide_eq_false (show¬iv s<=80 by omega)];simp
def S4{s:Shape}{r:bE}(hr:r∈dL s)(h:dF r=false):iZ s=false:=by rw[vP];grind
def TS{s:Shape}(h1:¬6<s.holes.length)(h2:∀r∈dL s,dF r=true)(h3:¬80<iv s)(h4:∀i,i<s.holes.length->jQ s.outer s.holes i=true):iZ s=true:=by rw[vP,decide_eq_true (by grind),decide_eq_true (by grind),dm.2 h2];grind
def VD{o:bE}{L:List bE}{i:Nat}(h1:aDj (aZ L i) o 2=true)(h2:gD (aZ L i) o=true)(h3:∀k,k<i->pj L i k=true):jQ o L i=true:=by unfold jQ;rw[h1,h2];simp only[jH,dm,dY];exact h3
def Tx{o:bE}{L:List bE}{i:Nat}(h1:aDj (aZ L i) o 2=false):jQ o L i=false:=by unfold jQ;rw[h1];simp
def Tw{o:bE}{L:List bE}{i:Nat}(h1:gD (aZ L i) o=false):jQ o L i=false:=by unfold jQ;rw[h1];simp
def Tv{o:bE}{L:List bE}{i k:Nat}(hk:k<i)(h1:pj L i k=false):jQ o L i=false:=by unfold jQ;have:((bO i).all λk=>gD (aZ L i) (aZ L k)&&aDj (aZ L i) (aZ L k) 0&&aDj (aZ L k) (aZ L i) 0)=false:=List.all_eq_false.2 ⟨k,by grind,by simpa[pj]using h1⟩;grind
def WW(hs:List RV){k:Nat}(hk:k<hs.length):aZ (hs.map RV.r) k=(hs.getD k default).r:=by unfold aZ;grind
def Ge(hs:List RV){k:Nat}(hk:k<hs.length):hs.getD k default∈hs:=by grind
def Sa(o:RV)(ah:Option Addr)(ch:Nat)(hs:List RV)(w:World)(H:RdSh w o ah hs)(hch:hs.length<=ch):
  Calls aH 97 #[.agg #[RV.enc o,.slice ah hs.length ch]] w λe w'=>e= .returned (.bool (iZ (gJ o hs)))/\Below w.heap.size w w':=by
 have hN:=H.n;by_cases c1:6<hs.length
 .have HV:Hid (iZ (gJ o hs)=false):=Lib.hid (S5 (by unfold gJ;grind));refine(callsIn_wide (n:=9)).1 (callsIn_of_wp_marks Tryz.func97 rfl trivial ((wpIn_wide (n:=9)).2 ?_) rfl);simp only[Tryz.ntmps97,DK,iJ,iI,Nat.reduceAdd,Nat.reduceSub,SI,SJ,SK,SL,oS,ma]
  go_wp2_with fail
  have hBW:Below w.heap.size w (((w.alloc (.cells #[.slice o.a o.r.length o.c,.slice ah hs.length ch] 81)).alloc (.cells #[.bool false] 4))):=((Below.refl _ _).alloc (az _) _).alloc (by simp) _;refine Tk (v:= .bool false) ?_ rfl ?_
  .simp[results,Tryz.f97,go_sem]
  .exact⟨by rw[HV.out],hBW⟩
 .have d1:decide ((6:Int)<hs.length)=false:=by grind
  refine(callsIn_wide (n:=9)).1 (callsIn_of_wp_marks Tryz.func97 rfl trivial ((wpIn_wide (n:=9)).2 ?_) rfl);simp only[Tryz.ntmps97,DK,iJ,iI,Nat.reduceAdd,Nat.reduceSub,SI,SJ,SK,SL,oS,ma];dsimp only[RV.enc]
  go_wp2_with fail
  refine(Uh o ah hs.length ch _).mono ?_;rintro e w1 ⟨rfl,rfl⟩
  go_wp2_with fail
  have B1:=(((Blk.new w 81 #[.slice o.a o.r.length o.c,.slice ah hs.length ch]).alloc (.cells #[.bool false] 4)).alloc (.cells #[.int .i64 0] 3)).alloc (.cells #[RV.enc o,.slice ah hs.length ch] 81);have B2:=((Blk.new (w.alloc (.cells #[.slice o.a o.r.length o.c,.slice ah hs.length ch] 81)) 4 #[.bool false]).alloc (.cells #[.int .i64 0] 3)).alloc (.cells #[RV.enc o,.slice ah hs.length ch] 81);have B3:=(Blk.new ((w.alloc (.cells #[.slice o.a o.r.length o.c,.slice ah hs.length ch] 81)).alloc (.cells #[.bool false] 4)) 3 #[.int .i64 0]).alloc (.cells #[RV.enc o,.slice ah hs.length ch] 81);have B4:=Blk.new (((w.alloc (.cells #[.slice o.a o.r.length o.c,.slice ah hs.length ch] 81)).alloc (.cells #[.bool false] 4)).alloc (.cells #[.int .i64 0] 3)) 81 #[RV.enc o,.slice ah hs.length ch];have hBW:Below w.heap.size w ((((w.alloc (.cells #[.slice o.a o.r.length o.c,.slice ah hs.length ch] 81)).alloc (.cells #[.bool false] 4)).alloc (.cells #[.int .i64 0] 3)).alloc (.cells #[RV.enc o,.slice ah hs.length ch] 81)):=((((Below.refl _ _).alloc (az _) _).alloc (by simp) _).alloc (by simp;omega) _).alloc (by simp;omega) _;have hs0:w.heap.size+4=((((w.alloc (.cells #[.slice o.a o.r.length o.c,.slice ah hs.length ch] 81)).alloc (.cells #[.bool false] 4)).alloc (.cells #[.int .i64 0] 3)).alloc (.cells #[RV.enc o,.slice ah hs.length ch] 81)).heap.size:=by simp
  simp only[World.size_alloc]at B1 B2 B3 B4;generalize (((w.alloc (.cells #[.slice o.a o.r.length o.c,.slice ah hs.length ch] 81)).alloc (.cells #[.bool false] 4)).alloc (.cells #[.int .i64 0] 3)).alloc (.cells #[RV.enc o,.slice ah hs.length ch] 81)=W0 at B1 B2 B3 B4 hBW hs0|-;refine(wpIn_wide (n:=9)).1 ?_
  refine' wpIn_rangeFunc_ownF (F:=Fence.wide) (n:=9) rfl (by omega) (gf:=216) (lb:= #[.pointer (some ⟨w.heap.size+1+1+1,0,none⟩)]) rfl trivial (enters_of Tryz.func216 (by kernel_rfl) rfl)
   (So Fence.wide 8 trivial rfl (by omega) (w.heap.size+1+1+1) w.heap.size o ah ch hs H.n W0 (by omega) B4 (H.h.below hBW)) Kp2.trans (aAi (by omega) (by omega)) (Below.refl _ _) (λ_=>rfl)
   (λpre W=>((Blk W w.heap.size 81 #[.slice o.a o.r.length o.c,.slice ah hs.length ch]/\(Blk W (w.heap.size+1) 4 #[.bool false]/\Blk W (w.heap.size+1+1+1) 81 #[RV.enc o,.slice ah hs.length ch]))/\Blk W (w.heap.size+1+1) 3 #[.int .i64 ((pre.map λx=>x.1.r.length).sum:Nat)])/\(((pre.map λx=>x.1.r.length).sum<=1000*pre.length/\∀x∈pre,dF x.1.r=true)/\Below w.heap.size w W))
   (λc pre W=>Blk W (w.heap.size+1) 4 #[.bool false]/\((c= .ret/\∃x∈pre,dF x.1.r=false)/\Below w.heap.size w W))
   (OwnFrom.and (OwnFrom.and (OwnFrom.and tZ (OwnFrom.and tZ tZ)) tZ) (OwnFrom.and JL (ownFrom_below (az _) (by omega))))
   (λc=>OwnFrom.and tZ (OwnFrom.and JL (ownFrom_below (az _) (by omega))))
   (by grind) _ ?assign ?body ?done ?stop
  case assign=>
   intro l x W K hK
   gi_wp2
   exact hK
  case body=>
   rintro l pre ⟨⟨xa,xc,xr⟩,hxm⟩ W ⟨⟨⟨b1,b2,b4⟩,b3⟩,⟨hsum,hval⟩,hb⟩ hlen;obtain⟨hxr,hxl⟩:=H.v _ hxm;have hxn:xr.length<=1000:=hxl.1;have HS:Hid (((pre++[(⟨⟨xa,xc,xr⟩,hxm⟩:{x:RV//x∈o::hs})]).map λx:{x:RV//x∈o::hs}=>x.1.r.length).sum=(pre.map λx=>x.1.r.length).sum+xr.length):=Lib.hid (by simp);obtain⟨S,hS⟩:∃S,S=(yU (λx:{x:RV//x∈o::hs}=>fg x.1.r) pre).sum:=⟨_,rfl⟩;rw[<-hS]at b3 hsum HS;clear hS;have c2:=b2.cell 0;have c3:=b3.cell 0;have f2:=b2.frozen 0;have f3:=b3.frozen 0;dsimp only[RV.enc]
   gi_wp2_with fail
   refine⟨trivial,(CallsIn.inRound l (callsIn_wide.2 (Si xa xc xr _ (hxr.below (hb.setCell (p:=⟨w.heap.size+1+1,0,none⟩) (by simp;omega) _)) hxl))).mono ?_⟩;rintro e w1 ⟨rfl,hb1⟩;have hk:KeepsOthers W w1:=(KeepsOthers.setCell W _ _).trans (TJ hb1);have q2:=(b2.far (p:=⟨w.heap.size+1+1,0,none⟩) (by simp) (.int .i64 ((S:Int)+xr.length))).ic hb1;have q1:=(b1.far (p:=⟨w.heap.size+1+1,0,none⟩) (by simp;omega) (.int .i64 ((S:Int)+xr.length))).ic hb1;have q4:=(b4.far (p:=⟨w.heap.size+1+1,0,none⟩) (by simp) (.int .i64 ((S:Int)+xr.length))).ic hb1;have q3:=(b3.mP 0 (.int .i64 ((S:Int)+xr.length))).ic hb1;have hB1:Below w.heap.size W w1:=((Below.refl _ W).setCell (p:=⟨w.heap.size+1+1,0,none⟩) (by simp;omega) _).trans (hb1.mono (by have:=hb.size;simp_all));have hK:Kp2 w.heap.size (w.heap.size+1+1+1) W w1:=⟨hB1,Eq.trans q4 (Eq.symm b4)⟩;cases hv:dF xr with
   |true=>
    gi_wp2
    refine⟨hk,hK,⟨⟨q1,q2,q4⟩,?_⟩,⟨?_,?_⟩,hb.trans hB1⟩
    .rw[HS.out];grind
    .rw[HS.out];simp;omega
    grind
   |false=>
    have c2:=q2.cell 0;have f2:=q2.frozen 0
    gi_wp2
    refine⟨hk.trans (KeepsOthers.setCell _ _ _),by simpa using q2.mP 0 (.bool false),⟨rfl,⟨_,eK.2 (.inr eG),hv⟩⟩,(hb.trans hB1).setCell (p:=⟨w.heap.size+1,0,none⟩) (by simp) _⟩
  case stop=>
   rintro D c pre W hD hpre ⟨b2,⟨rfl,x,hx,hv⟩,hb⟩ hK;have HV:Hid (iZ (gJ o hs)=false):=Lib.hid (S4 (r:=x.1.r) (by unfold gJ dL;grind) hv)
   gi_wp2
   exact nc rfl b2 hK ⟨by rw[HV.out],hb.trans (nB (by omega) hK)⟩
  case done=>
   rintro D xs W hD hxs ⟨⟨⟨b1,b2,b4⟩,b3⟩,⟨hsum,hval⟩,hb⟩ hK;have hN7:xs.length<=7:=by have:=congrArg fg hxs;simp at this;omega
   have HC:(xs.map λx=>x.1.r.length).sum=iv (gJ o hs):=by
    have e:(xs.map λx=>x.1.r.length)=(xs.map (·.1)).map λx=>x.r.length:=by rw[gg];rfl
    rw[e,hxs];unfold iv dL gJ;simp[Function.comp_def]
   have HA:Hid (∀r∈dL (gJ o hs),dF r=true):=Lib.hid (by
    intro r hr;have hr2:r∈(o::hs).map RV.r:=by unfold dL gJ at hr;simpa using hr
    grind)
   rw[HC]at b3 hsum;clear HC hval hxs b4 B1 B2 B3 B4;have c80':=Lib.hid (λh:80<iv (gJ o hs)=>SY h);have HVA:=Lib.hid (λ(h:¬80<iv (gJ o hs)) h4=>TS (s:=gJ o hs) (by unfold gJ;grind) HA.out h h4);generalize iv (gJ o hs)=N at b3 hsum c80' HVA;have hNb:N<=7000:=by omega
   clear HA hsum hN7 xs;have c3:=b3.cell 0;have f2:=b2.frozen 0;have c2:=b2.cell 0;have d0:=b1.cell 0;have d1':=b1.cell 1;simp at c2 c3 d0 d1';have hne:D≠w.heap.size+1:=by omega
   have hKs:∀v,(W.setCell ⟨w.heap.size+1,0,none⟩ v).heap[D]? =some (.deferred (some [])):=λv=>(Below.heap_setCell W ⟨w.heap.size+1,0,none⟩ v D (by omega)).trans hK;by_cases c80:80<N
   .have d80:decide ((80:Int)<N)=true:=by grind
    have HV:=Lib.hid (c80'.out c80)
    go_wp2
    exact nc rfl (by simpa using b2.mP 0 (.bool false)) (hKs _) ⟨by rw[HV.out],(hb.setCell (p:=⟨w.heap.size+1,0,none⟩) (by simp) _).trans (nB (by omega) (hKs _))⟩
   .have d80:decide ((80:Int)<N)=false:=by grind
    replace HVA:=Lib.hid (HVA.out c80);clear c80' c80 hNb b3
    go_wp2_with fail
    have hDl:D<W.heap.size:=by grind
    have hKX:∀wx,Below W.heap.size W wx->(wx.setCell ⟨w.heap.size+1,0,none⟩ (.bool false)).heap[D]? =some (.deferred (some [])):=λwx h=>(Below.heap_setCell wx ⟨w.heap.size+1,0,none⟩ _ D (by omega)).trans ((h.block D hDl).trans hK);have hKT:∀wx,Below W.heap.size W wx->(wx.setCell ⟨w.heap.size+1,0,none⟩ (.bool true)).heap[D]? =some (.deferred (some [])):=λwx h=>(Below.heap_setCell wx ⟨w.heap.size+1,0,none⟩ _ D (by omega)).trans ((h.block D hDl).trans hK);have ho:=H.v o (by grind);have hol:(gJ o hs).outer=o.r:=rfl;have hhl:(gJ o hs).holes=hs.map RV.r:=rfl;have hlen:(gJ o hs).holes.length=hs.length:=by rw[hhl,eB]
    have HNO:=Lib.hid (λi (hi:i<hs.length) h=>S6 (s:=gJ o hs) (i:=i) (by omega) h);rw[hol,hhl]at HNO;rw[hol,hhl,eB]at HVA;have HM:=Lib.hid (λk (hk:k<hs.length)=>WW hs hk);clear hol hhl hlen hKs f2 c2 c3 d0 d1' hBW;have HC:=Lib.hid (λ(wx:World) (h:Below W.heap.size W wx)=>(show wx.cell? ⟨w.heap.size,0,none⟩=some (.slice o.a o.r.length o.c)/\wx.cell? ⟨w.heap.size,1,none⟩=some (.slice ah hs.length ch)/\wx.cell? ⟨w.heap.size+1,0,none⟩=some (.bool false)/\wx.frozen? ⟨w.heap.size+1,0,none⟩=false from
     ⟨by simpa using(b1.ic h).cell 0,by simpa using(b1.ic h).cell 1,by simpa using(b2.ic h).cell 0,(b2.ic h).frozen 0⟩))
    go_loopw [5,6,8,28] (λ_ _ _ i wr=>∃k:Nat,k<=hs.length/\i= .int .i64 k/\Hid (∀i,i<k->jQ o.r (hs.map RV.r) i=true)/\Below W.heap.size W wr) (λ_ _ _ i _=>hs.length-(intOf i).toNat)
    case atStart=>exact⟨0,by omega,rfl,Lib.hid (by grind),Below.refl _ _⟩
    case round=>
     obtain⟨k,hk,rfl,HT,hbr⟩:=hrel;by_cases hlt:k<hs.length
     .obtain⟨bb,off,rfl,hbb,p0⟩:=H.h k hlt;have hbw:=hb.trans (hbr.mono hb.size);replace p0:=(hbw.cell (p:=⟨bb,_,none⟩) hbb).trans p0;have hx:=H.v _ (dK _ (Ge hs hlt));have HMk:=HM.out k hlt;obtain⟨d0,d1',e1,e2⟩:=HC.out _ hbr;have hbbr:bb<wr.heap.size:=Rr hbb hbw.size;obtain⟨⟨xa,xc,xr⟩,hz⟩:∃z,z=hs.getD k default:=⟨_,rfl⟩;rw[<-hz]at p0 hx HMk;dsimp only[RV.enc]at p0 hx HMk;clear hz;have HNK:=Lib.hid (HNO.out k hlt);cases h1:aDj xr o.r 2 with
      |false=>
       have HV:=Lib.hid (HNK.out (Tx (by grind)))
       go_wp2_with fail
       refine(pR xa xc xr o.a o.c o.r 2 _ (ho.1.below hbw) ho.2 (hx.1.below hbw) hx.2).mono ?_;rintro e w1 ⟨rfl,hb1⟩;have hbX:=hbr.trans (hb1.mono hbr.size);obtain⟨d0,d1',e1,e2⟩:=HC.out _ hbX
       go_wp2
       exact nc rfl (by simpa using(b2.ic hbX).mP 0 (.bool false)) (hKX _ hbX) ⟨by rw[HV.out],((hb.trans (hbX.mono hb.size)).setCell (p:=⟨w.heap.size+1,0,none⟩) (by simp) _).trans (nB (by omega) (hKX _ hbX))⟩
      |true=>
       go_wp2_with fail
       refine(pR xa xc xr o.a o.c o.r 2 _ (ho.1.below hbw) ho.2 (hx.1.below hbw) hx.2).mono ?_;rintro e w1 ⟨rfl,hb1⟩;rw[h1];have hbY:=hbr.trans (hb1.mono hbr.size);have hbv:=hbw.trans (hb1.mono hbw.size);clear d0 d1' e1 e2 hb1 p0 hbr hbw;obtain⟨d0,d1',e1,e2⟩:=HC.out _ hbY;cases h2:gD xr o.r with
       |false=>
        have HV:=Lib.hid (HNK.out (Tw (by simp_all)))
        go_wp2_with fail
        refine(vt xa xc xr o.a o.c o.r _ (hx.1.below hbv) (ho.1.below hbv) hx.2 ho.2).mono ?_;rintro e w2 ⟨rfl,hb2⟩;have hbX:=hbY.trans (hb2.mono hbY.size);obtain⟨d0,d1',e1,e2⟩:=HC.out _ hbX
        go_wp2
        exact nc rfl (by simpa using(b2.ic hbX).mP 0 (.bool false)) (hKX _ hbX) ⟨by rw[HV.out],((hb.trans (hbX.mono hb.size)).setCell (p:=⟨w.heap.size+1,0,none⟩) (by simp) _).trans (nB (by omega) (hKX _ hbX))⟩
       |true=>
        go_wp2_with fail
        refine(vt xa xc xr o.a o.c o.r _ (hx.1.below hbv) (ho.1.below hbv) hx.2 ho.2).mono ?_;rintro e w2 ⟨rfl,hb2⟩;rw[h2];have hbX:=hbY.trans (hb2.mono hbY.size);clear d0 d1' e1 e2 hb2 hbY hbv hbbr;obtain⟨d0,d1',e1,e2⟩:=HC.out _ hbX;have hkc:k<=ch:=by omega
        go_wp2_with fail
        clear d0 d1' e1 e2 HNO;have hbv2:=hb.trans (hbX.mono hb.size)
        go_loopw [8,50] (λ_ i wr=>∃q:Nat,q<=k/\i= .int .i64 q/\Hid (∀i,i<q->pj (hs.map RV.r) k i=true)/\Below W.heap.size W wr) (λ_ i _=>k-(intOf i).toNat)
        case atStart=>exact⟨0,by omega,rfl,Lib.hid (λi hi=>by omega),hbX⟩
        case round=>
         obtain⟨q,hq,rfl,HQ,hbq⟩:=hrel;by_cases hlq:q<k
         .have hqs:q<hs.length:=by omega
          obtain⟨bb',off',he,hbb',p0⟩:=H.h q hqs;simp only[Option.some.injEq,Addr.mk.injEq,and_true]at he;obtain⟨rfl,rfl⟩:=he;have hbw:=hb.trans (hbq.mono hb.size);replace p0:=(hbw.cell (p:=⟨bb,_,none⟩) hbb).trans p0;have hy:=H.v _ (dK _ (Ge hs hqs));have HMq:=HM.out q hqs;have hbbr:bb<wr.heap.size:=Rr hbb hbw.size;obtain⟨⟨ya,yc,yr⟩,hz⟩:∃z,z=hs.getD q default:=⟨_,rfl⟩;rw[<-hz]at p0 hy HMq;dsimp only[RV.enc]at p0 hy HMq;clear hz hbb';have HNQ:=Lib.hid (λh=>HNK.out (Tv hlq h));have HP:Hid (pj (hs.map RV.r) k q=(gD xr yr&&aDj xr yr 0&&aDj yr xr 0)):=Lib.hid (by unfold pj;rw[HMk,HMq]);cases h3:gD xr yr with
          |false=>
           have HV:=Lib.hid (HNQ.out (by rw[HP.out,h3];rfl))
           go_wp2_with fail
           refine(vt xa xc xr ya yc yr _ (hx.1.below hbw) (hy.1.below hbw) hx.2 hy.2).mono ?_;rintro e w3 ⟨rfl,hbw3⟩;have hbz:=hbq.trans (hbw3.mono hbq.size);obtain⟨d0,d1',e1,e2⟩:=HC.out _ hbz
           go_wp2
           exact nc rfl (by simpa using(b2.ic hbz).mP 0 (.bool false)) (hKX _ hbz) ⟨by rw[HV.out],((hb.trans (hbz.mono hb.size)).setCell (p:=⟨w.heap.size+1,0,none⟩) (by simp) _).trans (nB (by omega) (hKX _ hbz))⟩
          |true=>
           go_wp2_with fail
           refine(vt xa xc xr ya yc yr _ (hx.1.below hbw) (hy.1.below hbw) hx.2 hy.2).mono ?_;rintro e w3 ⟨rfl,hbw3⟩;have hbz:=hbq.trans (hbw3.mono hbq.size);have hbv3:=hbw.trans (hbw3.mono hbw.size);cases h4:aDj xr yr 0 with
           |false=>
            have HV:=Lib.hid (HNQ.out (by rw[HP.out,h3,h4];rfl))
            go_wp2_with fail
            refine(pR xa xc xr ya yc yr 0 _ (hy.1.below hbv3) hy.2 (hx.1.below hbv3) hx.2).mono ?_;rintro e w4 ⟨rfl,hbw4⟩;have hbz4:=hbz.trans (hbw4.mono hbz.size);obtain⟨d0,d1',e1,e2⟩:=HC.out _ hbz4
            go_wp2
            exact nc rfl (by simpa using(b2.ic hbz4).mP 0 (.bool false)) (hKX _ hbz4) ⟨by rw[HV.out],((hb.trans (hbz4.mono hb.size)).setCell (p:=⟨w.heap.size+1,0,none⟩) (by simp) _).trans (nB (by omega) (hKX _ hbz4))⟩
           |true=>
            go_wp2_with fail
            refine(pR xa xc xr ya yc yr 0 _ (hy.1.below hbv3) hy.2 (hx.1.below hbv3) hx.2).mono ?_;rintro e w4 ⟨rfl,hbw4⟩;have hbz4:=hbz.trans (hbw4.mono hbz.size);have hbv4:=hbv3.trans (hbw4.mono hbv3.size);cases h5:aDj yr xr 0 with
            |false=>
             have HV:=Lib.hid (HNQ.out (by rw[HP.out,h3,h4,h5];rfl))
             go_wp2_with fail
             refine(pR ya yc yr xa xc xr 0 _ (hx.1.below hbv4) hx.2 (hy.1.below hbv4) hy.2).mono ?_;rintro e w5 ⟨rfl,hbw5⟩;have hbz5:=hbz4.trans (hbw5.mono hbz4.size);obtain⟨d0,d1',e1,e2⟩:=HC.out _ hbz5
             go_wp2
             exact nc rfl (by simpa using(b2.ic hbz5).mP 0 (.bool false)) (hKX _ hbz5) ⟨by rw[HV.out],((hb.trans (hbz5.mono hb.size)).setCell (p:=⟨w.heap.size+1,0,none⟩) (by simp) _).trans (nB (by omega) (hKX _ hbz5))⟩
            |true=>
             have HQ2:Hid (∀i,i<q+1->pj (hs.map RV.r) k i=true):=Lib.hid (λi hi=>by
              by_cases e:i=q
              .subst e;rw[HP.out,h3,h4,h5];rfl
              .exact HQ.out i (by omega))
             go_wp2_with fail
             refine(pR ya yc yr xa xc xr 0 _ (hx.1.below hbv4) hx.2 (hy.1.below hbv4) hy.2).mono ?_;rintro e w5 ⟨rfl,hbw5⟩;have hbz5:=hbz4.trans (hbw5.mono hbz4.size)
             go_wp2
             go_roundw
             case rel=>exact⟨q+1,by omega,by go_num,HQ2,hbz5⟩
             case measure=>simp[intOf];omega
         .have HT2:Hid (∀i,i<k+1->jQ o.r (hs.map RV.r) i=true):=Lib.hid (λi hi=>by
           by_cases e:i=k
           .subst e;exact VD (by simp_all) (by simp_all) (λj hj=>HQ.out j (by omega))
           .exact HT.out i (by omega))
          go_wp2
          go_roundw
          case rel=>exact⟨k+1,by omega,by go_num,HT2,hbq⟩
          case measure=>simp[intOf];omega
     .have HV:=Lib.hid (HVA.out (λi hi=>HT.out i (by omega)));obtain⟨d0,d1',e1,e2⟩:=HC.out _ hbr
      go_wp2
      exact nc rfl (by simpa using(b2.ic hbr).mP 0 (.bool true)) (hKT _ hbr) ⟨by rw[HV.out],((hb.trans (hbr.mono hb.size)).setCell (p:=⟨w.heap.size+1,0,none⟩) (by simp) _).trans (nB (by omega) (hKT _ hbr))⟩
end
section
variable {C:bG} {w:World}
def cj.rdV(hC:∀b o v,C b o v->w.cell? ⟨b,o,none⟩=some v){r:List V}{b o:Nat}(h:cj C (iF r) b o):RdV w (some ⟨b,o,none⟩) r:=by
 intro i hi;have h1:=xC.at r i hi;have g0:(iF r)[i*2]? =some (.int .i64 r[i].x):=by have:=congrArg (λl=>l[0]?) h1;simpa[oL,ru]using this
 have g1:(iF r)[i*2+1]? =some (.int .i64 r[i].y):=by have:=congrArg (λl=>l[1]?) h1;simpa[oL,ru]using this
 obtain⟨v0,a1,_,a3⟩:=cj.get _ _ _ h _ _ g0;obtain⟨v1,b1,_,b3⟩:=cj.get _ _ _ h _ _ g1;unfold a8 at a3 b3;subst a3 b3;have en:Geo.nth r i=r[i] :=by unfold Geo.nth;rw[bq,dA hi];rfl
 refine⟨b,o,rfl,f0 w ⟨b,_,none⟩ (hC _ _ _ a1),?_,?_⟩
 .grind
 grind
def GB(hC:∀b o v,C b o v->w.cell? ⟨b,o,none⟩=some v){r:List V}{v:Value}(h:a8 C (rH r) v):∃a c,v= .slice a r.length c/\RdV w a r/\r.length<=c/\(a=none->c=0):=by
 unfold rH a8 at h;obtain⟨a,c,rfl,h1,h2,h3⟩:=h;refine⟨a,c,rfl,?_,h1,λe=>(h2 e).1⟩;cases a with
 |none=>
  have:r=[] :=by have:=congrArg fg (h2 rfl).2;rw[xC.length]at this;exact ip.1 (by grind)
  subst this;intro i hi;simp at hi
 |some ad=>
  obtain⟨b,o,sp⟩:=ad;obtain⟨h4,h5⟩:=h3 _ rfl;dsimp only at h4 h5;rcases oK r.length with hr0|hr0
  .intro i hi;omega
  .have h4:=h4 hr0;subst h4;exact h5.rdV hC
def EB(hC:∀b o v,C b o v->w.cell? ⟨b,o,none⟩=some v):∀(l:List bE) (b o:Nat),cj C (l.map rH) b o->∃hs:List RV,hs.map RV.r=l/\(∀i,i<hs.length->b<w.heap.size/\w.cell? ⟨b,o+i,none⟩=some (RV.enc (hs.getD i default)))/\∀x∈hs,RdV w x.a x.r/\x.r.length<=x.c/\(x.a=none->x.c=0)
 |[],b,o,_=>⟨[],rfl,(λi h=>by simp at h),λx h=>by cases h⟩
 |r::l,b,o,h=>by
  rw[cV]at h;unfold cj at h;obtain⟨⟨v,h1,_,h2⟩,h3⟩:=h;obtain⟨a,c,rfl,h4,h5⟩:=GB hC h2;obtain⟨hs,g1,g2,g3⟩:=EB hC l b (o+1) h3;refine⟨⟨a,c,r⟩::hs,by simp[g1],?_,?_⟩
  .intro i hi;cases i with
   |zero=>exact⟨f0 w ⟨b,_,none⟩ (hC _ _ _ h1),by simpa[RV.enc]using hC _ _ _ h1⟩
   |succ i=>
    grind
  grind
def Ug(hC:∀b o v,C b o v->w.cell? ⟨b,o,none⟩=some v){l:List bE}{v:Value}(h:a8 C (BQ l) v):
  ∃ah ch,∃hs:List RV,v= .slice ah hs.length ch/\hs.length<=ch/\hs.map RV.r=l/\RdH w.heap.size w ah hs/\∀x∈hs,RdV w x.a x.r/\x.r.length<=x.c/\(x.a=none->x.c=0):=by
 unfold BQ a8 at h;obtain⟨a,c,rfl,h1,h2,h3⟩:=h;cases a with
 |none=>
  have:l=[] :=by simpa using(h2 rfl).2
  subst this;exact⟨none,c,[],rfl,cO _,rfl,(λi hi=>by simp at hi),λx hx=>by cases hx⟩
 |some ad=>
  obtain⟨b,o,sp⟩:=ad;obtain⟨h4,h5⟩:=h3 _ rfl;dsimp only at h4 h5;rcases oK l.length with hl0|hl0
  .have:l=[] :=ip.1 hl0;subst this;exact⟨_,c,[],rfl,cO _,rfl,(λi hi=>by simp at hi),λx hx=>by cases hx⟩
  have h4:=h4 hl0;subst h4;obtain⟨hs,g1,g2,g3⟩:=EB hC l b o h5;have hl:hs.length=l.length:=by rw[<-g1];simp
  exact⟨_,c,hs,by rw[hl],by omega,g1,λi hi=>⟨b,o,rfl,(g2 i hi).1,(g2 i hi).2⟩,g3⟩
def UW(hC:∀b o v,C b o v->w.cell? ⟨b,o,none⟩=some v){s:Shape}{v:Value}(hf:Fit s)(h:a8 C (tj s) v):
  ∃o ah ch hs,v= .agg #[RV.enc o,.slice ah hs.length ch]/\RdSh w o ah hs/\hs.length<=ch/\(∀x∈o::hs,x.r.length<=x.c)/\gJ o hs=s:=by
 unfold tj a8 at h;obtain⟨vs,rfl,h1,_⟩:=h;unfold bK at h1;obtain⟨v1,r1,rfl,h2,h3⟩:=h1;unfold bK at h3;obtain⟨v2,r2,rfl,h4,h5⟩:=h3;unfold bK at h5;subst h5;obtain⟨a,c,rfl,g1,g2⟩:=GB hC h2;obtain⟨ah,ch,hs,rfl,k1,k2,k3,k4⟩:=Ug hC h4;have hl:hs.length=s.holes.length:=by rw[<-k2];simp
 refine⟨⟨a,c,s.outer⟩,ah,ch,hs,rfl,⟨k3,?_,by rw[hl];have:=hf.2.1;omega⟩,k1,?_,by unfold gJ;rw[k2]⟩
 .intro x hx;rcases bh.1 hx with rfl|hx
  .exact⟨g1,hf.1,g2.1,g2.2⟩
  .exact⟨(k4 x hx).1,hf.2.2 _ (by grind),(k4 x hx).2.1,(k4 x hx).2.2⟩
 grind
end
def Sb(s:Shape)(hf:Fit s):Sat aH true 97 [tj s] (.bool (iZ s)):=by refine⟨by kernel_rfl,λC w vs hC h=> ?_⟩;unfold bK at h;obtain⟨v,r,rfl,h1,h2⟩:=h;unfold bK at h2;subst h2;obtain⟨o,ah,ch,hs,rfl,H,hch,_,rfl⟩:=UW hC hf h1;refine(Sa o ah ch hs w H hch).mono ?_;rintro e w' ⟨rfl,hb⟩;exact⟨_,rfl,by unfold a8;rfl,hb⟩
def Ps{α:Type}(fr:Bool)(A:Arl α)(pre:α->List Prop)(res:α->SV):Con:=⟨α,A.dec,pre,.val fr res⟩
def Yb{f:FuncId}{fr:Bool}{α:Type}{A:Arl α}{pre:α->List Prop}{res:α->SV}(B:α->List PV)(q:α->PV)(hB:∀x,avs (A.enc x)=(B x).map .p)(hq:∀x,(res x).av= .p (q x))(h:∀x,kA (pre x)->Sat aH fr f (B x) (q x)):(Ps fr A pre res).Ok aH f:=by intro s x hd hp;exact⟨B x,q x,(A.ok s x hd).trans (hB x),hq x,h x (fH.2 hp)⟩
def aAS(l:List bE):LT.R.enc l=l.map rH:=by
 unfold LT.enc;induction l with
 |nil=>rfl
 |cons r l ih=>rw[List.flatMap_cons,ih];rfl
def Zh(s:Shape):avs ((a1 aSh).enc s)=[tj s].map .p:=by show [SV.av (.agg [.lst .V s.outer,.lst .R s.holes])] =_;show [d9 [.p (.sl s.outer.length (iF s.outer)),.p (.sl s.holes.length (LT.R.enc s.holes))]] =_;rw[aAS];rfl
def c55:Con:=Ps true (a1 aSh) (λs=>[Fit s]) (λs=> .bool (iZ s))
def k55:c55.Ok aH 97:=Yb (λs=>[tj s]) (λs=> .bool (iZ s)) Zh (λ_=>rfl) λs h=>Sb s h
structure Q2 where
 x:Rat
 y:Rat
def Q2.ext'{a b:Q2}(h1:a.x=b.x)(h2:a.y=b.y):a=b:=by cases a;cases b;simp_all
def rv(v:V):Q2:=⟨v.x,v.y⟩
def rp(p:Pt):Q2:=⟨p.x/p.den,p.y/p.den⟩
def onQ(a b c:Q2):Prop:=∃t:Rat,0<=t/\t<=1/\c.x=a.x+t*(b.x-a.x)/\c.y=a.y+t*(b.y-a.y)
def onG(s:S)(c:Q2):Prop:=onQ (rv s.a) (rv s.b) c
structure SgOk(s:S):Prop where
 ne:s.a≠s.b
 a:bd 2000 s.a
 b:bd 2000 s.b
def tq{v w:V}(h:rv v=rv w):v=w:=by
 unfold rv at h;injection h with h1 h2
 have h1:v.x=w.x:=by exact_mod_cast h1
 have h2:v.y=w.y:=by exact_mod_cast h2
 cases v;cases w;simp_all
def Es{a b c d:Rat}(hb:0<b)(hd:0<d):a/b=c/d↔a*d=c*b:=by
 have hb:b≠0:=λh=>by rw[h]at hb;exact Rat.lt_irrefl hb
 have hd:d≠0:=λh=>by rw[h]at hd;exact Rat.lt_irrefl hd
 constructor<;>intro h<;>grind
def vd{a b c d:Rat}(hb:0<b)(hd:0<d):a/b<c/d↔a*d<c*b:=by
 have hd':d≠0:=λh=>by rw[h]at hd;exact Rat.lt_irrefl hd
 rw[Rat.div_lt_iff hb];have e:c/d*b=c*b/d:=by grind
 rw[e];constructor
 .intro h;have:=Rat.mul_lt_mul_of_pos_right h hd;have e:c*b/d*d=c*b:=by grind
  rwa[e]at this
 .intro h;have k:a*d<c*b/d*d:=by
   have e:c*b/d*d=c*b:=by grind
   rw[e];exact h
  exact Rat.lt_of_mul_lt_mul_right k (Rat.le_of_lt hd)
def ltQ(a b:Q2):Prop:=a.y<b.y\/(a.y=b.y/\a.x<b.x)
def Gw{p q:Pt}(hp:0<p.den)(hq:0<q.den):aW p q<0↔ltQ (rp p) (rp q):=by
 have hp':(0:Rat)<p.den:=by exact_mod_cast hp
 have hq':(0:Rat)<q.den:=by exact_mod_cast hq
 rw[pP];unfold ltQ rp;dsimp only;rw[vd hp' hq',vd hp' hq',Es hp' hq'];have e1:p.y*q.den<q.y*p.den↔(p.y:Rat)*q.den<q.y*p.den:=by exact_mod_cast ms
 have e2:p.x*q.den<q.x*p.den↔(p.x:Rat)*q.den<q.x*p.den:=by exact_mod_cast ms
 have e3:p.y*q.den=q.y*p.den↔(p.y:Rat)*q.den=q.y*p.den:=by exact_mod_cast ms
 rw[e1,e2,e3]
def BP{p q:Pt}(hp:POk p)(hq:POk q)(h:rp p=rp q):p=q:=by
 have dp:=hp.den;have dq:=hq.den;have hp':(0:Rat)<p.den:=by exact_mod_cast (show(0:Int)<p.den by omega)
 have hq':(0:Rat)<q.den:=by exact_mod_cast (show(0:Int)<q.den by omega)
 refine hp.eq hq (zY.2 ?_);unfold rp at h;injection h with h1 h2
 rw[Es hp' hq']at h1 h2;exact⟨by exact_mod_cast h2,by exact_mod_cast h1⟩
def jo(v:V):rp (bP v)=rv v:=by unfold rp bP rv;refine Q2.ext' ?_ ?_<;>grind
def km{a b c:Q2}(h1:ltQ a b)(h2:ltQ b c):ltQ a c:=by unfold ltQ at*;grind
def gi{a:Q2}:¬ltQ a a:=by unfold ltQ;grind
def tU(a b:Q2):ltQ a b\/a=b\/ltQ b a:=by
 by_cases h:a=b
 .exact .inr (.inl h)
 .have:¬(a.x=b.x/\a.y=b.y):=λh2=>h (Q2.ext' h2.1 h2.2);unfold ltQ;grind
def rD(s t:S):Rat:=((s.b.x:Rat)-s.a.x)*(t.b.y-t.a.y)-(s.b.y-s.a.y)*(t.b.x-t.a.x)
def rA(s t:S):Rat:=((t.a.x:Rat)-s.a.x)*(t.b.y-t.a.y)-(t.a.y-s.a.y)*(t.b.x-t.a.x)
def rB(s t:S):Rat:=((t.a.x:Rat)-s.a.x)*(s.b.y-s.a.y)-(t.a.y-s.a.y)*(s.b.x-s.a.x)
def rI(s t:S):rD s t=(bf s t:Int):=by unfold rD bf aDe aDd;grind
def MN(s t:S):rA s t=(aDe (aDd t.a s.a) (aDd t.b t.a):Int):=by unfold rA aDe aDd;grind
def aAf(s t:S):rB s t=(aDe (aDd t.a s.a) (aDd s.b s.a):Int):=by unfold rB aDe aDd;grind
def rC(s t:S):Q2:=⟨s.a.x+rA s t/rD s t*(s.b.x-s.a.x),s.a.y+rA s t/rD s t*(s.b.y-s.a.y)⟩
def ZH{s t:S}(hd:rD s t≠0){c:Q2}{u w:Rat}(h1:c.x=(s.a.x:Rat)+u*(s.b.x-s.a.x))(h2:c.y=(s.a.y:Rat)+u*(s.b.y-s.a.y))
  (h3:c.x=(t.a.x:Rat)+w*(t.b.x-t.a.x)) (h4:c.y=(t.a.y:Rat)+w*(t.b.y-t.a.y)):u=rA s t/rD s t/\w=rB s t/rD s t:=by
 have e1:u*rD s t=rA s t:=by unfold rD rA;grind
 have e2:w*rD s t=rB s t:=by unfold rD rB;grind
 constructor<;>grind
def PY{s t:S}(hd:rD s t≠0):(rC s t).x=(t.a.x:Rat)+rB s t/rD s t*(t.b.x-t.a.x)/\(rC s t).y=(t.a.y:Rat)+rB s t/rD s t*(t.b.y-t.a.y):=by
 unfold rC;dsimp only;have e1:((s.a.x:Rat)-t.a.x)*rD s t+rA s t*(s.b.x-s.a.x)=rB s t*(t.b.x-t.a.x):=by unfold rD rA rB;grind
 have e2:((s.a.y:Rat)-t.a.y)*rD s t+rA s t*(s.b.y-s.a.y)=rB s t*(t.b.y-t.a.y):=by unfold rD rA rB;grind
 constructor<;>grind
def qg{s t:S}(hd:rD s t≠0){c:Q2}:(onG s c/\onG t c)↔c=rC s t/\0<=rA s t/rD s t/\rA s t/rD s t<=1/\0<=rB s t/rD s t/\rB s t/rD s t<=1:=by
 constructor
 .rintro⟨⟨u,h1,h2,h3,h4⟩,w,h5,h6,h7,h8⟩;obtain⟨e1,e2⟩:=ZH hd h3 h4 h7 h8;subst e1;subst e2;exact⟨Q2.ext' h3 h4,h1,h2,h5,h6⟩
 .rintro⟨rfl,h1,h2,h3,h4⟩;exact⟨⟨_,h1,h2,rfl,rfl⟩,_,h3,h4,(PY hd).1,(PY hd).2⟩
def Mc{a d:Int}(hd:d≠0):(0<=(a:Rat)/d/\(a:Rat)/d<=1)↔0<=(if d<0 then-a else a)/\(if d<0 then-a else a)<=(if d<0 then-d else d):=by
 by_cases h:d<0
 .simp only[if_pos h];have h':(0:Rat)<((-d:Int):Rat):=by exact_mod_cast (show 0< -d by omega)
  have e:(a:Rat)/d=((-a:Int):Rat)/((-d:Int):Rat):=by grind
  rw[e];constructor
  .rintro⟨h1,h2⟩;have k1:=Rat.mul_nonneg h1 (Rat.le_of_lt h');have k2:=Rat.mul_le_mul_of_nonneg_right h2 (Rat.le_of_lt h');have e:((-a:Int):Rat)/((-d:Int):Rat)*((-d:Int):Rat)=((-a:Int):Rat):=by grind
   rw[e]at k1 k2;rw[Rat.one_mul]at k2;exact⟨by exact_mod_cast k1,by exact_mod_cast k2⟩
  .rintro⟨h1,h2⟩;have k1:(0:Rat)<=((-a:Int):Rat):=by exact_mod_cast h1
   have k2:((-a:Int):Rat)<=((-d:Int):Rat):=by exact_mod_cast h2
   have k3:(0:Rat)<=((-d:Int):Rat)⁻¹:=Rat.le_of_lt (Rat.inv_pos.2 h');have k4:=Rat.mul_le_mul_of_nonneg_right k2 k3;refine⟨by rw[Rat.div_def];exact Rat.mul_nonneg k1 k3,?_⟩;have e:((-d:Int):Rat)*((-d:Int):Rat)⁻¹=1:=by grind
   rw[e]at k4;rw[Rat.div_def];exact k4
 .simp only[if_neg h];have h':(0:Rat)<(d:Rat):=by exact_mod_cast (show 0<d by omega)
  constructor
  .rintro⟨h1,h2⟩;have k1:=Rat.mul_nonneg h1 (Rat.le_of_lt h');have k2:=Rat.mul_le_mul_of_nonneg_right h2 (Rat.le_of_lt h');have e:(a:Rat)/d*d=a:=by grind
   rw[e]at k1 k2;rw[Rat.one_mul]at k2;exact⟨by exact_mod_cast k1,by exact_mod_cast k2⟩
  .rintro⟨h1,h2⟩;have k1:(0:Rat)<=(a:Rat):=by exact_mod_cast h1
   have k2:(a:Rat)<=(d:Rat):=by exact_mod_cast h2
   have k3:(0:Rat)<=(d:Rat)⁻¹:=Rat.le_of_lt (Rat.inv_pos.2 h');have k4:=Rat.mul_le_mul_of_nonneg_right k2 k3;refine⟨by rw[Rat.div_def];exact Rat.mul_nonneg k1 k3,?_⟩;have e:(d:Rat)*(d:Rat)⁻¹=1:=by grind
   rw[e]at k4;rw[Rat.div_def];exact k4
def Ej{s t:S}(hd:bf s t≠0):gk s t (bf s t)≠0↔∃c,onG s c/\onG t c:=by
 have hd':rD s t≠0:=by rw[rI];exact_mod_cast hd
 have h1:=Mc (a:=aDe (aDd t.a s.a) (aDd t.b t.a)) hd;have h2:=Mc (a:=aDe (aDd t.a s.a) (aDd s.b s.a)) hd;rw[<-MN,<-rI]at h1;rw[<-aAf,<-rI]at h2;have key:(∃c,onG s c/\onG t c)↔(0<=rA s t/rD s t/\rA s t/rD s t<=1)/\0<=rB s t/rD s t/\rB s t/rD s t<=1:=
  ⟨λ⟨c,hc⟩=>by have:=(qg hd').1 hc;exact⟨⟨this.2.1,this.2.2.1⟩,this.2.2.2⟩,λh=>⟨_,(qg hd').2 ⟨rfl,h.1.1,h.1.2,h.2⟩⟩⟩
 rw[key,h1,h2];unfold gk;dsimp only;generalize (if bf s t<0 then-aDe (aDd t.a s.a) (aDd t.b t.a)else aDe (aDd t.a s.a) (aDd t.b t.a))=A;generalize (if bf s t<0 then-aDe (aDd t.a s.a) (aDd s.b s.a)else aDe (aDd t.a s.a) (aDd s.b s.a))=B;generalize (if bf s t<0 then-bf s t else bf s t)=E;split
 .constructor
  .intro h;exact absurd rfl h
  .intro h;omega
 .constructor
  .intro _;omega
  .intro _;split<;>decide
def U3{s t:S}(hd:bf s t≠0):(⟨(lX s t (bf s t):Rat)/lE (bf s t),(lY s t (bf s t):Rat)/lE (bf s t)⟩:Q2)=rC s t:=by
 have hd':rD s t≠0:=by rw[rI];exact_mod_cast hd
 have e0:((lE (bf s t):Int):Rat)=if bf s t<0 then-rD s t else rD s t:=by unfold lE;rw[rI];split<;>grind
 have e1:((lA s t (bf s t):Int):Rat)=if bf s t<0 then-rA s t else rA s t:=by unfold lA;rw[MN];split<;>grind
 have ex:((lX s t (bf s t):Int):Rat)=s.a.x*lE (bf s t)+lA s t (bf s t)*(s.b.x-s.a.x):=by unfold lX aDd;grind
 have ey:((lY s t (bf s t):Int):Rat)=s.a.y*lE (bf s t)+lA s t (bf s t)*(s.b.y-s.a.y):=by unfold lY aDd;grind
 unfold rC;refine Q2.ext' ?_ ?_<;>dsimp only<;>(first|rw[ex] |rw[ey])<;>rw[e0,e1] <;>split<;>grind
def zi{a g:Int}(hg:0<g)(h:g∣a):a.tdiv g*g=a:=Int.tdiv_mul_cancel h
def ZT{X Y E g:Int}(hE:0<E)(hg:g=((cE (cE X.natAbs Y.natAbs:Int).natAbs E.natAbs:Nat):Int)):
  0<g/\X.tdiv g*g=X/\Y.tdiv g*g=Y/\E.tdiv g*g=E/\0<E.tdiv g/\cE (cE (X.tdiv g).natAbs (Y.tdiv g).natAbs) (E.tdiv g).natAbs=1:=by
 have hg2:g=((cE (cE X.natAbs Y.natAbs) E.natAbs:Nat):Int):=by rw[hg];simp
 have hpos:0<cE (cE X.natAbs Y.natAbs) E.natAbs:=Nat.gcd_pos_of_pos_right _ (by omega);generalize hG:cE (cE X.natAbs Y.natAbs) E.natAbs=G at*;have hgp:0<g:=by omega
 have d1:G∣X.natAbs:=by rw[<-hG];exact Nat.dvd_trans (Nat.gcd_dvd_left _ _) (Nat.gcd_dvd_left _ _)
 have d2:G∣Y.natAbs:=by rw[<-hG];exact Nat.dvd_trans (Nat.gcd_dvd_left _ _) (Nat.gcd_dvd_right _ _)
 have d3:G∣E.natAbs:=by rw[<-hG];exact Nat.gcd_dvd_right _ _
 have k1:X.tdiv g*g=X:=zi hgp (by rw[hg2];exact SM.2 d1);have k2:Y.tdiv g*g=Y:=zi hgp (by rw[hg2];exact SM.2 d2);have k3:E.tdiv g*g=E:=zi hgp (by rw[hg2];exact SM.2 d3);have k4:0<E.tdiv g:=by
  rcases vH (E.tdiv g) 0 with h|h|h
  .have:=Int.mul_neg_of_neg_of_pos h hgp;omega
  .rw[h]at k3;omega
  .exact h
 refine⟨hgp,k1,k2,k3,k4,?_⟩;have n1:(X.tdiv g).natAbs*G=X.natAbs:=by have:=congrArg bm k1;rw[qF]at this;rw[<-this];congr 1;omega
 have n2:(Y.tdiv g).natAbs*G=Y.natAbs:=by have:=congrArg bm k2;rw[qF]at this;rw[<-this];congr 1;omega
 have n3:(E.tdiv g).natAbs*G=E.natAbs:=by have:=congrArg bm k3;rw[qF]at this;rw[<-this];congr 1;omega
 rw[<-n1,<-n2,<-n3,Dj,Dj]at hG;exact Nat.eq_of_mul_eq_mul_right hpos (by rw[hG,oV])
def JV{a b A B:Int}(h1: -A<=a)(h2:a<=A)(h3: -B<=b)(h4:b<=B): -(A*B)<=a*b/\a*b<=A*B:=iN ⟨h1,h2⟩ ⟨h3,h4⟩
def IU{a b A E:Int}(ha: -2000<=a/\a<=2000)(hb: -2000<=b/\b<=2000)(h0:0<=A)(h1:A<=E): -(2000*E)<=a*E+A*(b-a)/\a*E+A*(b-a)<=2000*E:=by
 have e:a*E+A*(b-a)=a*(E-A)+b*A:=by grind
 have k1:=kD ha.2 (show 0<=E-A by omega);have k2:=kD ha.1 (show 0<=E-A by omega);have k3:=kD hb.2 h0;have k4:=kD hb.1 h0;omega
def GZ{s t:S}(hs:SgOk s)(ht:SgOk t)(hd:bf s t≠0)(hk:gk s t (bf s t)≠0):
  POk (bH s t (bf s t)).p/\(bH s t (bf s t)).p.den<=33000000/\rp (bH s t (bf s t)).p=rC s t:=by
 rw[sQ rfl hk];dsimp only;have hA:0<=lA s t (bf s t)/\lA s t (bf s t)<=lE (bf s t):=by
  by_cases h:lA s t (bf s t)<0\/lE (bf s t)<lA s t (bf s t)\/lB s t (bf s t)<0\/lE (bf s t)<lB s t (bf s t)
  .exact absurd (if_pos h) hk
  .omega
 have hE:0<lE (bf s t)/\lE (bf s t)<=32000000:=by have a:=hs.a;have b:=hs.b;have a':=ht.a;have b':=ht.b;unfold bd at a b a' b';have k1:=JV (A:=4000) (B:=4000) (a:=s.b.x-s.a.x) (b:=t.b.y-t.a.y) (by omega) (by omega) (by omega) (by omega);have k2:=JV (A:=4000) (B:=4000) (a:=s.b.y-s.a.y) (b:=t.b.x-t.a.x) (by omega) (by omega) (by omega) (by omega);have e:bf s t=(s.b.x-s.a.x)*(t.b.y-t.a.y)-(s.b.y-s.a.y)*(t.b.x-t.a.x):=rfl;unfold lE;split<;>omega
 obtain⟨hg,k1,k2,k3,k4,k5⟩:=ZT (X:=lX s t (bf s t)) (Y:=lY s t (bf s t)) (E:=lE (bf s t)) (g:=lG s t (bf s t)) hE.1 rfl;have bX:=IU (a:=s.a.x) (b:=s.b.x) (by have:=hs.a;unfold bd at this;omega) (by have:=hs.b;unfold bd at this;omega) hA.1 hA.2;have bY:=IU (a:=s.a.y) (b:=s.b.y) (by have:=hs.a;unfold bd at this;omega) (by have:=hs.b;unfold bd at this;omega) hA.1 hA.2;rw[show s.a.x*lE (bf s t)+lA s t (bf s t)*(s.b.x-s.a.x)=lX s t (bf s t)from rfl]at bX;rw[show s.a.y*lE (bf s t)+lA s t (bf s t)*(s.b.y-s.a.y)=lY s t (bf s t)from rfl]at bY;have er:=U3 hd;generalize lX s t (bf s t)=X at*;generalize lY s t (bf s t)=Y at*;generalize lE (bf s t)=E at*;generalize lG s t (bf s t)=g at*;generalize X.tdiv g=x at*;generalize Y.tdiv g=y at*;generalize E.tdiv g=e at*;have hcan:∀{a b:Int},a*g<=b*g->a<=b:=λh=>Int.le_of_mul_le_mul_right h hg;have eE:2000*E=2000*e*g:=by rw[<-k3];grind
 have he:e<=32000000:=by have:e*1<=e*g:=Int.mul_le_mul_of_nonneg_left (by omega) (by omega);omega
 have x1:x<=2000*e:=hcan (by omega);have x2: -(2000*e)<=x:=hcan (by rw[Int.neg_mul];omega);have y1:y<=2000*e:=hcan (by omega);have y2: -(2000*e)<=y:=hcan (by rw[Int.neg_mul];omega);refine⟨⟨?_,?_⟩,by omega,?_⟩
 .unfold dE di bR;simp only[cD,decide_eq_true_eq,beq_iff_eq];refine⟨?_,k5⟩;omega
 .unfold di bR;simp only[cD,decide_eq_true_eq];omega
 .rw[<-er];have hg':(g:Rat)≠0:=by exact_mod_cast (show g≠0 by omega)
  have he':(e:Rat)≠0:=by exact_mod_cast (show e≠0 by omega)
  have eX:(X:Rat)=x*g:=by exact_mod_cast k1.symm
  have eY:(Y:Rat)=y*g:=by exact_mod_cast k2.symm
  have eE':(E:Rat)=e*g:=by exact_mod_cast k3.symm
  unfold rp;refine Q2.ext' ?_ ?_<;>dsimp only
  .rw[eX,eE'];grind
  .rw[eY,eE'];grind
def cr(a b c:Q2):Rat:=(b.x-a.x)*(c.y-a.y)-(b.y-a.y)*(c.x-a.x)
def Dw{a t:Rat}(ha:0<a):(0<=t*a->0<=t)/\(t*a<=a->t<=1):=by
 constructor
 .intro h;exact Rat.le_of_mul_le_mul_right (by rw[Rat.zero_mul];exact h) ha
 .intro h;exact Rat.le_of_mul_le_mul_right (by rw[Rat.one_mul];exact h) ha
def X0{a b c:Q2}(h:ltQ a b):onQ a b c↔cr a b c=0/\¬ltQ c a/\¬ltQ b c:=by
 constructor
 .rintro⟨t,h1,h2,h3,h4⟩;refine⟨by unfold cr;grind,?_,?_⟩
  .intro hc;unfold ltQ at h hc;rcases h with h|⟨h,h'⟩
   .have:=Rat.mul_nonneg h1 (show 0<=b.y-a.y by grind);by_cases h0:c.y=a.y
    .have:t*(b.y-a.y)=0:=by grind
     have h5:t=0:=by
      have:b.y-a.y≠0:=by grind
      grind
     grind
    .grind
   .have:=Rat.mul_nonneg h1 (show 0<=b.x-a.x by grind);have:t*(b.y-a.y)=0:=by grind
    grind
  .intro hc;unfold ltQ at h hc;rcases h with h|⟨h,h'⟩
   .have:=Rat.mul_nonneg (show 0<=1-t by grind) (show 0<=b.y-a.y by grind);by_cases h0:c.y=b.y
    .have:(1-t)*(b.y-a.y)=0:=by grind
     have h5:t=1:=by
      have:b.y-a.y≠0:=by grind
      grind
     grind
    .grind
   .have:=Rat.mul_nonneg (show 0<=1-t by grind) (show 0<=b.x-a.x by grind);have:t*(b.y-a.y)=0:=by grind
    grind
 .rintro⟨h1,h2,h3⟩;unfold ltQ at h h2 h3;unfold cr at h1;rcases h with h|⟨h,h'⟩
  .have hd:b.y-a.y≠0:=by grind
   have hp:0<b.y-a.y:=by grind
   have e:(c.y-a.y)/(b.y-a.y)*(b.y-a.y)=c.y-a.y:=by grind
   obtain⟨k1,k2⟩:=Dw (t:=(c.y-a.y)/(b.y-a.y)) hp;rw[e]at k1 k2;refine⟨(c.y-a.y)/(b.y-a.y),k1 (by grind),k2 (by grind),?_,by rw[e];grind⟩;grind
  .have hd:b.x-a.x≠0:=by grind
   have hp:0<b.x-a.x:=by grind
   have hy:c.y=a.y:=by grind
   have e:(c.x-a.x)/(b.x-a.x)*(b.x-a.x)=c.x-a.x:=by grind
   obtain⟨k1,k2⟩:=Dw (t:=(c.x-a.x)/(b.x-a.x)) hp;rw[e]at k1 k2;refine⟨(c.x-a.x)/(b.x-a.x),k1 (by grind),k2 (by grind),by rw[e];grind,?_⟩;grind
def zt{a b c:Q2}(h:onQ a b c):onQ b a c:=by obtain⟨t,h1,h2,h3,h4⟩:=h;exact⟨1-t,by grind,by grind,by grind,by grind⟩
def gS{p q:V}:bV p q=true↔ltQ (rv p) (rv q):=by
 unfold bV ltQ rv;simp only[jI,cD,decide_eq_true_eq,beq_iff_eq];have e1:p.y<q.y↔(p.y:Rat)<q.y:=by exact_mod_cast ms
 have e2:p.x<q.x↔(p.x:Rat)<q.x:=by exact_mod_cast ms
 have e3:p.y=q.y↔(p.y:Rat)=q.y:=by exact_mod_cast ms
 rw[e1,e2,e3]
def sZ{p q:V}:dT p q=0↔p=q:=by unfold dT aDh;cases p;cases q;simp only[V.mk.injEq];grind
def tD{p q:V}:dT p q= -1↔bV p q=true:=by unfold dT aDh bV;simp only[jI,cD,decide_eq_true_eq,beq_iff_eq];grind
def lo(s:S):Q2:=rv (loS s)
def hi(s:S):Q2:=rv (hiS s)
def xR{s:S}(h:s.a≠s.b):ltQ (lo s) (hi s):=by
 unfold lo hi loS hiS;by_cases h2:bV s.b s.a=true
 .rw[if_pos h2,if_pos h2];exact gS.1 h2
 .rw[if_neg h2,if_neg h2];rcases tU (rv s.a) (rv s.b)with h3|h3|h3
  .exact h3
  .exact absurd (tq h3) h
  .exact absurd (gS.2 h3) h2
def iz{s:S}(h:s.a≠s.b){c:Q2}:onG s c↔cr (lo s) (hi s) c=0/\¬ltQ c (lo s)/\¬ltQ (hi s) c:=by
 rw[<-X0 (xR h)];unfold onG lo hi loS hiS;split
 .exact⟨zt,zt⟩
 .exact ms
def JZ(s:S):lo s=rv s.a\/lo s=rv s.b:=by unfold lo loS;grind
def Je(s:S):hi s=rv s.a\/hi s=rv s.b:=by unfold hi hiS;grind
def AM(s:S):(rv s.a=lo s/\rv s.b=hi s)\/(rv s.a=hi s/\rv s.b=lo s):=by unfold lo hi loS hiS;grind
def lV(s t:S):List Pt:=(if atB s t=true then [(ag s t).p]else [])++(if shB s t=true then [bP (ag s t).s.a,bP (ag s t).s.b]else [])
def sf{s:S}(h:SgOk s):bQ s=true:=by have a:=h.a;have b:=h.b;unfold bd at a b;unfold bQ bR;simp only[cD,decide_eq_true_eq];omega
def tB{s t:S}(hs:SgOk s)(ht:SgOk t)(hd:bf s t≠0):ag s t=bH s t (bf s t):=by unfold ag;rw[sf hs,sf ht,if_neg (by decide),if_neg (by decide),if_pos hd]
def JW{s t:S}(hs:SgOk s):mb1 s t=false:=by unfold mb1;rw[decide_eq_false hs.ne];rfl
def Hy{s t:S}(hs:SgOk s)(ht:SgOk t)(hd:bf s t=0):ag s t=if bZ s.a s.b t.a=0 then hZ s t else cz:=by
 unfold ag;rw[sf hs,sf ht,if_neg (by decide),if_neg (by decide),if_neg (by omega),JW hs,JW ht,if_neg (by decide),if_neg (by decide)];unfold mb3;rw[decide_eq_false hs.ne,decide_eq_false ht.ne];by_cases h:bZ s.a s.b t.a=0
 .simp[h]
 .simp[h]
def AZ(s:S)(v:V):bZ s.a s.b v=0↔cr (rv s.a) (rv s.b) (rv v)=0:=by
 unfold bZ;rw[o8];have e:cr (rv s.a) (rv s.b) (rv v)=(aDe (aDd s.b s.a) (aDd v s.a):Int):=by unfold cr rv aDe aDd;dsimp only;grind
 rw[e]
 exact_mod_cast ms
def ku(s:S)(c:Q2):cr (lo s) (hi s) c=0↔cr (rv s.a) (rv s.b) c=0:=by
 rcases AM s with⟨h1,h2⟩|⟨h1,h2⟩
 .rw[h1,h2]
 .rw[h1,h2];unfold cr;grind
def AW{v:V}(h:bd 2000 v):POk (bP v)/\(bP v).den<=33000000:=by
 unfold bd at h;refine⟨⟨?_,?_⟩,by unfold bP;dsimp only;omega⟩
 .rw[Du];unfold bR;simp only[cD,decide_eq_true_eq];omega
 .unfold di bR bP;simp only[cD,decide_eq_true_eq];omega
def w9{s t:S}(hs:s.a≠s.b)(ht:t.a≠t.b)(hd:rD s t=0){v c:Q2}(h1:cr (rv s.a) (rv s.b) v=0)(h2:cr (rv t.a) (rv t.b) v=0):
  cr (rv s.a) (rv s.b) c=0↔cr (rv t.a) (rv t.b) c=0:=by
 have hs':¬((s.a.x:Rat)=s.b.x/\(s.a.y:Rat)=s.b.y):=λh=>hs (tq (Q2.ext' h.1 h.2));have ht':¬((t.a.x:Rat)=t.b.x/\(t.a.y:Rat)=t.b.y):=λh=>ht (tq (Q2.ext' h.1 h.2));unfold rD at hd;unfold cr rv at*;dsimp only at*;generalize (s.a.x:Rat)=ax at*;generalize (s.a.y:Rat)=ay at*;generalize (s.b.x:Rat)=bx at*;generalize (s.b.y:Rat)=by' at*;generalize (t.a.x:Rat)=px at*;generalize (t.a.y:Rat)=py at*;generalize (t.b.x:Rat)=qx at*;generalize (t.b.y:Rat)=qy at*;have f1:(bx-ax)*(c.y-v.y)-(by'-ay)*(c.x-v.x)=(bx-ax)*(c.y-ay)-(by'-ay)*(c.x-ax):=by grind
 have f2:(qx-px)*(c.y-v.y)-(qy-py)*(c.x-v.x)=(qx-px)*(c.y-py)-(qy-py)*(c.x-px):=by grind
 rw[<-f1,<-f2];have g1:((bx-ax)*(c.y-v.y)-(by'-ay)*(c.x-v.x))*(qx-px)=((qx-px)*(c.y-v.y)-(qy-py)*(c.x-v.x))*(bx-ax):=by grind
 have g2:((bx-ax)*(c.y-v.y)-(by'-ay)*(c.x-v.x))*(qy-py)=((qx-px)*(c.y-v.y)-(qy-py)*(c.x-v.x))*(by'-ay):=by grind
 generalize (bx-ax)*(c.y-v.y)-(by'-ay)*(c.x-v.x)=U at*;generalize (qx-px)*(c.y-v.y)-(qy-py)*(c.x-v.x)=W at*;have k1:¬(bx-ax=0/\by'-ay=0):=λh=>hs' ⟨by grind,by grind⟩;have k2:¬(qx-px=0/\qy-py=0):=λh=>ht' ⟨by grind,by grind⟩;constructor
 .intro h;rw[h]at g1 g2;grind
 .intro h;rw[h]at g1 g2;grind
def VX(l:List S)(c:Q2):Prop:=(∃k,k<l.length/\(c=rv (aK l k).a\/c=rv (aK l k).b))\/
 ∃j k,j<l.length/\k<l.length/\rD (aK l j) (aK l k)≠0/\onG (aK l j) c/\onG (aK l k) c
def FL{s t:S}{d:Int}(h:gk s t d≠0):gk s t d=1\/gk s t d=2:=by
 have e:∀P Q:Prop,[Decidable P]->[Decidable Q]->(if P then(0:Int)else if Q then 1 else 2)≠0->(if P then(0:Int)else if Q then 1 else 2)=1\/(if P then(0:Int)else if Q then 1 else 2)=2:=by
  intro P Q _ _ h;split
  .rename_i h2;rw[if_pos h2]at h;exact absurd rfl h
  .split
   .exact .inl rfl
   .exact .inr rfl
 exact e _ _ h
def xK(s:S):onG s (rv s.a):=⟨0,by decide,by decide,by grind,by grind⟩
def xJ(s:S):onG s (rv s.b):=⟨1,by decide,by decide,by grind,by grind⟩
def tM{s t:S}:rD s t=0↔bf s t=0:=by rw[rI];exact_mod_cast ms
def MK(s t:S):(rv (cC s t)=lo s\/rv (cC s t)=lo t)/\¬ltQ (rv (cC s t)) (lo s)/\¬ltQ (rv (cC s t)) (lo t):=by
 unfold cC;have e:=gS (p:=loS s) (q:=loS t);have e1:rv (loS s)=lo s:=rfl;have e2:rv (loS t)=lo t:=rfl;rw[e1,e2]at e;split
 .rename_i h;rw[e2];exact⟨.inr rfl,λh2=>gi (km (e.1 h) h2),gi⟩
 .rename_i h;rw[e1];exact⟨.inl rfl,gi,λh2=>h (e.2 h2)⟩
def ML(s t:S):(rv (cH s t)=hi s\/rv (cH s t)=hi t)/\¬ltQ (hi s) (rv (cH s t))/\¬ltQ (hi t) (rv (cH s t)):=by
 unfold cH;have e:=gS (p:=hiS t) (q:=hiS s);have e1:rv (hiS s)=hi s:=rfl;have e2:rv (hiS t)=hi t:=rfl;rw[e1,e2]at e;split
 .rename_i h;rw[e2];exact⟨.inr rfl,λh2=>gi (km (e.1 h) h2),gi⟩
 .rename_i h;rw[e1];exact⟨.inl rfl,gi,λh2=>h (e.2 h2)⟩
def aAZ{s t:S}(hs:SgOk s)(ht:SgOk t):bd 2000 (cC s t)/\bd 2000 (cH s t):=by unfold cC cH loS hiS;have a:=hs.a;have b:=hs.b;have a':=ht.a;have b':=ht.b;constructor<;>(repeat' split)<;>assumption
def sJ{a b c:Q2}(h1:¬ltQ b a)(h2:¬ltQ c b):¬ltQ c a:=by unfold ltQ at*;grind
structure PairOk(s t:S)(p:Pt):Prop where
 ok:POk p/\p.den<=33000000
 os:onG s (rp p)
 ot:onG t (rp p)
 v:rD s t≠0\/rp p=rv s.a\/rp p=rv s.b\/rp p=rv t.a\/rp p=rv t.b
def qU{s t:S}{p:Pt}:p∈lV s t↔(atB s t=true/\p=(ag s t).p)\/(shB s t=true/\(p=bP (ag s t).s.a\/p=bP (ag s t).s.b)):=by
 unfold lV;rw[eK];constructor
 .rintro(h|h)
  .split at h
   .rename_i h2;exact .inl ⟨h2,bM.1 h⟩
   .cases h
  .split at h
   .rename_i h2;refine .inr ⟨h2,?_⟩;simpa using h
   .cases h
 .rintro(⟨h,rfl⟩|⟨h,h2⟩)
  .rw[if_pos h];exact .inl eG
  .rw[if_pos h];right;simpa using h2
def Tm{s t:S}(hs:SgOk s)(ht:SgOk t)(hd:rD s t≠0){p:Pt}(h:p∈lV s t):PairOk s t p/\gk s t (bf s t)≠0/\p=(bH s t (bf s t)).p:=by
 have hd':bf s t≠0:=λh=>hd (tM.2 h);rw[qU,tB hs ht hd']at h;have hk:gk s t (bf s t)≠0:=by intro h0;have e:bH s t (bf s t)=cz:=if_pos h0;unfold atB shB at h;rw[tB hs ht hd',e]at h;rcases h with⟨h,_⟩|⟨h,_⟩<;>exact absurd h (by decide)
 have e:=sQ (s:=s) (t:=t) (d:=bf s t) rfl hk;have ek:(bH s t (bf s t)).k=gk s t (bf s t):=by rw[e]
 have h3:shB s t=false:=by unfold shB;rw[tB hs ht hd',ek];rcases FL hk with h|h<;>rw[h] <;>rfl
 rcases h with⟨_,hp⟩|⟨h,_⟩
 .obtain⟨k1,k2,k3⟩:=GZ hs ht hd' hk;obtain⟨c,hc⟩:=(Ej hd').1 hk;have hc2:=(qg hd).1 hc;rw[<-hp]at k1 k2 k3;refine⟨⟨⟨k1,k2⟩,?_,?_,.inl hd⟩,hk,hp⟩
  .rw[k3,<-hc2.1];exact hc.1
  .rw[k3,<-hc2.1];exact hc.2
 .rw[h3]at h;exact absurd h (by decide)
def ED{s t:S}(hs:SgOk s)(ht:SgOk t)(hd:rD s t≠0){c:Q2}(h1:onG s c)(h2:onG t c):∃p,p∈lV s t/\rp p=c:=by
 have hd':bf s t≠0:=λh=>hd (tM.2 h);have hk:=(Ej hd').2 ⟨c,h1,h2⟩;obtain⟨k1,k2,k3⟩:=GZ hs ht hd' hk;refine⟨_,qU.2 (.inl ⟨?_,rfl⟩),?_⟩
 .unfold atB;rw[tB hs ht hd',sQ rfl hk];exact decide_eq_true (FL hk)
 .rw[tB hs ht hd',k3,<-((qg hd).1 ⟨h1,h2⟩).1]
def EF(s t:S):(cC s t=cH s t/\hZ s t=mQ (cC s t))\/
  (ltQ (rv (cC s t)) (rv (cH s t))/\hZ s t=⟨3,⟨0,0,0⟩,⟨cC s t,cH s t⟩⟩)\/
  (ltQ (rv (cH s t)) (rv (cC s t))/\hZ s t=cz):=by
 unfold hZ;by_cases h1:dT (cC s t) (cH s t)=0
 .exact .inl ⟨sZ.1 h1,if_pos h1⟩
 .rw[if_neg h1];by_cases h2:dT (cC s t) (cH s t)= -1
  .exact .inr (.inl ⟨gS.1 (tD.1 h2),if_pos h2⟩)
  .refine .inr (.inr ⟨?_,if_neg h2⟩);rcases tU (rv (cC s t)) (rv (cH s t))with h|h|h
   .exact absurd (tD.2 (gS.2 h)) h2
   .exact absurd (sZ.2 (tq h)) h1
   .exact h
def WS{s t:S}(hs:SgOk s)(ht:SgOk t)(hd:rD s t=0){p:Pt}(h:p∈lV s t):PairOk s t p:=by
 have hd':=tM.1 hd;rw[qU]at h;unfold atB shB at h;rw[Hy hs ht hd']at h;by_cases h0:bZ s.a s.b t.a=0
 .rw[if_pos h0]at h;have c0:=(AZ s t.a).1 h0;have ct:cr (rv t.a) (rv t.b) (rv t.a)=0:=by unfold cr;grind
  have line:∀c,cr (lo s) (hi s) c=0↔cr (lo t) (hi t) c=0:=λc=>by rw[ku,ku];exact w9 hs.ne ht.ne hd c0 ct
  have one:∀v:V,bd 2000 v->(rv v=lo s\/rv v=lo t\/rv v=hi s\/rv v=hi t)->¬ltQ (rv v) (lo s)->¬ltQ (rv v) (lo t)->¬ltQ (hi s) (rv v)->¬ltQ (hi t) (rv v)->PairOk s t (bP v):=by
   intro v hb he h1 h2 h3 h4;have hl:cr (lo s) (hi s) (rv v)=0:=by
    rcases he with e|e|e|e<;>rw[e]
    .unfold cr;grind
    .rw[line];unfold cr;grind
    .unfold cr;grind
    .rw[line];unfold cr;grind
   refine⟨AW hb,?_,?_,.inr ?_⟩
   .rw[jo,iz hs.ne];exact⟨hl,h1,h3⟩
   .rw[jo,iz ht.ne];exact⟨(line _).1 hl,h2,h4⟩
   .rw[jo];rcases he with e|e|e|e<;>rw[e]
    .rcases JZ s with e|e<;>simp[e]
    .rcases JZ t with e|e<;>simp[e]
    .rcases Je s with e|e<;>simp[e]
    .rcases Je t with e|e<;>simp[e]
  obtain⟨l1,l2,l3⟩:=MK s t;obtain⟨g1,g2,g3⟩:=ML s t;obtain⟨b1,b2⟩:=aAZ hs ht;have nlo:¬ltQ (rv (cH s t)) (rv (cC s t))->PairOk s t (bP (cC s t))/\PairOk s t (bP (cH s t)):=λhn=>
   ⟨one _ b1 (by rcases l1 with e|e<;>simp[e]) l2 l3 (sJ hn g2) (sJ hn g3),
    one _ b2 (by rcases g1 with e|e<;>simp[e]) (sJ l2 hn) (sJ l3 hn) g2 g3⟩
  rcases EF s t with⟨e,em⟩|⟨e,em⟩|⟨e,em⟩
  .rw[em]at h;rcases h with⟨_,rfl⟩|⟨h,_⟩
   .exact(nlo (by rw[e];exact gi)).1
   .exact absurd h (by unfold mQ;simp)
  .rw[em]at h;have:=nlo (λh2=>gi (km e h2));rcases h with⟨h,_⟩|⟨_,rfl|rfl⟩
   .exact absurd h (by simp)
   .exact this.1
   .exact this.2
  .rw[em]at h;rcases h with⟨h,_⟩|⟨h,_⟩<;>exact absurd h (by decide)
 .rw[if_neg h0]at h;rcases h with⟨h,_⟩|⟨h,_⟩<;>exact absurd h (by decide)
def Up{s t:S}(hs:SgOk s)(ht:SgOk t)(hd:rD s t=0){c:Q2}(h1:onG s c)(h2:c=rv t.a\/c=rv t.b):∃p,p∈lV s t/\rp p=c:=by
 have hd':=tM.1 hd;have h3:onG t c:=by rcases h2 with rfl|rfl;exact xK t;exact xJ t
 obtain⟨s1,s2,s3⟩:=(iz hs.ne).1 h1;obtain⟨t1,t2,t3⟩:=(iz ht.ne).1 h3;have h0:bZ s.a s.b t.a=0:=by rw[AZ];refine(w9 hs.ne ht.ne hd ((ku s c).1 s1) ((ku t c).1 t1)).2 ?_;unfold cr;grind
 obtain⟨l1,l2,l3⟩:=MK s t;obtain⟨g1,g2,g3⟩:=ML s t;have k1:¬ltQ c (rv (cC s t)):=by rcases l1 with e|e<;>rw[e] <;>assumption
 have k2:¬ltQ (rv (cH s t)) c:=by rcases g1 with e|e<;>rw[e] <;>assumption
 have k3:c=lo t\/c=hi t:=by rcases AM t with⟨e1,e2⟩|⟨e1,e2⟩<;>rw[e1,e2]at h2<;>grind
 have k4:c=rv (cC s t)\/c=rv (cH s t):=by
  rcases k3 with e|e
  .left;rcases tU c (rv (cC s t))with h|h|h
   .exact absurd h k1
   .exact h
   .rw[e]at h;exact absurd h l3
  .right;rcases tU c (rv (cH s t))with h|h|h
   .rw[e]at h;exact absurd h g3
   .exact h
   .exact absurd h k2
 have em0:ag s t=hZ s t:=by rw[Hy hs ht hd',if_pos h0]
 rcases EF s t with⟨e,em⟩|⟨e,em⟩|⟨e,em⟩
 .refine⟨bP (cC s t),qU.2 (.inl ⟨?_,?_⟩),?_⟩
  .unfold atB;rw[em0,em];rfl
  .rw[em0,em];rfl
  .rw[jo];rcases k4 with e2|e2
   .exact e2.symm
   .rw[e];exact e2.symm
 .have hsh:shB s t=true:=by unfold shB;rw[em0,em];rfl
  rcases k4 with e2|e2
  .exact⟨bP (cC s t),qU.2 (.inr ⟨hsh,.inl (by rw[em0,em])⟩),by rw[jo];exact e2.symm⟩
  .exact⟨bP (cH s t),qU.2 (.inr ⟨hsh,.inr (by rw[em0,em])⟩),by rw[jo];exact e2.symm⟩
 .exact absurd e (sJ k1 k2)
def Sgs(l:List S):Prop:=∀k,k<l.length->SgOk (aK l k)
def WO{l:List S}{i k:Nat}(h:¬k=i):aa l i (k+1)=aa l i k++lV (aK l i) (aK l k):=by rw[tu h];unfold lV;cases shB (aK l i) (aK l k)<;>cases atB (aK l i) (aK l k)<;>simp
def nJ{l:List S}{i:Nat}{p:Pt}:∀{k:Nat},p∈aa l i k↔(p=bP (aK l i).a\/p=bP (aK l i).b)\/∃j,j<k/\j≠i/\p∈lV (aK l i) (aK l j)
 |0=>by unfold aa;simp
 |k+1=>by
  by_cases h:k=i
  .rw[JI h,nJ (k:=k)];constructor
   .rintro(h1|⟨j,h1,h2,h3⟩)
    .exact .inl h1
    .exact .inr ⟨j,by omega,h2,h3⟩
   .rintro(h1|⟨j,h1,h2,h3⟩)
    .exact .inl h1
    .exact .inr ⟨j,by omega,h2,h3⟩
  .rw[WO h,eK,nJ (k:=k)];constructor
   .rintro((h1|⟨j,h1,h2,h3⟩)|h1)
    .exact .inl h1
    .exact .inr ⟨j,by omega,h2,h3⟩
    .exact .inr ⟨k,by omega,h,h1⟩
   .rintro(h1|⟨j,h1,h2,h3⟩)
    .exact .inl (.inl h1)
    .by_cases hj:j=k
     .subst hj;exact .inr h3
     .exact .inl (.inr ⟨j,by omega,h2,h3⟩)
def Xw{s t:S}(hs:SgOk s)(ht:SgOk t){p:Pt}(h:p∈lV s t):PairOk s t p:=by
 by_cases hd:rD s t=0
 .exact WS hs ht hd h
 .exact(Tm hs ht hd h).1
def wn{l:List S}(H:Sgs l){i:Nat}(hi:i<l.length){p:Pt}(h:p∈aa l i l.length):(POk p/\p.den<=33000000)/\onG (aK l i) (rp p)/\VX l (rp p):=by
 rcases nJ.1 h with(rfl|rfl)|⟨j,h1,h2,h3⟩
 .exact⟨AW (H i hi).a,by rw[jo];exact xK _,.inl ⟨i,hi,.inl (jo _)⟩⟩
 .exact⟨AW (H i hi).b,by rw[jo];exact xJ _,.inl ⟨i,hi,.inr (jo _)⟩⟩
 .have P:=Xw (H i hi) (H j h1) h3;refine⟨P.ok,P.os,?_⟩;rcases P.v with h|h|h|h|h
  .exact .inr ⟨i,j,hi,h1,h,P.os,P.ot⟩
  .exact .inl ⟨i,hi,.inl h⟩
  .exact .inl ⟨i,hi,.inr h⟩
  .exact .inl ⟨j,h1,.inl h⟩
  .exact .inl ⟨j,h1,.inr h⟩
def Ak(s t:S):rD t s= -rD s t:=by unfold rD;grind
def WP{s t u:S}(ht:t.a≠t.b)(h1:rD s t=0)(h2:rD t u=0):rD s u=0:=by
 have ht':¬((t.a.x:Rat)=t.b.x/\(t.a.y:Rat)=t.b.y):=λh=>ht (tq (Q2.ext' h.1 h.2));unfold rD at*;generalize (t.a.x:Rat)=ax at*;generalize (t.a.y:Rat)=ay at*;generalize (t.b.x:Rat)=bx at*;generalize (t.b.y:Rat)=by' at*;have k1:¬(bx-ax=0/\by'-ay=0):=λh=>ht' ⟨by grind,by grind⟩;have g1:(((s.b.x:Rat)-s.a.x)*(u.b.y-u.a.y)-(s.b.y-s.a.y)*(u.b.x-u.a.x))*(bx-ax)=0:=by grind
 have g2:(((s.b.x:Rat)-s.a.x)*(u.b.y-u.a.y)-(s.b.y-s.a.y)*(u.b.x-u.a.x))*(by'-ay)=0:=by grind
 grind
def ZI{l:List S}(H:Sgs l){i k:Nat}(hi:i<l.length)(hk:k<l.length){c:Q2}(h:onG (aK l i) c)(he:c=rv (aK l k).a\/c=rv (aK l k).b):∃p,p∈aa l i l.length/\rp p=c:=by
 by_cases e:k=i
 .subst e;rcases he with rfl|rfl
  .exact⟨_,nJ.2 (.inl (.inl rfl)),jo _⟩
  .exact⟨_,nJ.2 (.inl (.inr rfl)),jo _⟩
 .by_cases hd:rD (aK l i) (aK l k)=0
  .obtain⟨p,h1,h2⟩:=Up (H i hi) (H k hk) hd h he;exact⟨p,nJ.2 (.inr ⟨k,hk,e,h1⟩),h2⟩
  .obtain⟨p,h1,h2⟩:=ED (H i hi) (H k hk) hd h (by rcases he with rfl|rfl;exact xK _;exact xJ _);exact⟨p,nJ.2 (.inr ⟨k,hk,e,h1⟩),h2⟩
def MO{l:List S}(H:Sgs l){i k:Nat}(hi:i<l.length)(hk:k<l.length){c:Q2}(h:onG (aK l i) c)(h2:onG (aK l k) c)(hd:rD (aK l i) (aK l k)≠0):∃p,p∈aa l i l.length/\rp p=c:=by have e:k≠i:=λe=>hd (by subst e;unfold rD;grind);obtain⟨p,h1,h2⟩:=ED (H i hi) (H k hk) hd h h2;exact⟨p,nJ.2 (.inr ⟨k,hk,e,h1⟩),h2⟩
def HY{l:List S}(H:Sgs l){i:Nat}(hi:i<l.length){c:Q2}(h:onG (aK l i) c)(hv:VX l c):∃p,p∈aa l i l.length/\rp p=c:=by
 rcases hv with⟨k,hk,he⟩|⟨j,k,hj,hk,hd,h1,h2⟩
 .exact ZI H hi hk h he
 .by_cases hd2:rD (aK l i) (aK l j)=0
  .refine MO H hi hk h h2 (λh3=>hd ?_);exact WP (H i hi).ne (by rw[Ak,hd2];grind) h3
  .exact MO H hi hj h h1 hd2
def Eu{x y:Pt}{r:List Pt}:fM (x::y::r)=if x=y then fM (y::r)else x::fM (y::r):=by show(if _ then _ else _)=_;rfl
def FV:∀(l:List Pt),∀p∈l,p∈fM l
 |[],p,h=>by cases h
 |[x],p,h=>h
 |x::y::r,p,h=>by
  rw[Eu];have ih:=FV (y::r);split
  .rename_i e;rcases bh.1 h with rfl|h
   .exact ih _ (by rw[e];exact eG)
   .exact ih _ h
  .rcases bh.1 h with rfl|h
   .exact eG
   .exact dK _ (ih _ h)
def FW{l:List Pt}{p:Pt}:p∈fM l↔p∈l:=⟨vp l p,FV l p⟩
def io(p q:Pt):Prop:=ltQ (rp p) (rp q)
def XX{p q:Pt}(hp:POk p)(hq:POk q):ltC aW p q=true↔io p q:=by unfold ltC io;rw[decide_eq_true_iff,Gw (by have:=hp.den;omega) (by have:=hq.den;omega)]
def Dz:∀(l:List Pt),(∀p∈l,POk p)->(l.Pairwise λa b=>ltC aW b a=false)->(fM l).Pairwise io
 |[],_,_=>rr
 |[x],_,_=>Dh _ _
 |x::y::r,hk,h=>by
  rw[Eu];have hk2:∀p∈y::r,POk p:=λp hp=>hk p (dK _ hp);rw[kC]at h;have ih:=Dz (y::r) hk2 h.2;split
  .exact ih
  .rename_i hxy;rw[kC];refine⟨λz hz=> ?_,ih⟩;have hz:=FW.1 hz;have kx:=hk x eG;have ky:=hk y (dK _ eG);have kz:=hk2 z hz;have nle:∀{u v:Pt},POk u->POk v->ltC aW v u=false->io u v\/u=v:=by
    intro u v hu hv h;rcases tU (rp u) (rp v)with h1|h1|h1
    .exact .inl h1
    .exact .inr (BP hu hv h1)
    .rw[(XX hv hu).2 h1]at h;cases h
   have h1:io x y:=(nle kx ky (h.1 y eG)).resolve_right hxy;rcases bh.1 hz with rfl|hz
   .exact h1
   .rcases nle ky kz ((kC.1 h.2).1 z hz)with h2|rfl
    .exact km h1 h2
    .exact h1
def Dr{l:List Pt}(h:∀p∈l,POk p):(fM (aY (ltC aW) l)).Pairwise io:=
 Dz _ (λp hp=>h p ((fP _ _).mem_iff.1 hp)) (oc (PZ h) l λ_ h=>h)
def yy{l:List Pt}{p:Pt}:p∈fM (aY (ltC aW) l)↔p∈l:=by rw[FW,(fP _ _).mem_iff]
def UM{a b:List Pt}(ha:a.Pairwise io)(hb:b.Pairwise io)(h:∀p,p∈a↔p∈b):a=b:=by
 have na:a.Nodup:=ha.imp λ{p q} h e=>by subst e;exact gi h
 have nb:b.Nodup:=hb.imp λ{p q} h e=>by subst e;exact gi h
 exact List.Perm.eq_of_pairwise (le:=io) (λp q _ _ h1 h2=>absurd (km h1 h2) gi) ha hb ((List.perm_ext_iff_of_nodup na nb).2 h)
def zp{l:List S}{i:Nat}{p:Pt}:p∈bC l i↔p∈aa l i l.length:=yy
def tI{l:List S}{p:Pt}:p∈vsP l↔∃i,i<l.length/\p∈bC l i:=by
 unfold vsP;rw[yy];have key:∀k,p∈vsK l k↔∃i,i<k/\p∈bC l i:=by
  intro k;induction k with
  |zero=>unfold vsK;simp
  |succ k ih=>
   unfold vsK;rw[eK,ih];constructor
   .rintro(⟨i,h1,h2⟩|h)
    .exact⟨i,by omega,h2⟩
    .exact⟨k,by omega,h⟩
   .rintro⟨i,h1,h2⟩;by_cases e:i=k
    .subst e;exact .inr h2
    .exact .inl ⟨i,by omega,h2⟩
 exact key _
section
variable {l:List S} (H:Sgs l)
include H
theorem wR{i:Nat}(hi:i<l.length){p:Pt}(h:p∈bC l i):(POk p/\p.den<=33000000)/\onG (aK l i) (rp p)/\VX l (rp p):=wn H hi (zp.1 h)
theorem TD{i:Nat}(hi:i<l.length):(bC l i).Pairwise io:=Dr λ_ h=>(wn H hi h).1.1
theorem pS{p:Pt}(h:p∈vsP l):POk p/\p.den<=33000000:=by obtain⟨i,h1,h2⟩:=tI.1 h;exact(wR H h1 h2).1
theorem qK:(vsP l).Pairwise io:=by refine Dr λp hp=> ?_;have:p∈vsP l:=yy.2 hp;exact(pS H this).1
theorem Al{i:Nat}(hi:i<l.length){p:Pt}:p∈bC l i↔p∈vsP l/\onG (aK l i) (rp p):=by
 constructor
 .intro h;exact⟨tI.2 ⟨i,hi,h⟩,(wR H hi h).2.1⟩
 .rintro⟨h1,h2⟩;obtain⟨j,hj,h3⟩:=tI.1 h1;have k:=wR H hj h3;obtain⟨q,hq,e⟩:=HY H hi h2 k.2.2;have kq:=wn H hi hq;have:q=p:=BP kq.1.1 k.1.1 e;subst this;exact zp.2 hq
theorem Ih{c:Q2}:(∃p,p∈vsP l/\rp p=c)↔VX l c:=by
 constructor
 .rintro⟨p,hp,rfl⟩;obtain⟨i,h1,h2⟩:=tI.1 hp;exact(wR H h1 h2).2.2
 .intro hv;have:∃i,i<l.length/\onG (aK l i) c:=by
   rcases hv with⟨k,hk,rfl|rfl⟩|⟨j,k,hj,_,_,h,_⟩
   .exact⟨k,hk,xK _⟩
   .exact⟨k,hk,xJ _⟩
   .exact⟨j,hj,h⟩
  obtain⟨i,hi,h⟩:=this;obtain⟨p,hp,e⟩:=HY H hi h hv;exact⟨p,tI.2 ⟨i,hi,zp.2 hp⟩,e⟩
end
theorem A7{f:Int->Int}{l:List Int}(hm:∀i j,i<=j->j<l.length->f (aM l j)<0->f (aM l i)<0):∀(n i j:Nat),j<=l.length->j-i<=n->i<=j->
  (∀k,k<i->f (aM l k)<0)->(∀k,j<=k->k<l.length->¬f (aM l k)<0)->
  bsG f l n i j<=l.length/\(∀k,k<bsG f l n i j->f (aM l k)<0)/\∀k,bsG f l n i j<=k->k<l.length->¬f (aM l k)<0
 |0,i,j,hj,hn,hij,h1,h2=>by
  have:i=j:=by omega
  subst this;unfold bsG;exact⟨hj,h1,h2⟩
 |n+1,i,j,hj,hn,hij,h1,h2=>by
  unfold bsG;split
  .split
   .rename_i h3 h4;exact A7 hm n _ _ hj (by omega) (by omega) (λk hk=>hm k ((i+j)/2) (by omega) (by omega) h4) h2
   .rename_i h3 h4;exact A7 hm n _ _ (by omega) (by omega) (by omega) h1 (λk hk hl h5=>h4 (hm _ k hk hl h5))
  .have:i=j:=by omega
   subst this;exact⟨hj,h1,h2⟩
theorem IZ{f:Int->Int}{l:List Int}(hm:∀i j,i<=j->j<l.length->f (aM l j)<0->f (aM l i)<0):
  bsP f l<=l.length/\(∀k,k<bsP f l->f (aM l k)<0)/\∀k,bsP f l<=k->k<l.length->¬f (aM l k)<0:=
 A7 hm _ _ _ (az _) (by omega) (cO _) (λk hk=>by omega) (λk hk hl=>by omega)
theorem sU{l:List Pt}(h:l.Pairwise io){i j:Nat}(hj:j<l.length)(hij:i<j):io (aQ l i) (aQ l j):=by rw[nU hj,nU (by omega)];exact oX.1 h i j _ _ hij
theorem GR{l:List Pt}{p:Pt}(h:p∈l):∃k,k<l.length/\aQ l k=p:=by obtain⟨k,hk,e⟩:=ki.1 h;exact⟨k,hk,by rw[nU hk];exact e⟩
theorem su{l:List Pt}{k:Nat}(h:k<l.length):aQ l k∈l:=by rw[nU h];exact eR h
theorem JJ{l:List Pt}(h:l.Pairwise io)(hk:∀p∈l,POk p){k:Nat}(hl:k<l.length):ptX (aQ l k) l=k:=by
 have hd:∀i,i<l.length->0<(aQ l i).den:=λi hi=>by have:=(hk _ (su hi)).den;omega
 have key:∀i,i<l.length->(id (aM (ptL (aQ l k) l) i)<0↔i<k):=by
  intro i hi;rw[JK _ hi];show aW _ _<0↔_;rw[Gw (hd i hi) (hd k hl)];constructor
  .intro h1;rcases jK i k with h2|h2|h2
   .exact h2
   .subst h2;exact absurd h1 gi
   .exact absurd (km h1 (sU h hi h2)) gi
  .exact λh1=>sU h hl h1
 have e:=Hd (aQ l k) l;obtain⟨h1,h2,h3⟩:=IZ (f:=id) (l:=ptL (aQ l k) l) (λi j hij hj h1=>(key i (by omega)).2 (by have:=(key j (by omega)).1 h1;omega));unfold ptX;rcases jK (bsP id (ptL (aQ l k) l)) k with h4|h4|h4
 .exact absurd ((key _ (by omega)).2 h4) (h3 _ (az _) (by omega))
 .exact h4
 .exact absurd ((key k hl).1 (h2 k h4)) (DL _)
theorem Zw{l:List Pt}(h:l.Pairwise io)(hk:∀p∈l,POk p){p:Pt}(hp:p∈l):ptX p l<l.length/\aQ l (ptX p l)=p:=by obtain⟨k,h1,rfl⟩:=GR hp;rw[JJ h hk h1];exact⟨h1,rfl⟩
section
def OnV(l:List S)(i v:Nat):Prop:=onG (aK l i) (rp (aQ (vsP l) v))
structure Adj(l:List S)(i a b:Nat):Prop where
 lt:a<b
 bd:b<(vsP l).length
 oa:OnV l i a
 ob:OnV l i b
 no:∀v,a<v->v<b->¬OnV l i v
section
variable {l:List S} (H:Sgs l) {i:Nat} (hi:i<l.length)
include H hi
theorem pE{j:Nat}(hj:j<(bC l i).length):ptX (aQ (bC l i) j) (vsP l)<(vsP l).length/\aQ (vsP l) (ptX (aQ (bC l i) j) (vsP l))=aQ (bC l i) j:=
 Zw (qK H) (λp hp=>(pS H hp).1) ((Al H hi).1 (su hj)).1
theorem tC{j k:Nat}(hk:k<(bC l i).length)(hjk:j<k):ptX (aQ (bC l i) j) (vsP l)<ptX (aQ (bC l i) k) (vsP l):=by
 obtain⟨a1,a2⟩:=pE H hi (j:=j) (by omega);obtain⟨b1,b2⟩:=pE H hi hk;have h:=sU (TD H hi) hk hjk;rw[<-a2,<-b2]at h;generalize ptX (aQ (bC l i) j) (vsP l)=u at*;generalize ptX (aQ (bC l i) k) (vsP l)=w at*;rcases jK u w with h1|h1|h1
 .exact h1
 .subst h1;exact absurd h gi
 .exact absurd (km h (sU (qK H) a1 h1)) gi
theorem qp{v:Nat}(hv:v<(vsP l).length):OnV l i v↔∃j,j<(bC l i).length/\ptX (aQ (bC l i) j) (vsP l)=v:=by
 constructor
 .intro h;obtain⟨j,hj,e⟩:=GR ((Al H hi).2 ⟨su hv,h⟩);refine⟨j,hj,?_⟩;rw[e];exact JJ (qK H) (λp hp=>(pS H hp).1) hv
 .rintro⟨j,hj,rfl⟩;unfold OnV;rw[(pE H hi hj).2];exact((Al H hi).1 (su hj)).2
theorem BY{j k:Nat}(hj:j<(bC l i).length)(hk:k<(bC l i).length)(h:ptX (aQ (bC l i) j) (vsP l)<ptX (aQ (bC l i) k) (vsP l)):j<k:=by
 rcases jK j k with h1|h1|h1
 .exact h1
 .subst h1;omega
 .have:=tC H hi hj h1;omega
theorem Ys{a b:Nat}:Adj l i a b↔∃j,1<=j/\j<(bC l i).length/\ptX (aQ (bC l i) (j-1)) (vsP l)=a/\ptX (aQ (bC l i) j) (vsP l)=b:=by
 constructor
 .rintro⟨h1,h2,h3,h4,h5⟩;obtain⟨j,hj,rfl⟩:=(qp H hi (by omega)).1 h3;obtain⟨k,hk,rfl⟩:=(qp H hi h2).1 h4;have hjk:=BY H hi hj hk h1;by_cases e:k=j+1
  .subst e;exact⟨j+1,by omega,hk,rfl,rfl⟩
  .have m1:=tC H hi (j:=j) (k:=j+1) (by omega) (by omega);have m2:=tC H hi (j:=j+1) (k:=k) hk (by omega);exact absurd ((qp H hi (by omega)).2 ⟨j+1,by omega,rfl⟩) (h5 _ m1 m2)
 .rintro⟨j,h1,h2,rfl,rfl⟩;refine⟨tC H hi h2 (by omega),(pE H hi h2).1,?_,?_,?_⟩
  .exact(qp H hi (pE H hi (by omega)).1).2 ⟨j-1,by omega,rfl⟩
  .exact(qp H hi (pE H hi h2).1).2 ⟨j,h2,rfl⟩
  .intro v h3 h4 h5;obtain⟨k,hk,rfl⟩:=(qp H hi (by have:=(pE H hi h2).1;omega)).1 h5;have k1:=BY H hi (by omega) hk h3;have k2:=BY H hi hk h2 h4;omega
end
def iB(M:MF)(k:Nat×Nat):List Int:=match M with
 |[] =>[]
 |p::M=>if p.1=k then p.2 else iB M k
theorem Fl{k:Nat×Nat}{v:Int}:∀(M:MF) (k':Nat×Nat),iB (eW M k v) k'=if k=k' then iB M k'++[v]else iB M k'
 |[],k'=>by
  unfold eW iB;dsimp only;split<;>rfl
 |p::M,k'=>by
  have ih:=Fl (k:=k) (v:=v) M k';unfold eW;by_cases h:p.1=k
  .rw[if_pos h];subst h;unfold iB;dsimp only;by_cases h2:p.1=k'
   .simp[h2]
   .simp[h2]
  .rw[if_neg h];unfold iB;by_cases h2:p.1=k'
   .subst h2;simp only[if_true];rw[if_neg (λe=>h e.symm)]
   .simp only[if_neg h2];exact ih
theorem Vo{M:MF}(hn:(M.map (·.1)).Nodup){q:(Nat×Nat)×List Int}(h:q∈M):iB M q.1=q.2:=by
 induction M with
 |nil=>cases h
 |cons p M ih=>
  rw[cV,kG]at hn;unfold iB;rcases bh.1 h with rfl|h
  .rw[if_pos rfl]
  .have:p.1≠q.1:=λe=>hn.1 (cF.2 ⟨q,h,e.symm⟩);rw[if_neg this];exact ih hn.2 h
theorem GQ{k:Nat×Nat}:∀{M:MF},iB M k≠[]->(k,iB M k)∈M
 |[],h=>absurd rfl h
 |p::M,h=>by
  unfold iB at h|-;split
  .rename_i e;subst e;exact eG
  .rename_i e;rw[if_neg e]at h;exact dK _ (GQ h)
theorem Yt{k:Nat×Nat}{v:Int}{M:MF}(h:∀q∈M,q.2≠[]):∀q∈eW M k v,q.2≠[] :=by
 intro q hq;rcases wO hq with hq|⟨_,r,e,_⟩
 .exact h q hq
 .rw[e];simp
open Classical in
noncomputable def eA(l:List S)(a b:Nat):Nat->List Int
 |0=>[]
 |k+1=>eA l a b k++(if Adj l k a b then [(k:Int)]else [])
theorem ly{l:List S}{a b:Nat}{x:Int}:∀{k:Nat},x∈eA l a b k↔∃i:Nat,i<k/\x=i/\Adj l i a b
 |0=>by unfold eA;simp
 |k+1=>by
  unfold eA;rw[eK,ly (k:=k)];constructor
  .rintro(⟨i,h1,h2,h3⟩|h)
   .exact⟨i,by omega,h2,h3⟩
   .split at h
    .rename_i ha;exact⟨k,by omega,bM.1 h,ha⟩
    .cases h
  .rintro⟨i,h1,h2,h3⟩;by_cases e:i=k
   .subst e;right;rw[if_pos h3,h2];exact eG
   .exact .inl ⟨i,by omega,h2,h3⟩
theorem D5(l:List S)(a b:Nat):∀k,(eA l a b k).Pairwise (· < ·)
 |0=>rr
 |k+1=>by
  unfold eA;rw[SN];refine⟨D5 l a b k,by split<;>simp,λx hx y hy=> ?_⟩;obtain⟨i,h1,rfl,_⟩:=ly.1 hx;split at hy
  .rw[bM.1 hy];omega
  .cases hy
section
variable {l:List S} (H:Sgs l)
include H
theorem Fu{i:Nat}(hi:i<l.length){M:MF}(k:Nat×Nat):∀j,j<=(bC l i).length->
  ((∃j',1<=j'/\j'<j/\(ptX (aQ (bC l i) (j'-1)) (vsP l),ptX (aQ (bC l i) j') (vsP l))=k)->iB (dI (vsP l) (bC l i) i M j) k=iB M k++[(i:Int)])/\
  ((¬∃j',1<=j'/\j'<j/\(ptX (aQ (bC l i) (j'-1)) (vsP l),ptX (aQ (bC l i) j') (vsP l))=k)->iB (dI (vsP l) (bC l i) i M j) k=iB M k)
 |0,_=>⟨λ⟨j',h1,h2,_⟩=>by omega,λ_=>rfl⟩
 |j+1,hj=>by
  obtain⟨ih1,ih2⟩:=Fu hi (M:=M) k j (by omega);unfold dI;by_cases h1:1<=j
  .rw[if_pos h1,Fl];by_cases e:(ptX (aQ (bC l i) (j-1)) (vsP l),ptX (aQ (bC l i) j) (vsP l))=k
   .rw[if_pos e];have hno:¬∃j',1<=j'/\j'<j/\(ptX (aQ (bC l i) (j'-1)) (vsP l),ptX (aQ (bC l i) j') (vsP l))=k:=by rintro⟨j',h2,h3,h4⟩;rw[<-e]at h4;have h5:ptX (aQ (bC l i) j') (vsP l)=ptX (aQ (bC l i) j) (vsP l):=congrArg Prod.snd h4;have:=tC H hi (j:=j') (k:=j) (by omega) h3;omega
    rw[ih2 hno];exact⟨λ_=>rfl,λh=>absurd ⟨j,h1,by omega,e⟩ h⟩
   .rw[if_neg e];constructor
    .rintro⟨j',h2,h3,h4⟩;refine ih1 ⟨j',h2,?_,h4⟩;rcases jc j' j with h5|h5
     .exact h5
     .have:j'=j:=by omega
      subst this;exact absurd h4 e
    .intro h;exact ih2 λ⟨j',h2,h3,h4⟩=>h ⟨j',h2,by omega,h4⟩
  .rw[if_neg h1];constructor
   .rintro⟨j',h2,h3,h4⟩;omega
   .intro h;exact ih2 λ⟨j',h2,h3,h4⟩=>h ⟨j',h2,by omega,h4⟩
theorem zl(k:Nat×Nat):∀n,n<=l.length->iB (cU l n) k=eA l k.1 k.2 n
 |0,_=>rfl
 |n+1,hn=>by
  have ih:=zl k n (by omega);obtain⟨h1,h2⟩:=Fu H (i:=n) (by omega) (M:=cU l n) k (bC l n).length (az _);have e:=Ys H (i:=n) (by omega) (a:=k.1) (b:=k.2);have e2:(∃j',1<=j'/\j'<(bC l n).length/\(ptX (aQ (bC l n) (j'-1)) (vsP l),ptX (aQ (bC l n) j') (vsP l))=k)↔Adj l n k.1 k.2:=by
   rw[e];constructor
   .rintro⟨j,h3,h4,rfl⟩;exact⟨j,h3,h4,rfl,rfl⟩
   .rintro⟨j,h3,h4,h5,h6⟩;exact⟨j,h3,h4,vL h5 h6⟩
  unfold cU eA;by_cases ha:Adj l n k.1 k.2
  .rw[h1 (e2.2 ha),ih,if_pos ha]
  .rw[h2 (λh=>ha (e2.1 h)),ih,if_neg ha,je]
omit H in
theorem HH:∀n,∀q∈cU l n,q.2≠[]
 |0=>λq hq=>by cases hq
 |n+1=>by
  have key:∀(vs pts:List Pt) (i:Int) (M:MF),(∀q∈M,q.2≠[])->∀j,∀q∈dI vs pts i M j,q.2≠[] :=by
   intro vs pts i M h j;induction j with
   |zero=>exact h
   |succ j ih=>
    unfold dI;split
    .exact Yt ih
    .exact ih
  exact key _ _ _ _ (HH n) _
theorem qj{e:Ed}:e∈esP l↔∃a b:Nat,eA l a b l.length≠[]/\e=⟨a,b,0,0,eA l a b l.length⟩:=by
 unfold esP;rw[(fP _ _).mem_iff];unfold edM;rw[cF];constructor
 .rintro⟨q,hq,rfl⟩;have e1:=Vo (oh l l.length) hq;rw[zl H _ _ (az _)]at e1;exact⟨q.1.1,q.1.2,by rw[e1];exact HH _ q hq,by rw[e1]⟩
 .rintro⟨a,b,h,rfl⟩;have e1:=zl H (a,b) _ (az _);refine⟨((a,b),eA l a b l.length),?_,rfl⟩;have:=GQ (k:=(a,b)) (M:=cU l l.length) (by rw[e1];exact h);rw[e1]at this;exact this
end
end
structure EdAt(l:List S)(k a b i:Nat):Prop where
 ed:aP (esP l) k=⟨a,b,0,0,eA l a b l.length⟩
 il:i<l.length
 adj:Adj l i a b
 fst:aM (eA l a b l.length) 0=i
def nV{l:List Ed}{i:Nat}(h:i<l.length):aP l i=l[i] :=cS h
def mV{l:List S}(H:Sgs l){k:Nat}(hk:k<(esP l).length):∃a b i,EdAt l k a b i:=by
 obtain⟨a,b,h1,h2⟩:=(qj H).1 (l0 (l:=esP l) hk);have hp:0<(eA l a b l.length).length:=by rcases h:eA l a b l.length with _|⟨x,r⟩<;>simp_all
 have hm:aM (eA l a b l.length) 0∈eA l a b l.length:=iX hp;obtain⟨i,h3,h4,h5⟩:=ly.1 hm;exact⟨a,b,i,h2,h3,h5,h4⟩
def aAT{l:List S}(H:Sgs l){i a b:Nat}(hi:i<l.length)(h:Adj l i a b):∃k,k<(esP l).length/\aP (esP l) k=⟨a,b,0,0,eA l a b l.length⟩:=by have hm:(i:Int)∈eA l a b l.length:=ly.2 ⟨i,hi,rfl,h⟩;have:(⟨a,b,0,0,eA l a b l.length⟩:Ed)∈esP l:=(qj H).2 ⟨a,b,List.ne_nil_of_mem hm,rfl⟩;obtain⟨k,hk,e⟩:=ki.1 this;exact⟨k,hk,by rw[nV hk];exact e⟩
def Gm(l:List S):((esP l).map λe=>(e.fr,e.to)).Nodup:=by have hp:(esP l).Perm (edM (cU l l.length)):=fP _ _;rw[(hp.map _).nodup_iff];have hk:=oh l l.length;unfold edM;rw[gg];unfold oZ at*;rw[qE]at*;refine hk.imp λ{p q} h e=>h ?_;have e1:(p.1.1:Int)=q.1.1:=congrArg Prod.fst e;have e2:(p.1.2:Int)=q.1.2:=congrArg Prod.snd e;exact vL (by omega) (by omega)
def IK{l:List S}{j k:Nat}(hj:j<(esP l).length)(hk:k<(esP l).length)(h1:(aP (esP l) j).fr=(aP (esP l) k).fr)(h2:(aP (esP l) j).to=(aP (esP l) k).to):j=k:=by
 have hn:=Gm l;unfold oZ at hn;rw[qE,oX]at hn;rw[nV hj,nV hk]at h1 h2;rcases jK j k with h|h|h
 .exact absurd (vL h1 h2) (hn j k hj hk h)
 .exact h
 .exact absurd (vL h1.symm h2.symm) (hn k j hk hj h)
def EdAt.ln{l:List S}{k a b i:Nat}(E:EdAt l k a b i):lnP (aA l) k=(loS (aK l i),hiS (aK l i)):=by
 have e:aK (aA l).sg (aM (aP (aA l).es ((k:Int).toNat)).src 0).toNat=aK l i:=by show aK l (aM (aP (esP l) ((k:Int).toNat)).src 0).toNat=_;rw[kh,E.ed];show aK l (aM (eA l a b l.length) 0).toNat=_;rw[E.fst];rfl
 unfold lnP;dsimp only;rw[e];unfold loS hiS;split<;>rfl
def dS(s:S):V:=aDd (hiS s) (loS s)
def nO{l:List S}{k a b i:Nat}(E:EdAt l k a b i):bL (aA l) ((2*k:Nat):Int)=dS (aK l i)/\stP (aA l) ((2*k:Nat):Int)=a:=by
 have e1:(((2*k:Nat):Int)).tmod 2=0:=by rw[De (by omega)];omega
 have e2:(((2*k:Nat):Int)).tdiv 2=(k:Int):=by rw[Dd (by omega)];omega
 constructor
 .unfold bL;rw[if_pos e1,e2,E.ln];rfl
 .unfold stP;rw[if_pos e1,e2];show(aP (esP l) ((k:Int).toNat)).fr=_;rw[kh,E.ed]
def ql{l:List S}{k a b i:Nat}(E:EdAt l k a b i):bL (aA l) ((2*k+1:Nat):Int)=aDd ⟨0,0⟩ (dS (aK l i))/\stP (aA l) ((2*k+1:Nat):Int)=b:=by
 have e1:¬(((2*k+1:Nat):Int)).tmod 2=0:=by rw[De (by omega)];omega
 have e2:(((2*k+1:Nat):Int)).tdiv 2=(k:Int):=by rw[Dd (by omega)];omega
 constructor
 .unfold bL;rw[if_neg e1,e2,E.ln];unfold dS aDd;dsimp only
  congr 1<;>omega
 .unfold stP;rw[if_neg e1,e2];show(aP (esP l) ((k:Int).toNat)).to=_;rw[kh,E.ed]
def tW{s:S}(h:s.a≠s.b):dN (dS s)=0/\dN (aDd ⟨0,0⟩ (dS s))=1:=by
 have hl:=xR h;have:bV (loS s) (hiS s)=true:=gS.2 hl;unfold bV at this;simp only[jI,cD,decide_eq_true_eq,beq_iff_eq]at this;unfold dN dS aDd;dsimp only;constructor
 .rw[if_pos (by omega)]
 .rw[if_neg (by omega)]
def BF{a b:V}:bg a b<0↔dN a<dN b\/(dN a=dN b/\0<aDe a b):=by
 have e:bZ ⟨0,0⟩ a b=sgn (aDe a b):=by
  unfold bZ aDd aDe;dsimp only
  congr 1
  simp only[Int.sub_zero]
 unfold bg;rw[e];have hs:=HO (aDe a b);rcases vH (dN a) (dN b)with h|h|h
 .have e2:aDh (dN a) (dN b)= -1:=by unfold aDh;rw[if_pos h]
  rw[e2,if_neg (by decide)];exact⟨λ_=> .inl h,λ_=>by decide⟩
 .have e2:aDh (dN a) (dN b)=0:=by unfold aDh;rw[if_neg (by omega),if_neg (by omega)]
  rw[e2,if_pos rfl];constructor
  .intro h2;exact .inr ⟨h,hs.1 (by omega)⟩
  .rintro(h2|⟨_,h2⟩)
   .omega
   .have:=hs.2 h2;omega
 .have e2:aDh (dN a) (dN b)=1:=by unfold aDh;rw[if_neg (by omega),if_pos h]
  rw[e2,if_neg (by decide)];exact⟨λh3=>by omega,λh3=>by omega⟩
def nzV(v:V):Prop:=v.x≠0\/v.y≠0
def AJ(v:V):dN v=0\/dN v=1:=by unfold dN;split;exact .inl rfl;exact .inr rfl
def EP{a b c:V}(hb:0<b.y\/(b.y=0/\0<b.x))(ha:0<a.y\/(a.y=0/\0<a.x))(hc:0<c.y\/(c.y=0/\0<c.x))(h1:0<aDe a b)(h2:0<aDe b c):0<aDe a c:=by
 unfold aDe at*;rcases hb with hb|⟨hb,hb2⟩
 .have hcy:0<c.y:=by
   rcases hc with hc|⟨hc,hc2⟩
   .exact hc
   .rw[hc]at h2;have:=mv hb hc2;omega
  have k1:=mv h1 hcy;have k2:0<=(b.x*c.y-b.y*c.x)*a.y:=jG (by omega) (by omega);have e:(a.x*c.y-a.y*c.x)*b.y=(a.x*b.y-a.y*b.x)*c.y+(b.x*c.y-b.y*c.x)*a.y:=by grind
  have k3:0<(a.x*c.y-a.y*c.x)*b.y:=by omega
  rcases p8 0 (a.x*c.y-a.y*c.x)with h|h
  .exact h
  .have:=kD h (show 0<=b.y by omega);omega
 .rw[hb]at h1;have:0<=a.y*b.x:=jG (by omega) (by omega);omega
def UG{a b c:V}(ha:nzV a)(hb:nzV b)(hc:nzV c)(h1:bg a b<0)(h2:bg b c<0):bg a c<0:=by
 rw[BF]at*;have a01:=AJ a;have b01:=AJ b;have c01:=AJ c;rcases h1 with h1|⟨h1,h1'⟩
 .left;rcases h2 with h2|⟨h2,_⟩<;>omega
 .rcases h2 with h2|⟨h2,h2'⟩
  .left;omega
  .right;refine⟨by omega,?_⟩;unfold nzV at ha hb hc;unfold dN at h1 h2;by_cases hp:0<b.y\/(b.y=0/\0<b.x)
   .rw[if_pos hp]at h1 h2;have pa:0<a.y\/(a.y=0/\0<a.x):=by
     by_cases h:0<a.y\/(a.y=0/\0<a.x)
     .exact h
     .rw[if_neg h]at h1;omega
    have pc:0<c.y\/(c.y=0/\0<c.x):=by
     by_cases h:0<c.y\/(c.y=0/\0<c.x)
     .exact h
     .rw[if_neg h]at h2;omega
    exact EP hp pa pc h1' h2'
   .rw[if_neg hp]at h1 h2;have pa:¬(0<a.y\/(a.y=0/\0<a.x)):=λh=>by rw[if_pos h]at h1;omega
    have pc:¬(0<c.y\/(c.y=0/\0<c.x)):=λh=>by rw[if_pos h]at h2;omega
    have k:=EP (a:=⟨-a.x,-a.y⟩) (b:=⟨-b.x,-b.y⟩) (c:=⟨-c.x,-c.y⟩) (by dsimp only;omega) (by dsimp only;omega) (by dsimp only;omega)
     (by unfold aDe at*;dsimp only;grind) (by unfold aDe at*;dsimp only;grind)
    unfold aDe at*;dsimp only at k;grind
def se{a b:V}(h:bg a b<0):¬bg b a<0:=by
 rw[BF]at*;have e:aDe b a= -aDe a b:=by unfold aDe;grind
 omega
def aAU{s:S}(h:s.a≠s.b):nzV (dS s):=by
 have:=(tW h);unfold dN at this;unfold nzV;have h1:=this.1;have h2:=this.2;unfold aDd at h2;dsimp only at h2;split at h1
 .omega
 .omega
def CF{s t:S}:rD s t=0↔aDe (dS s) (dS t)=0:=by rw[tM];unfold bf dS loS hiS aDe aDd;split<;>split<;>dsimp only<;>constructor<;>intro h<;>grind
def uJ{l:List S}(H:Sgs l){a b:Nat}(hb:b<(vsP l).length)(h:a<b):ltQ (rp (aQ (vsP l) a)) (rp (aQ (vsP l) b)):=sU (qK H) hb h
def wv{l:List S}(H:Sgs l){i j a b c d:Nat}(hi:i<l.length)(hj:j<l.length)(hd:rD (aK l i) (aK l j)=0)
  (h1:OnV l i a) (h2:OnV l j a) (h3:OnV l i c) (h4:OnV l j b) (h5:OnV l j d) (hb:b<c) (hc:c<d) (hl:d<(vsP l).length):OnV l j c:=by
 unfold OnV at*;obtain⟨a1,a2,a3⟩:=(iz (H i hi).ne).1 h1;obtain⟨b1,b2,b3⟩:=(iz (H j hj).ne).1 h2;obtain⟨c1,c2,c3⟩:=(iz (H i hi).ne).1 h3;obtain⟨d1,d2,d3⟩:=(iz (H j hj).ne).1 h4;obtain⟨e1,e2,e3⟩:=(iz (H j hj).ne).1 h5;have p1:=uJ H (by omega) hb;have p2:=uJ H hl hc;refine(iz (H j hj).ne).2 ⟨?_,?_,?_⟩
 .rw[ku]at a1 b1 c1|-;exact(w9 (H i hi).ne (H j hj).ne hd a1 b1).1 c1
 .intro h;exact d2 (km p1 h)
 .intro h;exact e3 (km h p2)
def Zz{l:List S}(H:Sgs l){i j a b c:Nat}(hi:i<l.length)(hj:j<l.length)(hd:rD (aK l i) (aK l j)=0)(h1:Adj l i a b)(h2:Adj l j a c):b=c:=by
 rcases jK b c with h|h|h
 .exact absurd (wv H hi hj hd h1.oa h2.oa h1.ob h2.oa h2.ob h1.lt h h2.bd) (h2.no b h1.lt h)
 .exact h
 .have hd':rD (aK l j) (aK l i)=0:=by rw[Ak,hd];grind
  exact absurd (wv H hj hi hd' h2.oa h1.oa h2.ob h1.oa h1.ob h2.lt h h1.bd) (h1.no c h2.lt h)
def Zy{l:List S}(H:Sgs l){i j a b c:Nat}(hi:i<l.length)(hj:j<l.length)(hd:rD (aK l i) (aK l j)=0)(h1:Adj l i a c)(h2:Adj l j b c):a=b:=by
 rcases jK a b with h|h|h
 .have hd':rD (aK l j) (aK l i)=0:=by rw[Ak,hd];grind
  exact absurd (wv H hj hi hd' h2.ob h1.ob h2.oa h1.oa h1.ob h h2.lt h1.bd) (h1.no b h h2.lt)
 .exact h
 .exact absurd (wv H hi hj hd h1.ob h2.ob h1.oa h2.oa h2.ob h h1.lt h2.bd) (h2.no a h h1.lt)
def vX{n:Nat}{h:Int}(h0:0<=h)(h1:h<2*n):∃k,k<n/\(h=((2*k:Nat):Int)\/h=((2*k+1:Nat):Int)):=by refine⟨(h/2).toNat,by omega,by omega⟩
def zW(a b:V):aDe (aDd ⟨0,0⟩ a) (aDd ⟨0,0⟩ b)=aDe a b:=by unfold aDe aDd;dsimp only;grind
def Bh{l:List S}(H:Sgs l){h:Int}(hh:HIn (aA l) h):nzV (bL (aA l) h):=by
 obtain⟨k,hk,e⟩:=vX hh.1 hh.2;obtain⟨a,b,i,E⟩:=mV H hk;have:=aAU (H i E.il).ne;rcases e with rfl|rfl
 .rw[(nO E).1];exact this
 .rw[(ql E).1];unfold nzV aDd at*;dsimp only;omega
def YG{l:List S}(H:Sgs l)(q:Int->Bool):LvO (aA l) q:=by
 intro v hv;have hin:∀h∈lvR (aA l) q v (2*(aA l).es.length),HIn (aA l) h:=qu;refine⟨λx hx y hy z hz h1 h2=> ?_,λx hx y hy h1=> ?_,λx hx y hy h1 h2=> ?_⟩
 .exact decide_eq_true (UG (Bh H (hin x hx)) (Bh H (hin y hy)) (Bh H (hin z hz)) (of_decide_eq_true h1) (of_decide_eq_true h2))
 .exact decide_eq_false (se (of_decide_eq_true h1))
 .have h1:¬cfH (aA l) x y<0:=of_decide_eq_false h1;have h2:¬cfH (aA l) y x<0:=of_decide_eq_false h2;unfold cfH at h1 h2;rw[BF]at h1 h2;have ec:aDe (bL (aA l) y) (bL (aA l) x)= -aDe (bL (aA l) x) (bL (aA l) y):=by unfold aDe;grind
  obtain⟨j,hj,ex⟩:=vX (hin x hx).1 (hin x hx).2;obtain⟨k,hk,ey⟩:=vX (hin y hy).1 (hin y hy).2;have sx:=(pK.1 hx).2.2.2;have sy:=(pK.1 hy).2.2.2;obtain⟨a,b,i,E⟩:=mV H hj;obtain⟨c,d,m,F⟩:=mV H hk;have p1:=tW (H i E.il).ne;have p2:=tW (H m F.il).ne;rcases ex with rfl|rfl
  .rw[(nO E).1]at h1 h2 ec;rw[(nO E).2]at sx;rcases ey with rfl|rfl
   .rw[(nO F).1]at h1 h2 ec;rw[(nO F).2]at sy;have hac:a=c:=by omega
    subst hac;have hbd:=Zz H E.il F.il (CF.2 (by omega)) E.adj F.adj;subst hbd;have:j=k:=IK hj hk (by rw[E.ed,F.ed]) (by rw[E.ed,F.ed]);rw[this]
   .rw[(ql F).1]at h1 h2;omega
  .rw[(ql E).1]at h1 h2 ec;rw[(ql E).2]at sx;rcases ey with rfl|rfl
   .rw[(nO F).1]at h1 h2;omega
   .rw[(ql F).1]at h1 h2 ec;rw[(ql F).2]at sy;rw[zW]at h1 h2;have hbd:b=d:=by omega
    subst hbd;have hac:=Zy H E.il F.il (CF.2 (by rw[zW,zW]at ec;omega)) E.adj F.adj;subst hac;have:j=k:=IK hj hk (by rw[E.ed,F.ed]) (by rw[E.ed,F.ed]);rw[this]
def G8{k:Nat×Nat}{v:Int}:∀M:MF,(eW M k v).length<=M.length+1
 |[] =>by unfold eW;simp
 |p::M=>by
  unfold eW;split
  .simp
  .have:=G8 (k:=k) (v:=v) M;simp only[iJ];omega
def Fv(vs pts:List Pt)(i:Int)(M:MF):∀j,(dI vs pts i M j).length<=M.length+j
 |0=>az _
 |j+1=>by
  have:=Fv vs pts i M j;unfold dI;split
  .have:=G8 (k:=(ptX (aQ pts (j-1)) vs,ptX (aQ pts j) vs)) (v:=i) (dI vs pts i M j);omega
  .omega
def Ft(l:List S):∀k,(cU l k).length<=k*(3*l.length+2)
 |0=>by unfold cU;simp
 |k+1=>by
  have h1:=Ft l k;have h2:=Fv (vsP l) (bC l k) k (cU l k) (bC l k).length;have h3:=sq l k;unfold cU;rw[lg,oV];omega
def XZ(l:List S):(vsP l).length<=l.length*(3*l.length+2):=by have h1:=zX (aY (ltC aW) (vsK l l.length));have h2:=(fP (ltC aW) (vsK l l.length)).length_eq;have h3:=wP l l.length;unfold vsP;omega
def wj{l:List S}(h:dP l=0):Sgs l:=by
 unfold dP at h;split at h
 .cases h
 .rename_i h1;split at h
  .cases h
  .rename_i h2;intro k hk;have hm:=sv (l:=l) (i:=k) hk;have e1:¬ff (aK l k)=true:=λe=>h1 (li.2 ⟨_,hm,e⟩);have e2:¬fN (aK l k)=true:=λe=>h2 (li.2 ⟨_,hm,e⟩);unfold ff at e1;have e3:bR (aK l k).a 2000=true/\bR (aK l k).b 2000=true:=by unfold fN at e2;cases h3:bR (aK l k).a 2000<;>cases h4:bR (aK l k).b 2000<;>simp_all
   simp only[decide_eq_true_eq]at e1;unfold bR at e3;simp only[cD,decide_eq_true_eq]at e3;refine⟨e1,?_,?_⟩<;>unfold bd<;>omega
def Xu{l:List S}(hl:l.length<=100)(H:Sgs l):PlOk (aA l):=by
 have hm:l.length*(3*l.length+2)<=100*302:=Nat.mul_le_mul hl (by omega);refine⟨?_,?_,?_,?_,?_,?_,?_⟩
 .show l.length<=1000;omega
 .show(vsP l).length<=100000;have:=XZ l;omega
 .show(esP l).length<=400000;have:=Ft l l.length;have e:=A2 l;unfold edM at e;rw[eB]at e;omega
 .intro e he;obtain⟨a,b,h1,rfl⟩:=(qj H).1 he;obtain⟨x,hx⟩:=List.exists_mem_of_ne_nil _ h1;obtain⟨i,h2,h3,h4⟩:=ly.1 hx;have:=h4.lt;have:=h4.bd;show(0:Int)<=a/\(a:Int)<(vsP l).length/\(0:Int)<=b/\(b:Int)<(vsP l).length;omega
 .intro e he;obtain⟨a,b,h1,rfl⟩:=(qj H).1 he;refine⟨by show 0<(eA l a b l.length).length;rcases h:eA l a b l.length with _|⟨x,r⟩<;>simp_all,λx hx=> ?_⟩;obtain⟨i,h2,h3,h4⟩:=ly.1 hx;show 0<=x/\x<l.length;omega
 .intro s hs;obtain⟨k,hk,e⟩:=ki.1 hs;have:aK l k=s:=by rw[show aK l k=l[k]from cS hk];exact e
  rw[<-this];exact⟨(H k hk).a,(H k hk).b⟩
 .intro v hv;exact pS H hv
def itN(g:Int->Int):Nat->Int->Int
 |0,h=>h
 |n+1,h=>itN g n (g h)
def kL(g:Int->Int):∀n h,itN g (n+1) h=g (itN g n h)
 |0,_=>rfl
 |n+1,h=>kL g n (g h)
def orb(g:Int->Int)(m:Nat)(h:Int):List Int:=(bO m).map λj=>itN g j h
def ss(g:Int->Int)(m:Nat)(h:Int):orb g (m+1) h=h::orb g m (g h):=by unfold orb;rw[List.range_succ_eq_map,cV,gg];rfl
def pI{g:Int->Int}{m:Nat}{h x:Int}:x∈orb g m h↔∃j,j<m/\itN g j h=x:=by
 unfold orb;rw[cF];constructor
 .rintro⟨j,h1,h2⟩;exact⟨j,dY.1 h1,h2⟩
 .rintro⟨j,h1,h2⟩;exact⟨j,dY.2 h1,h2⟩
def Hq(p:Pl)(q:Int->Bool)(h:Int):Prop:=HIn p h/\q h=true
def zw{l:List Bool}{i j:Nat}(h:i<l.length):cQ (l.set i true) j=true↔cQ l j=true\/j=i:=by
 unfold cQ;rw[bq,bq,gZ];by_cases e:i=j
 .subst e;simp[h]
 .rw[if_neg e];constructor
  .exact .inl
  .rintro(h|h)
   .exact h
   .exact absurd h.symm e
def T7{l:List Bool}(h:l.count false=0){i:Nat}(hi:i<l.length):cQ l i=true:=by
 have:false∉l:=List.count_eq_zero.1 h;have hm:cQ l i∈l:=by rw[show cQ l i=l[i]from cS hi];exact eR hi
 cases hb:cQ l i with
 |true=>rfl
 |false=>rw[hb]at hm;exact absurd hm this
section
variable {p:Pl} {q:Int->Bool} {L:List (List Int)} (G:∀h,Hq p q h->Hq p q (nxP p L h))
include G
theorem IR:∀(f:Nat) (D:List Bool) (h:Int) (c:List Int),D.length=2*p.es.length->f=D.count false->Hq p q h->
  ∃m,(cyT p q L f D h c).2=c++orb (nxP p L) m h/\(cyT p q L f D h c).1.length=2*p.es.length/\
   (∀x,cQ (cyT p q L f D h c).1 x=true↔cQ D x=true\/(x:Int)∈orb (nxP p L) m h)/\
   (∀y∈orb (nxP p L) m h,Hq p q y/\cQ D y.toNat=false)/\(orb (nxP p L) m h).Nodup/\cQ (cyT p q L f D h c).1 (itN (nxP p L) m h).toNat=true/\(cQ D h.toNat=false->0<m)/\Hq p q (itN (nxP p L) m h)
 |0,D,h,c,hD,hf,hh=>by
  have hi:h.toNat<D.length:=by have:=hh.1.1;have:=hh.1.2;omega
  have ht:=T7 hf.symm hi;refine⟨0,?_,hD,λx=> ?_,λy hy=> ?_,List.nodup_nil,ht,λe=> ?_,hh⟩
  .show c=c++[];simp
  .show cQ D x=true↔cQ D x=true\/(x:Int)∈[];simp
  .cases hy
  .rw[ht]at e;cases e
 |f+1,D,h,c,hD,hf,hh=>by
  have hi:h.toNat<D.length:=by have:=hh.1.1;have:=hh.1.2;omega
  by_cases hb:cQ D h.toNat=false
  .rw[w8 ⟨hh.1.1,hb,hh.2⟩];have hc:=qQ hi hb;obtain⟨m,e1,e2,e3,e4,e5,e6,e7,e8⟩:=IR f (D.set h.toNat true) (nxP p L h) (c++[h]) (by rw[fA];exact hD) (by omega) (G h hh);refine⟨m+1,?_,e2,λx=> ?_,λy hy=> ?_,?_,e6,λ_=>by omega,e8⟩
   .rw[e1,ss,lj];rfl
   .rw[e3,zw hi,ss,bh];have hx:x=h.toNat↔(x:Int)=h:=by have:=hh.1.1;omega
    rw[hx];constructor
    .rintro((h1|h1)|h1)
     .exact .inl h1
     .exact .inr (.inl h1)
     .exact .inr (.inr h1)
    .rintro(h1|h1|h1)
     .exact .inl (.inl h1)
     .exact .inl (.inr h1)
     .exact .inr h1
   .rw[ss]at hy;rcases bh.1 hy with rfl|hy
    .exact⟨hh,hb⟩
    .refine⟨(e4 y hy).1,?_⟩;have h2:=(e4 y hy).2;cases h3:cQ D y.toNat with
     |false=>rfl
     |true=>rw[(zw hi).2 (.inl h3)]at h2;cases h2
   .rw[ss,kG];refine⟨λhm=> ?_,e5⟩;have h2:=(e4 h hm).2;rw[(zw hi).2 (.inr rfl)]at h2;cases h2
  .rw[wY (λh2=>hb h2.2.1)];refine⟨0,?_,hD,λx=> ?_,λy hy=> ?_,List.nodup_nil,?_,λe=>absurd e hb,hh⟩
   .show c=c++[];simp
   .show cQ D x=true↔cQ D x=true\/(x:Int)∈[];simp
   .cases hy
   .show cQ D h.toNat=true;cases h3:cQ D h.toNat with
    |true=>rfl
    |false=>exact absurd h3 hb
structure IsCy(p:Pl)(q:Int->Bool)(L:List (List Int))(c:List Int):Prop where
 ne:0<c.length
 orb:c=orb (nxP p L) c.length (aM c 0)
 close:itN (nxP p L) c.length (aM c 0)=aM c 0
 nd:c.Nodup
 mem:∀h∈c,Hq p q h
 least:∀h∈c,aM c 0<=h
structure CyInv(p:Pl)(q:Int->Bool)(L:List (List Int))(k:Nat)(y:List Bool×List (List Int)):Prop where
 len:y.1.length=2*p.es.length
 shut:∀h,Hq p q h->(cQ y.1 h.toNat=true↔cQ y.1 (nxP p L h).toNat=true)
 done:∀x:Nat,cQ y.1 x=true↔∃c∈y.2,(x:Int)∈c
 low:∀h,Hq p q h->h<k->cQ y.1 h.toNat=true
 cyc:∀c∈y.2,IsCy p q L c/\aM c 0<k
 asc:y.2.Pairwise λa b=>aM a 0<aM b 0
 dis:y.2.Pairwise λa b=>∀x∈a,x∉b
theorem rO{h:Int}(hh:Hq p q h):∀j,Hq p q (itN (nxP p L) j h)
 |0=>hh
 |j+1=>by rw[kL];exact G _ (rO hh j)
theorem IT(I:∀a b,Hq p q a->Hq p q b->nxP p L a=nxP p L b->a=b):∀k,k<=2*p.es.length->CyInv p q L k (cyO p q L k)
 |0,_=>by
  refine⟨mg ..,λh hh=> ?_,λx=> ?_,λh hh h2=> ?_,λc hc=> ?_,rr,rr⟩
  .have e:∀x,cQ (cyO p q L 0).1 x=false:=λx=>by
    show(bS _ false).getD x false=false;rw[bq];by_cases hx:x<2*p.es.length
    .rw[jf,if_pos hx];rfl
    .rw[jf,if_neg hx];rfl
   rw[e,e]
  .have e:cQ (cyO p q L 0).1 x=false:=by
    show(bS _ false).getD x false=false;rw[bq];by_cases hx:x<2*p.es.length
    .rw[jf,if_pos hx];rfl
    .rw[jf,if_neg hx];rfl
   rw[e];constructor
   .intro h;cases h
   .rintro⟨c,hc,_⟩;cases hc
  .have:=hh.1.1;omega
  .cases hc
 |k+1,hk=>by
  have V:=IT I k (by omega);by_cases hgo:cQ (cyO p q L k).1 k=false/\q k=true
  .obtain⟨hb,hqk⟩:=hgo;have hh:Hq p q k:=⟨⟨by omega,by omega⟩,hqk⟩;obtain⟨m,e1,e2,e3,e4,e5,e6,e7,e8⟩:=IR G ((cyO p q L k).1.count false) (cyO p q L k).1 k [] V.len rfl hh;have e1:(cyS p q L (cyO p q L k).1 k).2=orb (nxP p L) m k:=e1;have hm:0<m:=e7 (by rw[kh];exact hb);have hlen:(orb (nxP p L) m k).length=m:=by unfold orb;simp
   have hnew:∀j,cQ (cyO p q L k).1 (itN (nxP p L) j k).toNat=false:=by
    intro j;induction j with
    |zero=>show cQ _ ((k:Int).toNat)=false;rw[kh];exact hb
    |succ j ih=>
     rw[kL];have:=V.shut _ (rO G hh j);cases h3:cQ (cyO p q L k).1 (nxP p L (itN (nxP p L) j k)).toNat with
     |false=>rfl
     |true=>rw[this.2 h3]at ih;cases ih
   have hclose:itN (nxP p L) m k=k:=by
    have h0:=(e3 (itN (nxP p L) m k).toNat).1 e6;rw[hnew m]at h0;have h1:=h0.resolve_left (by decide);rw[qG e8.1.1]at h1;obtain⟨i,hi,e⟩:=pI.1 h1;have back:∀i d,itN (nxP p L) i k=itN (nxP p L) (i+d) k->itN (nxP p L) d k=k:=by
     intro i;induction i with
     |zero=>intro d h;rw[gc]at h;exact h.symm
     |succ i ih=>
      intro d h;rw[show i+1+d=(i+d)+1 by omega,kL,kL]at h;exact ih d (I _ _ (rO G hh i) (rO G hh (i+d)) h)
    have e9:=back i (m-i) (by rw[e];congr 1;omega);by_cases h0:i=0
    .subst h0;exact e9
    .exfalso;have hnd:=e5;unfold orb oZ at hnd;rw[qE,oX]at hnd;have:=hnd 0 (m-i) (by simp;omega) (by simp;omega) (by omega);rw[vG,vG]at this;exact this e9.symm
   have hlow:∀y∈orb (nxP p L) m k,(k:Int)<=y:=by
    intro y hy;rcases p8 y k with h|h
    .have h1:=V.low y (e4 y hy).1 h;rw[(e4 y hy).2]at h1;cases h1
    .exact h
   have h0:aM (orb (nxP p L) m k) 0=k:=by
    rcases m with _|m
    .omega
    .rw[ss];rfl
   have hc:IsCy p q L (orb (nxP p L) m k):=⟨by omega,by rw[hlen,h0],by rw[hlen,h0];exact hclose,e5,λh hm=>(e4 h hm).1,by rw[h0];exact hlow⟩;have ey:cyO p q L (k+1)=((cyS p q L (cyO p q L k).1 k).1,(cyO p q L k).2++[orb (nxP p L) m k]):=by show(_,if _ then _ else _)=_;rw[if_pos (by rw[e1,hlen];exact hm),e1]
   rw[ey];have hD:∀x,cQ (cyS p q L (cyO p q L k).1 k).1 x=true↔cQ (cyO p q L k).1 x=true\/(x:Int)∈orb (nxP p L) m k:=e3;refine⟨e2,λh hh2=> ?_,λx=> ?_,λh hh2 h2=> ?_,λc hc2=> ?_,?_,?_⟩
   .dsimp only;have g2:=(G h hh2).1.1;rw[hD,hD,qG hh2.1.1,qG g2,V.shut h hh2];have:h∈orb (nxP p L) m k↔nxP p L h∈orb (nxP p L) m k:=by
     rw[pI,pI];constructor
     .rintro⟨j,h1,rfl⟩;by_cases e:j+1=m
      .refine⟨0,hm,?_⟩;rw[<-kL (nxP p L),e,hclose];rfl
      .exact⟨j+1,by omega,kL _ _ _⟩
     .rintro⟨j,h1,h2⟩;rcases j with _|j
      .refine⟨m-1,by omega,?_⟩;refine I _ _ (rO G hh _) hh2 ?_;rw[<-kL (nxP p L),show m-1+1=m by omega,hclose];exact h2
      .refine⟨j,by omega,?_⟩;rw[kL]at h2;exact I _ _ (rO G hh _) hh2 h2
    rw[this]
   .dsimp only;rw[hD,V.done];constructor
    .rintro(⟨c,h1,h2⟩|h1)
     .exact⟨c,List.mem_append_left _ h1,h2⟩
     .exact⟨_,List.mem_append_right _ eG,h1⟩
    .rintro⟨c,h1,h2⟩;rcases eK.1 h1 with h1|h1
     .exact .inl ⟨c,h1,h2⟩
     .rw[bM.1 h1]at h2;exact .inr h2
   .dsimp only;rw[hD];by_cases e:h=k
    .right;rw[qG hh2.1.1,e];exact pI.2 ⟨0,hm,rfl⟩
    .exact .inl (V.low h hh2 (by omega))
   .rcases eK.1 hc2 with h1|h1
    .have:=V.cyc c h1;exact⟨this.1,by omega⟩
    .rw[bM.1 h1];exact⟨hc,by rw[h0];omega⟩
   .rw[SN];refine⟨V.asc,Dh _ _,λa ha b hb2=> ?_⟩;rw[bM.1 hb2,h0];exact(V.cyc a ha).2
   .rw[SN];refine⟨V.dis,Dh _ _,λa ha b hb2 x hx hx2=> ?_⟩;rw[bM.1 hb2]at hx2;have k1:=(e4 x hx2).2;have k2:=(V.done x.toNat).2 ⟨a,ha,by rw[qG (e4 x hx2).1.1.1];exact hx⟩;rw[k1]at k2;cases k2
  .have ey:cyO p q L (k+1)=cyO p q L k:=by
    have e:cyS p q L (cyO p q L k).1 k=((cyO p q L k).1,[]):=by unfold cyS;exact wY (λh=>hgo ⟨by have:=h.2.1;rwa[kh]at this,h.2.2⟩)
    show(_,if _ then _ else _)=_;rw[e,if_neg (by simp)]
   rw[ey];refine⟨V.len,V.shut,V.done,λh hh h2=> ?_,λc hc=> ?_,V.asc,V.dis⟩
   .by_cases e:h=k
    .subst e;cases h3:cQ (cyO p q L k).1 k with
     |true=>rw[kh];exact h3
     |false=>exact absurd ⟨h3,hh.2⟩ hgo
    .exact V.low h hh (by omega)
   .have:=V.cyc c hc;exact⟨this.1,by omega⟩
end
section
variable {p:Pl} (P:PlOk p) {q:Int->Bool} (O:LvO p q)
include P O
omit P O in
theorem JG{v:Nat}(hv:v<p.vs.length):aO (lvP p q) v=aY (ltC (cfH p)) (lvR p q v (2*p.es.length)):=by unfold aO lvP lvM;rw[bq,dw,kg hv];show(if v<p.vs.length then _ else _)=_;rw[if_pos hv]
omit P O in
theorem HR{v:Nat}(hv:v<p.vs.length){h:Int}:h∈aO (lvP p q) v↔Hq p q h/\stP p h=v:=by
 rw[JG hv,(fP _ _).mem_iff,pK];unfold Hq HIn;constructor
 .rintro⟨h1,h2,h3,h4⟩;exact⟨⟨⟨h1,by omega⟩,h3⟩,h4⟩
 .rintro⟨⟨⟨h1,h2⟩,h3⟩,h4⟩;exact⟨h1,by omega,h3,h4⟩
omit P O in
theorem U0(v k:Nat):(lvR p q v k).Nodup:=by unfold lvR;unfold oZ;refine List.Pairwise.filter _ ?_;rw[qE];exact List.nodup_range.imp λ{a b} h e=>h (by omega)
omit P in
theorem Ti{v:Nat}(hv:v<p.vs.length):(aO (lvP p q) v).Pairwise λa b=>bg (bL p a) (bL p b)<0:=by
 rw[JG hv];have hs:=oc (O v hv) (lvR p q v (2*p.es.length)) λ_ h=>h;have hn:(aY (ltC (cfH p)) (lvR p q v (2*p.es.length))).Nodup:=(fP _ _).nodup_iff.2 (U0 v _);have hm:∀x∈aY (ltC (cfH p)) (lvR p q v (2*p.es.length)),x∈lvR p q v (2*p.es.length):=λx h=>(fP _ _).mem_iff.1 h;generalize aY (ltC (cfH p)) (lvR p q v (2*p.es.length))=l at*;refine List.Pairwise.imp_of_mem (λ{a b} ha hb h=> ?_) (hs.and hn);obtain⟨h1,h2⟩:=h;cases h3:ltC (cfH p) a b with
 |true=>exact of_decide_eq_true h3
 |false=>exact absurd ((O v hv).tot a (hm a ha) b (hm b hb) h3 h1) h2
omit P in
theorem wk{v:Nat}(hv:v<p.vs.length){i j:Nat}(hj:j<(aO (lvP p q) v).length)(hij:i<j):bg (bL p (aM (aO (lvP p q) v) i)) (bL p (aM (aO (lvP p q) v) j))<0:=by have h:=oX.1 (Ti O hv) i j (by omega) hj hij;rw[show aM (aO (lvP p q) v) i=(aO (lvP p q) v)[i]from cS (by omega),show aM (aO (lvP p q) v) j=(aO (lvP p q) v)[j]from cS hj];exact h
omit P in
theorem Xp{v:Nat}(hv:v<p.vs.length){i j:Nat}(hi:i<(aO (lvP p q) v).length)(hj:j<(aO (lvP p q) v).length)(e:aM (aO (lvP p q) v) i=aM (aO (lvP p q) v) j):i=j:=by
 rcases jK i j with h|h|h
 .have:=wk O hv hj h;rw[e]at this;exact absurd this (se this)
 .exact h
 .have:=wk O hv hi h;rw[e]at this;exact absurd this (se this)
omit P in
theorem Yo{v:Nat}(hv:v<p.vs.length){k:Nat}(hk:k<(aO (lvP p q) v).length):bsP (λx=>bg (bL p x) (bL p (aM (aO (lvP p q) v) k))) (aO (lvP p q) v)=k:=by
 have key:∀i,i<(aO (lvP p q) v).length->(bg (bL p (aM (aO (lvP p q) v) i)) (bL p (aM (aO (lvP p q) v) k))<0↔i<k):=by
  intro i hi;constructor
  .intro h;rcases jK i k with h2|h2|h2
   .exact h2
   .subst h2;exact absurd h (se h)
   .exact absurd h (se (wk O hv hi h2))
  .exact λh=>wk O hv hk h
 obtain⟨h1,h2,h3⟩:=IZ (f:=λx=>bg (bL p x) (bL p (aM (aO (lvP p q) v) k))) (l:=aO (lvP p q) v) (λi j hij hj h=>(key i (by omega)).2 (by have:=(key j hj).1 h;omega));rcases jK (bsP (λx=>bg (bL p x) (bL p (aM (aO (lvP p q) v) k))) (aO (lvP p q) v)) k with h4|h4|h4
 .exact absurd ((key _ (by omega)).2 h4) (h3 _ (az _) (by omega))
 .exact h4
 .exact absurd ((key k hk).1 (h2 k h4)) (DL _)
theorem Ap{h:Int}(hh:HIn p h)(ht:q (twX h)=true):∃v k,v<p.vs.length/\stP p (twX h)=(v:Int)/\k<(aO (lvP p q) v).length/\aM (aO (lvP p q) v) k=twX h/\
  nxP p (lvP p q) h=aM (aO (lvP p q) v) ((k+(aO (lvP p q) v).length-1) % (aO (lvP p q) v).length):=by
 have ht1:=hh.tw P;have hs:=k9 P ht1;have hv:(stP p (twX h)).toNat<p.vs.length:=by omega
 have hm:=(HR (p:=p) (q:=q) hv).2 ⟨⟨ht1,ht⟩,by omega⟩;obtain⟨k,hk,e⟩:=ki.1 hm;have e:aM (aO (lvP p q) (stP p (twX h)).toNat) k=twX h:=by rw[show aM (aO (lvP p q) (stP p (twX h)).toNat) k=(aO (lvP p q) (stP p (twX h)).toNat)[k]from cS hk];exact e
 refine⟨_,k,hv,by omega,hk,e,?_⟩;have hb:=Yo O hv hk;rw[e]at hb;unfold nxP;dsimp only;rw[if_neg (by omega),hb]
omit O in
theorem KE{h:Int}(hh:HIn p h):twX (twX h)=h:=by have:=P.le;have h2:=hh.tw P;rw[wg h2.1 (by have:=h2.2;omega),wg hh.1 (by have:=hh.2;omega)];split<;>split<;>omega
theorem xL(hq:∀h,HIn p h->q h=true->q (twX h)=true)(h:Int)(hh:Hq p q h):Hq p q (nxP p (lvP p q) h)/\stP p (nxP p (lvP p q) h)=stP p (twX h):=by obtain⟨v,k,hv,e1,hk,e2,e3⟩:=Ap P O hh.1 (hq h hh.1 hh.2);have hl:(k+(aO (lvP p q) v).length-1) % (aO (lvP p q) v).length<(aO (lvP p q) v).length:=eO _ (by omega);have:=(HR (p:=p) (q:=q) hv).1 (iX hl);rw[e3,e1];exact this
theorem ZK(hq:∀h,HIn p h->q h=true->q (twX h)=true)(a b:Int)(ha:Hq p q a)(hb:Hq p q b)(h:nxP p (lvP p q) a=nxP p (lvP p q) b):a=b:=by
 obtain⟨v,k,hv,e1,hk,e2,e3⟩:=Ap P O ha.1 (hq a ha.1 ha.2);obtain⟨w,j,hw,f1,hj,f2,f3⟩:=Ap P O hb.1 (hq b hb.1 hb.2);have s1:=(xL P O hq a ha).2;have s2:=(xL P O hq b hb).2;rw[h,s2,e1,f1]at s1;have hvw:w=v:=by omega
 subst hvw;rw[e3,f3]at h;have n0:0<(aO (lvP p q) w).length:=by omega
 have h1:=Xp O hw (eO _ n0) (eO _ n0) h;have hkj:k=j:=by
  have c:∀{k n:Nat},k<n->(k+n-1) % n=if k=0 then n-1 else k-1:=by
   intro k n hk;split
   .rename_i h0;subst h0;rw[oJ (by omega)];omega
   .rw[show k+n-1=(k-1)+n by omega,Nat.add_mod_right,oJ (by omega)]
  rw[c hk,c hj]at h1;split at h1<;>split at h1<;>omega
 subst hkj;rw[e2]at f2;have:=congrArg twX f2;rwa[KE P ha.1,KE P hb.1]at this
end
theorem qz{p:Pl}(P:PlOk p)(O:LvO p aC):CyInv p aC (lvP p aC) (2*p.es.length) (cyO p aC (lvP p aC) (2*p.es.length)):=
 IT (λh hh=>(xL P O (λ_ _ _=>rfl) h hh).1) (λa b ha hb h=>ZK P O (λ_ _ _=>rfl) a b ha hb h) _ (az _)
def JQ{k:Int}{o c:List Int}{x:Nat}:∀{j:Nat},j<=c.length->(∀h∈c,0<=h/\h<o.length)->
  ((∃i,i<j/\aM c i=x)->aM (ofC k o c j) x=k)/\((¬∃i,i<j/\aM c i=x)->aM (ofC k o c j) x=aM o x)
 |0,_,_=>⟨λ⟨i,h,_⟩=>by omega,λ_=>rfl⟩
 |j+1,hj,hc=>by
  obtain⟨h1,h2⟩:=JQ (k:=k) (o:=o) (x:=x) (j:=j) (by omega) hc;have hm:=hc _ (iX (l:=c) (i:=j) (by omega));have hl:=tO k o c j;unfold ofC;rw[fQ];by_cases e:aM c j=x
  .rw[if_pos ⟨by omega,by omega⟩];exact⟨λ_=>rfl,λh=>absurd ⟨j,by omega,e⟩ h⟩
  .rw[if_neg (λh=>e (by omega))];constructor
   .rintro⟨i,h3,h4⟩;refine h1 ⟨i,?_,h4⟩;rcases jc i j with h5|h5
    .exact h5
    .have:i=j:=by omega
     subst this;exact absurd h4 e
   .intro h;exact h2 λ⟨i,h3,h4⟩=>h ⟨i,by omega,h4⟩
def GS{l:List Int}{x:Int}(h:x∈l):∃i,i<l.length/\aM l i=x:=by obtain⟨i,hi,e⟩:=ki.1 h;exact⟨i,hi,by rw[show aM l i=l[i]from cS hi];exact e⟩
section
variable {p:Pl} (P:PlOk p) (O:LvO p aC)
include P O
theorem pp{j:Nat}(hj:j<(cyP p aC).length):aO (cyP p aC) j∈cyP p aC:=kK hj
theorem Jm{i j:Nat}(hj:j<(cyP p aC).length)(hij:i<j):(∀x∈aO (cyP p aC) i,x∉aO (cyP p aC) j)/\aM (aO (cyP p aC) i) 0<aM (aO (cyP p aC) j) 0:=by have V:=qz P O;have h1:=oX.1 V.dis i j (by show i<(cyP p aC).length;omega) hj hij;have h2:=oX.1 V.asc i j (by show i<(cyP p aC).length;omega) hj hij;rw[show aO (cyP p aC) i=(cyP p aC)[i]from cS (by omega),show aO (cyP p aC) j=(cyP p aC)[j]from cS hj];exact⟨h1,h2⟩
theorem CJ:∀k,k<=(cyP p aC).length->∀j,j<k->∀h∈aO (cyP p aC) j,aM (ph1 p k).2.1 h.toNat=(j:Int)
 |0,_,j,hj,_,_=>by omega
 |k+1,hk,j,hj,h,hh=>by
  have V:=qz P O;have hlen:=(nK p k).2;have hc:∀x∈aO (cyP p aC) k,0<=x/\x<(ph1 p k).2.1.length:=λx hx=>by have:=((V.cyc _ (pp P O (j:=k) (by omega))).1.mem x hx).1;rw[hlen];exact⟨this.1,by have:=this.2;omega⟩
  have e:(ph1 p (k+1)).2.1=ofC k (ph1 p k).2.1 (aO (cyP p aC) k) (aO (cyP p aC) k).length:=by show(if _ then _ else _:PhA).2.1=_;split<;>rfl
  have hp:=((V.cyc _ (pp P O (j:=j) (by omega))).1.mem h hh).1.1;obtain⟨h1,h2⟩:=JQ (k:=(k:Int)) (o:=(ph1 p k).2.1) (c:=aO (cyP p aC) k) (x:=h.toNat) (az _) hc;rw[e];by_cases ejk:j=k
  .subst ejk;obtain⟨i,hi,ei⟩:=GS hh;exact h1 ⟨i,hi,by rw[ei];omega⟩
  .rw[h2 ?_]
   .exact CJ k (by omega) j (by omega) h hh
   .rintro⟨i,hi,ei⟩;have hm:h∈aO (cyP p aC) k:=by have:=iX (l:=aO (cyP p aC) k) hi;rw[ei,qG hp]at this;exact this
    exact(Jm P O (i:=j) (j:=k) (by omega) (by omega)).1 h hh hm
theorem MP{h:Int}(hh:HIn p h):∃j,j<(cyP p aC).length/\h∈aO (cyP p aC) j:=by have V:=qz P O;obtain⟨c,hc,hm⟩:=(V.done h.toNat).1 (V.low h ⟨hh,rfl⟩ (by have:=hh.2;omega));rw[qG hh.1]at hm;obtain⟨j,hj,e⟩:=ki.1 hc;have hj:j<(cyP p aC).length:=hj;exact⟨j,hj,by rw[show aO (cyP p aC) j=(cyP p aC)[j]from cS hj];exact e▸hm⟩
theorem ZJ{j:Nat}(hj:j<(cyP p aC).length){h:Int}(hh:h∈aO (cyP p aC) j):nxP p (lvP p aC) h∈aO (cyP p aC) j:=by
 have C:=((qz P O).cyc _ (pp P O hj)).1;generalize aO (cyP p aC) j=c at*;rw[C.orb]at hh|-;obtain⟨i,hi,rfl⟩:=pI.1 hh;by_cases e:i+1=c.length
 .refine pI.2 ⟨0,C.ne,?_⟩;rw[<-kL (nxP p (lvP p aC)),e,C.close];rfl
 .exact pI.2 ⟨i+1,by omega,kL _ _ _⟩
omit P O in
theorem JY{c:List Int}:∀{k:Nat},k<=c.length->∀i,i<k->lowK p c k<=stP p (aM c i)
 |0,_,i,hi=>by omega
 |k+1,hk,i,hi=>by
  unfold lowK;by_cases e:i=k
  .subst e;omega
  .have:=JY (c:=c) (k:=k) (by omega) i (by omega);omega
omit P O in
theorem H1{c:List Int}{h:Int}(hh:h∈c):bv p c<=stP p h:=by obtain⟨i,hi,rfl⟩:=GS hh;exact JY (az _) i hi
end
structure BwIs(q:Pt)(e:BwE):Prop where
 dx:(aDd e.b e.a).x≠0
 lf:e.lf.x*q.den<=q.x*e.lf.den
 rt:q.x*e.rt.den<e.rt.x*q.den
 n:bwN q e<q.y*(aDd e.b e.a).x
theorem Jt(p:Pl)(q:Pt):∀k,(bwK p q k).1<0\/∃j,j<k/\(bwK p q k).1=(bwE p j).h/\BwIs q (bwE p j)
 |0=> .inl (by show(-1:Int)<0;decide)
 |k+1=>by
  have ih:(bwK p q k).1<0\/∃j,j<k+1/\(bwK p q k).1=(bwE p j).h/\BwIs q (bwE p j):=(Jt p q k).imp_right λ⟨j,h1,h2⟩=>⟨j,by omega,h2⟩;show(bwS q (bwE p k) (bwK p q k)).1<0\/∃j,j<k+1/\(bwS q (bwE p k) (bwK p q k)).1=(bwE p j).h/\BwIs q (bwE p j);unfold bwS;split
  .exact ih
  .rename_i h1;split
   .exact ih
   .rename_i h2;split
    .exact .inr ⟨k,by omega,rfl,⟨by omega,by omega,by omega,by omega⟩⟩
    .exact ih
def GX{c d L R Q:Q2}(D:c.x<d.x)(hL:cr c d L=0)(hR:cr c d R=0)(h1:L.x<=Q.x)(h2:Q.x<R.x)
  (h3:c.y*(d.x-c.x)+(d.y-c.y)*(Q.x-c.x)<Q.y*(d.x-c.x)):L.y<Q.y\/R.y<Q.y:=by
 unfold cr at hL hR;have hp:0<d.x-c.x:=by grind
 have can:∀{u v:Rat},u*(d.x-c.x)<v*(d.x-c.x)->u<v:=λh=>Rat.lt_of_mul_lt_mul_right h (Rat.le_of_lt hp);by_cases hy:0<=d.y-c.y
 .left;have:=Rat.mul_le_mul_of_nonneg_left (show L.x-c.x<=Q.x-c.x by grind) hy;exact can (by grind)
 .right;have:=Rat.mul_le_mul_of_nonneg_left (show Q.x-c.x<=R.x-c.x by grind) (show 0<= -(d.y-c.y) by grind);exact can (by grind)
def T6{a b c d:Rat}(hb:0<b)(hd:0<d):a/b<=c/d↔a*d<=c*b:=by rw[<-Rat.not_lt,<-Rat.not_lt,vd hd hb]
def Jq{q:Pt}{e:BwE}(hq:0<q.den)(hl:0<e.lf.den)(hr:0<e.rt.den)(B:BwIs q e):
  (rp e.lf).x<=(rp q).x/\(rp q).x<(rp e.rt).x/\(rv e.a).y*((rv e.b).x-(rv e.a).x)+((rv e.b).y-(rv e.a).y)*((rp q).x-(rv e.a).x)<(rp q).y*((rv e.b).x-(rv e.a).x):=by
 have hq':(0:Rat)<q.den:=by exact_mod_cast hq
 have hl':(0:Rat)<e.lf.den:=by exact_mod_cast hl
 have hr':(0:Rat)<e.rt.den:=by exact_mod_cast hr
 refine⟨?_,?_,?_⟩
 .show(e.lf.x:Rat)/e.lf.den<=q.x/q.den;rw[T6 hl' hq']
  exact_mod_cast B.lf
 .show(q.x:Rat)/q.den<e.rt.x/e.rt.den;rw[vd hq' hr']
  exact_mod_cast B.rt
 .have n:=B.n;unfold bwN aDd at n;dsimp only at n;have n:(e.a.y:Rat)*(e.b.x-e.a.x)*q.den+(e.b.y-e.a.y)*(q.x-e.a.x*q.den)<q.y*(e.b.x-e.a.x):=by exact_mod_cast n
  show(e.a.y:Rat)*(e.b.x-e.a.x)+(e.b.y-e.a.y)*(q.x/q.den-e.a.x)<q.y/q.den*(e.b.x-e.a.x);have hne:(q.den:Rat)≠0:=λh=>by rw[h]at hq';exact Rat.lt_irrefl hq'
  refine Rat.lt_of_mul_lt_mul_right (c:=(q.den:Rat)) ?_ (Rat.le_of_lt hq');have e1:((e.a.y:Rat)*(e.b.x-e.a.x)+(e.b.y-e.a.y)*(q.x/q.den-e.a.x))*q.den=(e.a.y:Rat)*(e.b.x-e.a.x)*q.den+(e.b.y-e.a.y)*(q.x-e.a.x*q.den):=by grind
  have e2:((q.y:Rat)/q.den*(e.b.x-e.a.x))*q.den=q.y*(e.b.x-e.a.x):=by grind
  rw[e1,e2];exact n
section
variable {l:List S} (H:Sgs l)
include H
theorem BG{v:Nat}(hv:v<(vsP l).length):0<(aQ (vsP l) v).den:=by have:=(pS H (su hv)).1.den;omega
theorem Hi{i v:Nat}(hi:i<l.length)(h:OnV l i v):cr (lo (aK l i)) (Go.Proofs.YtdnhebjljnfjaaaGreat.hi (aK l i)) (rp (aQ (vsP l) v))=0:=((iz (H i hi).ne).1 h).1
end
theorem Jz{l:List S}{k a b i:Nat}(E:EdAt l k a b i):bwE (aA l) k=if(hiS (aK l i)).x<(loS (aK l i)).x then⟨2*k+1,aQ (vsP l) b,aQ (vsP l) a,hiS (aK l i),loS (aK l i)⟩else⟨2*k,aQ (vsP l) a,aQ (vsP l) b,loS (aK l i),hiS (aK l i)⟩:=by unfold bwE;dsimp only;rw[E.ln];dsimp only;have e:aP (aA l).es k=⟨a,b,0,0,eA l a b l.length⟩:=E.ed;rw[e];dsimp only;rw[kh,kh];rfl
theorem Zs{l:List S}(H:Sgs l){k a b i:Nat}(E:EdAt l k a b i){q:Pt}(hq:0<q.den)(B:BwIs q (bwE (aA l) k)):ltQ (rp (aQ (vsP l) a)) (rp q):=by
 have ab:=uJ H E.adj.bd E.adj.lt;have da:=BG H (v:=a) (by have:=E.adj.lt;have:=E.adj.bd;omega);have db:=BG H E.adj.bd;have ca:=Hi H E.il E.adj.oa;have cb:=Hi H E.il E.adj.ob;have lh:=xR (H i E.il).ne;rw[Jz E]at B;have fin:(rp (aQ (vsP l) a)).y<(rp q).y\/(rp (aQ (vsP l) b)).y<(rp q).y:=by
  split at B
  .rename_i hx;obtain⟨h1,h2,h3⟩:=Jq hq db da B;have hx':(hi (aK l i)).x<(lo (aK l i)).x:=by show((hiS (aK l i)).x:Rat)<(loS (aK l i)).x;exact_mod_cast hx
   have c1:cr (hi (aK l i)) (lo (aK l i)) (rp (aQ (vsP l) b))=0:=by unfold cr at*;grind
   have c2:cr (hi (aK l i)) (lo (aK l i)) (rp (aQ (vsP l) a))=0:=by unfold cr at*;grind
   exact(GX hx' c1 c2 h1 h2 h3).symm
  .rename_i hx;obtain⟨h1,h2,h3⟩:=Jq hq da db B;have hd:=B.dx;unfold aDd at hd;dsimp only at hd;have hx':(lo (aK l i)).x<(hi (aK l i)).x:=by show((loS (aK l i)).x:Rat)<(hiS (aK l i)).x;exact_mod_cast (show(loS (aK l i)).x<(hiS (aK l i)).x by omega)
   exact GX hx' ca cb h1 h2 h3
 unfold ltQ at*;rcases fin with h|h
 .exact .inl h
 .left;rcases ab with h2|⟨h2,_⟩
  .grind
  .rw[h2];exact h
theorem YU{l:List S}{j k:Nat}(hj:j<(esP l).length)(h:(aP (esP l) j).fr<(aP (esP l) k).fr):j<k:=by
 have hs:(esP l).Pairwise λa b=>ltC gK b a=false:=oc (uf (A3 (oh l l.length))) (edM (cU l l.length)) λ_ h=>h;rcases jK j k with h1|h1|h1
 .exact h1
 .subst h1;omega
 .have h2:=oX.1 hs k j (by omega) hj h1;have h3:¬gK (esP l)[j] (esP l)[k] <0:=of_decide_eq_false h2;rw[nX]at h3;rw[nV hj,nV (show k<(esP l).length by omega)]at h;omega
theorem pQ{l:List S}(hl:l.length<=100)(h0:dP l=0):BdOk l:=by
 have H:=wj h0;have P:=Xu hl H;have O:=YG H aC;refine⟨hl,λi hi p hp=>(wn H hi hp).1.1,P,O,?_⟩;intro k hk hin hb;have V:=qz P O;have hk:k<(cyP (aA l) aC).length:=hk;have C:=(V.cyc _ (pp P O hk)).1;generalize hc:aO (cyP (aA l) aC) k=c at*;obtain⟨h1,hm1,e1⟩:=Au C.ne c.length (az _);have hs:=k9 P (C.mem h1 hm1).1;have e1:bv (aA l) c=stP (aA l) h1:=e1;have hv0:(bv (aA l) c).toNat<(vsP l).length:=by have:stP (aA l) h1<(vsP l).length:=hs.2;omega
 have hq:=BG H hv0;have hbw:bwQ (aA l) c=(bwK (aA l) (aQ (vsP l) (bv (aA l) c).toNat) (esP l).length).1:=rfl;rcases Jt (aA l) (aQ (vsP l) (bv (aA l) c).toNat) (esP l).length with hneg|⟨j,hj,ej,B⟩
 .rw[hbw]at hb;omega
 .obtain⟨a,b,i,E⟩:=mV H hj;have hlow:=Zs H E hq B;have hbj:bwQ (aA l) c=2*j\/bwQ (aA l) c=2*j+1:=by
   rw[hbw,ej,Jz E];split
   .exact .inr rfl
   .exact .inl rfl
  have hav:a<(bv (aA l) c).toNat:=by
   rcases jK a (bv (aA l) c).toNat with h|h|h
   .exact h
   .rw[<-h]at hlow;exact absurd hlow gi
   .exact absurd (km hlow (uJ H (by have:=E.adj.lt;have:=E.adj.bd;omega) h)) gi
  have hm0:aM c 0∈c:=iX C.ne;have hin0:=(C.mem _ hm0).1;obtain⟨m,hm,em⟩:=vX hin0.1 hin0.2;have hm:m<(esP l).length:=hm;obtain⟨a',b',i',F⟩:=mV H hm;have hnx:nxP (aA l) (lvP (aA l) aC) (aM c 0)∈c:=by have:=ZJ P O hk (h:=aM c 0) (by rw[hc];exact hm0);rwa[hc]at this
  have l1:=H1 (p:=aA l) hm0;have l2:=H1 (p:=aA l) hnx;rw[(xL P O (λ_ _ _=>rfl) (aM c 0) (C.mem _ hm0)).2]at l2;have hfr:bv (aA l) c<=a':=by
   rcases em with em|em
   .rw[em,(nO F).2]at l1;exact l1
   .have htw:twX (aM c 0)=((2*m:Nat):Int):=by have:=P.le;rw[wg hin0.1 (by have:=hin0.2;omega),em,if_neg (by omega)];omega
    rw[htw,(nO F).2]at l2;exact l2
  have hjm:j<m:=YU hj (by rw[E.ed,F.ed];show(a:Int)<a';omega);have hlt:bwQ (aA l) c<aM c 0:=by omega
  have hbin:HIn (aA l) (bwQ (aA l) c):=⟨hb,by show _<2*((esP l).length:Int);omega⟩;obtain⟨n,hn,hmem⟩:=MP P O hbin;have e2:=CJ P O (nC (aA l)) (az _) n hn _ hmem;rw[e2];have hlast:=(V.cyc _ (pp P O hn)).1.least _ hmem;rcases jK n k with h|h|h
  .omega
  .subst h;rw[hc]at hlast;omega
  .have:=(Jm P O (i:=k) (j:=n) hn h).2;rw[hc]at this;omega
noncomputable section
def awL:List S:=[⟨⟨0,0⟩,⟨2,0⟩⟩,⟨⟨2,0⟩,⟨2,2⟩⟩,⟨⟨2,2⟩,⟨0,2⟩⟩,⟨⟨0,2⟩,⟨0,0⟩⟩,⟨⟨0,0⟩,⟨2,2⟩⟩,⟨⟨0,2⟩,⟨2,0⟩⟩]
def awP:Pl:=⟨awL,[⟨0,0,1⟩,⟨2,0,1⟩,⟨1,1,1⟩,⟨0,2,1⟩,⟨2,2,1⟩],
 [⟨0,1,1,0,[0]⟩,⟨0,2,2,1,[4]⟩,⟨0,3,0,2,[3]⟩,⟨1,2,1,3,[5]⟩,⟨1,4,3,0,[1]⟩,⟨2,3,2,4,[5]⟩,⟨2,4,4,3,[4]⟩,⟨3,4,0,4,[2]⟩],
 [[[1,4,14,9]],[[0,6,3]],[[2,10,5]],[[7,8,13]],[[11,12,15]]]⟩
def RW:dP awL=0:=by kernel_rfl
def aC2:bN awL=awP:=by kernel_rfl
def aA1:BdOk awL:=pQ (by decide) RW
def aA3:cyP awP (pmF awP 1)=[[0,6,3]] :=by kernel_rfl
def awS:Shape:=⟨[⟨0,0⟩,⟨2,0⟩,⟨1,1⟩],[]⟩
def aC1:iZ awS=true:=by kernel_rfl
def aA0:PlOk awP where
 ls:=by decide
 lv:=by decide
 le:=by decide
 fr:=by decide
 src:=by decide
 bd:=by unfold bd;decide
 pt:=λv hv=>by
  have:∀v∈awP.vs,(dE v&&di v 2000&&decide (v.den<=33000000))=true:=by decide+kernel
  have:=this v hv;simp only[cD,decide_eq_true_eq]at this;exact⟨⟨this.1.1,this.1.2⟩,this.2⟩
def aA2:LvO awP aC:=by
 have h1:∀v:Fin 5,∀x∈lvR awP aC v 16,∀y∈lvR awP aC v 16,∀z∈lvR awP aC v 16,ltC (cfH awP) x y=true->ltC (cfH awP) y z=true->ltC (cfH awP) x z=true:=by decide+kernel
 have h2:∀v:Fin 5,∀x∈lvR awP aC v 16,∀y∈lvR awP aC v 16,ltC (cfH awP) x y=true->ltC (cfH awP) y x=false:=by decide+kernel
 have h3:∀v:Fin 5,∀x∈lvR awP aC v 16,∀y∈lvR awP aC v 16,ltC (cfH awP) x y=false->ltC (cfH awP) y x=false->x=y:=by decide+kernel
 exact λv hv=>⟨h1 ⟨v,hv⟩,h2 ⟨v,hv⟩,h3 ⟨v,hv⟩⟩
def NG:EC:=EC.at (a1 (aL .S)).dec (λl=>decide (l=awL)) false (.tup [.agg [.lst .S awP.sg,.lst .T awP.vs,.lst .E awP.es,.lst .F awP.fs],.int .i64 0])
def XT:NG.c.Ok aH 13:=xb Pg (λx h=>of_decide_eq_true h) (fH.1 ⟨(by decide:awL.length<=1000),λ_=>aA1⟩) (by show SV.av (.tup [.agg [.lst .S (bN awL).sg,.lst .T (bN awL).vs,.lst .E (bN awL).es,.lst .F (bN awL).fs],.int .i64 (dP awL)])=_;rw[aC2,RW])
def M9:EC:=EC.at (ac aPl (a1 C6)).dec (λx=>decide (x.1=awP)&&(decide (x.2.1=awP)&&decide (x.2.2.1=1))) true (.lst .Q [[0,6,3]])
def XM:M9.c.Ok aH 92:=xb (x0:=(awP,(awP,1,()))) Pc (λx h=>by
 obtain⟨a,b,c,d⟩:=x;simp only[cD,decide_eq_true_eq]at h;obtain⟨rfl,rfl,rfl⟩:=h;rfl) (fH.1 ⟨aA0,rfl,aA2⟩) (by
 show SV.av (.lst .Q (cyP awP (pmF awP 1)))=_;rw[aA3])
def M8:EC:=EC.at (a1 aSh).dec (λs=>decide (s.outer=awS.outer)&&decide (s.holes=awS.holes)) true (.lit true)
def XL:M8.c.Ok aH 97:=xb (x0:=awS) k55 (λx h=>by
 obtain⟨a,b⟩:=x;simp only[cD,decide_eq_true_eq]at h;obtain⟨rfl,rfl⟩:=h;rfl) (fH.1 (show Fit awS from⟨by decide,by decide,by decide⟩)) (by
 show AV.p (.bool (iZ awS))=_;rw[aC1];rfl)
def J3:EC:=EC.at (a1 (aL .V)).dec (λs=>decide (s=awS.outer)) false (.lst .V awS.outer)
def aA4:nj awS.outer=awS.outer:=by kernel_rfl
def Vh:J3.c.Ok aH 163:=xb (x0:=awS.outer) Ph (λx h=>of_decide_eq_true h) (fH.1 (show awS.outer.length<=1000 by decide)) (by show SV.av (.lst .V (nj awS.outer))=_;rw[aA4])
end
end Go.Proofs.YtdnhebjljnfjaaaGreat
