/- Part 5 of what the statement stands on -/
import Derived.Test.YtdnhebjljnfjaaaGreatOC4
import Derived.Laws.CopyRow
import Derived.Laws.IdiomCopy
import Derived.RangeFuncNested
import Derived.RangeFuncBound
import Derived.RangeFuncCalls
import Derived.RangeFuncLeaves
import Derived.RangeFuncFrom
import Derived.Shelf.Abstract
import Derived.OwnWalkIn
import Derived.TacticsInMore
import Derived.LoopNIn
import Derived.LoopIn
set_option linter.all false
set_option maxRecDepth 100000
set_option maxHeartbeats 8000000
open List renaming range->bN,length_cons->hZ,length_append->dj,mem_append->d7,range_succ->pJ,map_append->dQ,getD_eq_getElem?_getD->b9,getElem?_map->dH,getElem?_range->iK,mem_singleton->bO,mem_cons->bh,mem_cons_self->eC,mem_cons_of_mem->dR,map_cons->cO,nodup_cons->jy,mem_map->cC,length_singleton->eM,length_nil->iH,getElem?_set->gh,getElem_mem->du,length_set->fB,mem_or_eq_of_mem_set->Qa,replicate->bT,nil_append->pK,length_replicate->mH,getElem?_replicate->i9,Perm.refl->uH,append_assoc->jz,getD->cV,any->ig,take->bM,take_append_getElem->ug,length_take->fS,take_length->iM,Pairwise.nil->uG,pairwise_singleton->C6,pairwise_cons->ju,pairwise_iff_getElem->nq,mem_iff_getElem->mK,append_nil->jW,map_map->gS,Nodup->rN,pairwise_map->ud,any_eq_true->ni,length_map->dt,mem_range->dZ,count_eq_zero->QX,getElem_range->uZ,ext_getElem?->i7,getElem?_eq_none->d8,count_append->nt,flatten_append->np,flatten_singleton->Qh,take_append_drop->lK,sum_append->xq,getElem?_eq_getElem->c8,not_mem_nil->dP,rec->rO,cons_append->mF,length->fe,map_nil->lI,length_eq_zero_iff->iZ,lookup->cH,map_take->rI,set->cY,drop->cP,map->xp,eraseIdx->C8,getElem?_eq_some_iff->nj,size_toArray->Cg,push_toArray->Q7,append_toArray->Q8,all_eq_true->dY,getElem?_take->pG,getElem?_drop->uI
open Nat renaming le_refl->bD,add_mul->lJ,one_mul->nk,lt_or_ge->jT,zero_le->ce,gcd->bw,gcd_mul_right->C7,lt_trichotomy->jB,lt_irrefl->Ch,zero_add->gR,mod_lt->fJ,mod_eq_of_lt->mC,le_trans->cZ,ne_of_beq_eq_false->fw,beq->af,blt->dB,eq_of_beq_eq_true->bm,ble->iL,le_of_ble_eq_true->jA,min->lL,lt_succ_self->Cl,lt_of_lt_of_le->Qi,eq_zero_or_pos->nZ
open Prod renaming ext->xz
open Int renaming natCast_nonneg->xy,tmod->dI,tdiv->bg,ofNat_dvd_left->Q4,lt_trichotomy->xu,natAbs->bj,natAbs_mul->pP,mul_le_mul_of_nonneg_right->jv,toNat_natCast->kX,tmod_eq_emod_of_nonneg->rK,tdiv_eq_ediv_of_nonneg->ub,mul_nonneg->iz,lt_or_le->pF,toNat_of_nonneg->pQ
open Go.Proofs.Tryz renaming prog->aH
open And renaming intro->cl
open Go.Sem renaming run_bind->bk,run_pure->cG
open Iff renaming rfl->ns
open Bool renaming and_eq_true->cB,or_eq_true->jS,false_ne_true->rM,true_and->jR,false_and->nr
open Option renaming map_some->dV
open Classical renaming choose_spec->Qf
open Go.Op renaming operands->b8
open Go.Call renaming operands->fq
open Go.Result renaming andThen_ok->bq
open Go.World renaming setRow->uO,block_lt_of_cell?->ft
open Array renaming replicate_succ->Q5,replicate_zero->Q6
open Go.RowKit
open Go.Proofs.YtdnhebjljnfjaaaGreat.Geo
open Go.Proofs.YtdnhebjljnfjaaaGreat.Geo renaming S->aB2,sub->aB3,bi->aB6,bK->aB8
namespace Go.Proofs.YtdnhebjljnfjaaaGreat
def vsK(l:List aB2):Nat->List Pt
 |0=>[]
 |k+1=>vsK l k++bC l k
def onP(l:List aB2)(k:Nat):List (List Pt):=(bN k).map (bC l)
def vsP(l:List aB2):List Pt:=fA (aZ (ltC aW) (vsK l l.length))
def dC(vs pts:List Pt)(i:Int)(M:MF):Nat->MF
 |0=>M
 |j+1=>if 1<=j then eI (dC vs pts i M j) (ptX (aP pts (j-1)) vs,ptX (aP pts j) vs) i else dC vs pts i M j
def cS(l:List aB2):Nat->MF
 |0=>[]
 |k+1=>dC (vsP l) (bC l k) k (cS l k) (bC l k).length
def fX(vs pts:List Pt)(j:Nat):Int:=if 1<=j then(ptX (aP pts (j-1)) vs:Nat)else-1
def edM(M:MF):List Ed:=M.map λq=>⟨q.1.1,q.1.2,0,0,q.2⟩
def esP(l:List aB2):List Ed:=aZ (ltC gc) (edM (cS l l.length))
def aA(l:List aB2):Pl:=⟨l,vsP l,esP l,[]⟩
def eV(l:List aB2):Int:=if l.any f7=true then 1 else if l.any fZ=true then 2 else if 200<l.length then 9 else 0
def aU(l:List aB2):Pl:=if eV l=0 then eR (aA l)else⟨[],[],[],[]⟩
def yv:∀l:List Pt,(fA l).length<=l.length
 |[] =>bD _
 |[_] =>bD _
 |x::y::r=>by
  have:=yv (y::r);unfold fA;split
  .simp only[hZ]at*;omega
  .simp only[hZ]at*;omega
def zB{l:List aB2}{i:Nat}{p:Pt}(h:p∈bC l i):p∈ae l i l.length:=(fM _ _).mem_iff.1 (vE _ p h)
def ry(l:List aB2)(i:Nat):(bC l i).length<=3*l.length+2:=by have h1:=yv (aZ (ltC aW) (ae l i l.length));have h2:=(fM (ltC aW) (ae l i l.length)).length_eq;have h3:=zA l i l.length;unfold bC;omega
def vi(l:List aB2):∀k,(vsK l k).length<=k*(3*l.length+2)
 |0=>by unfold vsK;simp
 |k+1=>by
  have h1:=vi l k;have h2:=ry l k;unfold vsK;rw[dj,lJ,nk];omega
def zi{l:List aB2}{p:Pt}:∀{k},p∈vsK l k->∃i,i<k/\p∈bC l i
 |0,h=>by cases h
 |k+1,h=>by
  unfold vsK at h;rcases d7.1 h with h|h
  .obtain⟨i,h1,h2⟩:=zi h;exact⟨i,by omega,h2⟩
  .exact⟨k,by omega,h⟩
def zx(l:List aB2)(k:Nat):(onP l k).length=k:=by unfold onP;simp
def VL(l:List aB2)(k:Nat):onP l k++[bC l k] =onP l (k+1):=by unfold onP;rw[pJ,dQ];rfl
def Gp{l:List aB2}{k i:Nat}(h:i<k):pA (onP l k) i=bC l i:=by unfold pA onP;rw[b9,dH,iK h];rfl
def vh{v:Int}{k:Nat×Nat}{q:(Nat×Nat)×List Int}:∀{M:MF},q∈eI M k v->q∈M\/(q.1=k/\∃r,q.2=r++[v]/\(r=[]\/(k,r)∈M))
 |[],h=>by
  unfold eI at h;rw[bO.1 h];exact .inr ⟨rfl,[],rfl,.inl rfl⟩
 |p::M,h=>by
  unfold eI at h;split at h
  .rename_i e;rcases bh.1 h with rfl|h
   .exact .inr ⟨rfl,p.2,rfl,.inr (by rw[<-e];exact eC)⟩
   .exact .inl (dR _ h)
  .rcases bh.1 h with rfl|h
   .exact .inl eC
   .rcases vh h with h|⟨h1,r,h2,h3⟩
    .exact .inl (dR _ h)
    .exact .inr ⟨h1,r,h2,h3.imp_right (dR _)⟩
def Eo{v:Int}{k:Nat×Nat}:∀{M:MF},(M.map (·.1)).Nodup->((eI M k v).map (·.1)).Nodup
 |[],_=>by unfold eI;simp
 |p::M,h=>by
  rw[cO,jy]at h;unfold eI;split
  .rename_i e;rw[cO,jy,<-e];exact h
  .rename_i e;rw[cO,jy];refine⟨λhm=> ?_,Eo h.2⟩;obtain⟨q,hq,e2⟩:=cC.1 hm;rcases vh hq with hq|⟨hq,_⟩
   .exact h.1 (cC.2 ⟨q,hq,e2⟩)
   .exact e (e2▸hq)
def ux{vs pts:List Pt}{i:Int}{M:MF}(h:(M.map (·.1)).Nodup):∀j,((dC vs pts i M j).map (·.1)).Nodup
 |0=>h
 |j+1=>by
  unfold dC;split
  .exact Eo (ux h j)
  .exact ux h j
def pW(l:List aB2):∀k,((cS l k).map (·.1)).Nodup
 |0=>List.nodup_nil
 |k+1=>ux (pW l k) _
def yY{vs pts:List Pt}{i:Int}{M:MF}{B:Nat}(h:∀q∈M,q.2.length<=B):∀j,∀q∈dC vs pts i M j,q.2.length<=B+j
 |0=>h
 |j+1=>by
  have ih:=yY (vs:=vs) (pts:=pts) (i:=i) h j;unfold dC;split
  .intro q hq;rcases vh hq with hq|⟨_,r,e,hr⟩
   .have:=ih q hq;omega
   .rw[e,dj,eM];rcases hr with rfl|hr
    .simp only[iH];omega
    .have:=ih _ hr;dsimp only at this;omega
  .intro q hq;have:=ih q hq;omega
def EI(l:List aB2):∀k,∀q∈cS l k,q.2.length<=k*(3*l.length+2)
 |0=>λq hq=>by cases hq
 |k+1=>λq hq=>by
  have h1:=yY (vs:=vsP l) (pts:=bC l k) (i:=(k:Int)) (EI l k) _ q hq;have h2:=ry l k;rw[lJ,nk];omega
def HO{M:MF}(h:(M.map (·.1)).Nodup):EdK (edM M):=by
 intro a ha b hb h1 h2;obtain⟨p,hp,rfl⟩:=cC.1 ha;obtain⟨q,hq,rfl⟩:=cC.1 hb;have e:p.1=q.1:=xz (Int.ofNat.inj h1) (Int.ofNat.inj h2);have key:∀{M:MF},(M.map (·.1)).Nodup->p∈M->q∈M->p=q:=by
  intro M;induction M with
  |nil=>intro _ h;cases h
  |cons r M ih=>
   intro hn hp hq;rw[cO,jy]at hn;rcases bh.1 hp with rfl|_
   .rcases bh.1 hq with rfl|hq
    .rfl
    .exact absurd (cC.2 ⟨q,hq,e.symm⟩) hn.1
   .rename_i hp2;rcases bh.1 hq with rfl|hq
    .exact absurd (show q.1∈M.map (·.1)from cC.2 ⟨p,hp2,e⟩) hn.1
    .exact ih hn.2 hp2 hq
 rw[key h hp hq]
def EdK.perm{a b:List Ed}(h:a.Perm b)(hb:EdK b):EdK a:=λx hx y hy=>hb x (h.mem_iff.1 hx) y (h.mem_iff.1 hy)
def Us{a b:List Ed}(h:a.Perm b)(hb:EdK b):aZ (ltC gc) a=aZ (ltC gc) b:=
 x5 (w8 hb) ((fM _ _).trans h) (pR (w8 (EdK.perm h hb)) a λ_ h=>h)
def fC{l:List Int}{i j:Nat}{v:Int}:aK (l.set i v) j=if i=j/\i<l.length then v else aK l j:=by
 unfold aK;rw[b9,b9,gh];by_cases h:i=j
 .subst h;by_cases h2:i<l.length
  .simp[h2]
  .simp[h2]
 .simp[h]
def iB{l:List Int}{i:Nat}(h:i<l.length):aK l i∈l:=by rw[show aK l i=l[i]from cE h];exact du h
def oH{l:List (List Int)}{i:Nat}(h:i<l.length):aJ l i∈l:=by rw[show aJ l i=l[i]from cE h];exact du h
def zD{l:List (List (List Int))}{i:Nat}(h:i<l.length):ag l i∈l:=by rw[show ag l i=l[i]from cE h];exact du h
def sQ(k:Int)(o c:List Int):∀j,(ofC k o c j).length=o.length
 |0=>rfl
 |j+1=>by unfold ofC;rw[fB,sQ k o c j]
def Gm{k:Int}{o c:List Int}{x:Int}:∀{j},x∈ofC k o c j->x∈o\/x=k
 |0,h=> .inl h
 |j+1,h=>by
  unfold ofC at h;rcases Qa h with h|h
  .exact Gm h
  .exact .inr h
section
variable {p:Pl} (P:PlOk p)
include P
theorem wn:(cyP p aC).length<=2*p.es.length/\∀c∈cyP p aC,0<c.length/\c.length<=2*p.es.length/\∀x∈c,HIn p x:=by obtain⟨_,h2,h3⟩:=sY (q:=aC) P (tD P aC) (2*p.es.length) (bD _);exact⟨h2,h3⟩
omit P in
theorem HW(q:Int->Bool)(L:List (List Int)):∀(f:Nat) (D:List Bool) (h:Int) (c:List Int),c.length<=(cyT p q L f D h c).2.length
 |0,_,_,c=>bD _
 |f+1,D,h,c=>by
  unfold cyT;split
  .have:=HW q L f (D.set h.toNat true) (nxP p L h) (c++[h]);rw[dj,eM]at this;omega
  .exact bD _
omit P in
theorem Vy(q:Int->Bool)(L:List (List Int)):∀k,(cyO p q L k).2.length<=(cyO p q L (k+1)).2.length:=by
 intro k;show _<=(if _ then _ else _:List (List Int)).length;split
 .rw[dj];omega
 .exact bD _
omit P in
theorem Yv(h:0<p.es.length):0<(cyP p aC).length:=by
 have h1:0<(cyO p aC (lvP p aC) 1).2.length:=by
  have e:0<(cyS p aC (lvP p aC) (cyO p aC (lvP p aC) 0).1 0).2.length:=by show 0<(cyT p aC (lvP p aC) ((bT (2*p.es.length) false).count false) (bT (2*p.es.length) false) 0 []).2.length;obtain⟨m,hm⟩:∃m,2*p.es.length=m+1:=⟨2*p.es.length-1,by omega⟩;rw[List.count_replicate_self,hm,wK ⟨by omega,by rw[List.replicate_succ];rfl,rfl⟩];have:=HW (p:=p) aC (lvP p aC) m ((bT (m+1) false).set (0:Int).toNat true) (nxP p (lvP p aC) 0) ([] ++[0]);simp only[pK,eM]at this|-;exact this
  show 0<(if _ then _ else _:List (List Int)).length;rw[if_pos e,dj,eM];omega
 have key:∀k,1<=k->0<(cyO p aC (lvP p aC) k).2.length:=by
  intro k hk;induction k with
  |zero=>omega
  |succ k ih=>
   rcases jT k 1 with h2|h2
   .have:k=0:=by omega
    subst this;exact h1
   .have:=Vy (p:=p) aC (lvP p aC) k;have:=ih h2;omega
 exact key _ (by omega)
omit P in
theorem AB{c:List Int}(hc:0<c.length):∀k,k<=c.length->∃h∈c,fm p c k=stP p h
 |0,_=>⟨_,iB hc,rfl⟩
 |k+1,hk=>by
  obtain⟨h,h1,h2⟩:=AB hc k (by omega);show∃h∈c,min (fm p c k) (stP p (aK c k))=stP p h;rcases Int.le_total (fm p c k) (stP p (aK c k))with g|g
  .exact⟨h,h1,by rw[Int.min_eq_left g,h2]⟩
  .exact⟨aK c k,iB (by omega),by rw[Int.min_eq_right g]⟩
theorem YM{c:List Int}(hc:0<c.length)(h:∀x∈c,HIn p x):0<(aJ (lvP p aC) (bz p c).toNat).length:=by
 obtain⟨x,hx,e⟩:=AB (p:=p) hc c.length (bD _);have hl:=z8 P hc h;have hX:=h x hx;have e2:aJ (lvP p aC) (bz p c).toNat=aZ (ltC (cfH p)) (lvR p aC (bz p c).toNat (2*p.es.length)):=by have:=tE (p:=p) (q:=aC) (k:=p.vs.length) (v:=(bz p c).toNat) (by omega);rw[if_pos (by omega)]at this;exact this
 rw[e2,(fM _ _).length_eq];refine List.length_pos_of_mem (oQ.2 ⟨hX.1,by have:=hX.2;omega,rfl,?_⟩);show stP p x=_;rw[<-e];have:bz p c=fm p c c.length:=rfl;omega
omit P in
theorem I7(q:Pt):∀k,(bwK p q k).1= -1\/(0<=(bwK p q k).1/\(bwK p q k).1<2*k)
 |0=> .inl rfl
 |k+1=>by
  have ih:=I7 q k;show(bwS q (bwE p k) (bwK p q k)).1= -1\/(0<=(bwS q (bwE p k) (bwK p q k)).1/\(bwS q (bwE p k) (bwK p q k)).1<2*((k+1:Nat):Int));have hb:(bwE p k).h=2*k\/(bwE p k).h=2*k+1:=by
   unfold bwE;dsimp only;split
   .exact .inr rfl
   .exact .inl rfl
  unfold bwS;split
  .omega
  .split
   .omega
   .split
    .dsimp only;omega
    .omega
omit P in
theorem I4{q:Pt}(h:0<=bwP p q):HIn p (bwP p q):=by
 rcases I7 (p:=p) q p.es.length with e|e
 .exact absurd h (by show¬0<=(bwK p q p.es.length).1;omega)
 .exact⟨h,e.2⟩
abbrev nC(p:Pl):Nat:=(cyP p aC).length
omit P in
theorem mV(p:Pl):∀k,(ph1 p k).1.length=nC p/\(ph1 p k).2.1.length=2*p.es.length
 |0=>⟨mH,mH⟩
 |k+1=>by
  obtain⟨h1,h2⟩:=mV p k;unfold ph1;split
  .exact⟨by rw[fB];exact h1,by rw[sQ];exact h2⟩
  .exact⟨by rw[fB,fB];exact h1,by rw[sQ];exact h2⟩
structure Ph1I(p:Pl)(k:Nat):Prop where
 f1:1<=(ph1 p k).2.2.length
 f2:(ph1 p k).2.2.length<=k+1
 v1:∀j,j<k->(aK (ph1 p k).1 j= -1/\inP p (aJ (cyP p aC) j) (lvP p aC)=true)\/(1<=aK (ph1 p k).1 j/\aK (ph1 p k).1 j<(ph1 p k).2.2.length)
 v2:∀j,k<=j->aK (ph1 p k).1 j=0
 o:∀x∈(ph1 p k).2.1,x=0\/(0<=x/\x<k)
 r:∀f∈(ph1 p k).2.2,f.length<=1/\∀c∈f,0<c.length
theorem p6:∀k,k<=nC p->Ph1I p k
 |0,_=>by
  refine⟨bD _,bD _,λj h=>by omega,λj _=> ?_,λx hx=> ?_,λf hf=> ?_⟩
  .show(bT (nC p) (0:Int)).getD j 0=0;rw[b9,i9];split<;>rfl
  .exact .inl (List.eq_of_mem_replicate hx)
  .have:f=[] :=bO.1 hf;subst this;exact⟨ce _,λc hc=>by cases hc⟩
 |k+1,hk=>by
  have I:=p6 k (by omega);obtain⟨l1,l2⟩:=mV p k;have l1:(ph1 p k).1.length=(cyP p aC).length:=l1;have hk:k+1<=(cyP p aC).length:=hk;have hc:=(wn P).2 _ (oH (l:=cyP p aC) (i:=k) (by omega));have ho:∀x∈ofC (k:Int) (ph1 p k).2.1 (aJ (cyP p aC) k) (aJ (cyP p aC) k).length,x=0\/(0<=x/\x<((k+1:Nat):Int)):=by
   intro x hx;rcases Gm hx with hx|rfl
   .have:=I.o x hx;omega
   .omega
  by_cases hin:inP p (aJ (cyP p aC) k) (lvP p aC)=true
  .have e:ph1 p (k+1)=((ph1 p k).1.set k (-1),ofC k (ph1 p k).2.1 (aJ (cyP p aC) k) (aJ (cyP p aC) k).length,(ph1 p k).2.2):=by show(if _ then _ else _)=_;rw[if_pos hin]
   refine⟨by rw[e];exact I.f1,by rw[e];have:=I.f2;dsimp only;omega,λj hj=> ?_,λj hj=> ?_,by rw[e];exact ho,by rw[e];exact I.r⟩
   .rw[e];dsimp only;rw[fC];by_cases h:k=j
    .subst h;rw[if_pos ⟨rfl,by omega⟩];exact .inl ⟨rfl,hin⟩
    .rw[if_neg (λh2=>h h2.1)];exact I.v1 j (by omega)
   .rw[e];dsimp only;rw[fC,if_neg (by omega)];exact I.v2 j (by omega)
  .have e:ph1 p (k+1)=(((ph1 p k).1.set k (-1)).set k ((ph1 p k).2.2.length:Int),ofC k (ph1 p k).2.1 (aJ (cyP p aC) k) (aJ (cyP p aC) k).length,(ph1 p k).2.2++[[aJ (cyP p aC) k]]):=by show(if _ then _ else _)=_;rw[if_neg hin]
   have f1:=I.f1;have f2:=I.f2;refine⟨by rw[e];simp,by rw[e];simp only[dj,eM];omega,λj hj=> ?_,λj hj=> ?_,by rw[e];exact ho,λf hf=> ?_⟩
   .rw[e];dsimp only;rw[fC,fC,dj,eM];by_cases h:k=j
    .subst h;rw[if_pos ⟨rfl,by rw[fB];omega⟩];right;omega
    .rw[if_neg (λh2=>h h2.1),if_neg (λh2=>h h2.1)];rcases I.v1 j (by omega)with h3|h3
     .exact .inl h3
     .exact .inr ⟨h3.1,by omega⟩
   .rw[e];dsimp only;rw[fC,fC,if_neg (by omega),if_neg (by omega)];exact I.v2 j (by omega)
   .rw[e]at hf;rcases d7.1 hf with hf|hf
    .exact I.r f hf
    .rw[bO.1 hf];exact⟨bD _,λc h=>by rw[bO.1 h];exact hc.1⟩
end
structure BdOk(l:List aB2):Prop where
 len:l.length<=100
 raw:∀i,i<l.length->∀p∈ae l i l.length,POk p
 pl:PlOk (aA l)
 ord:LvO (aA l) aC
 bel:∀k,k<nC (aA l)->inP (aA l) (aJ (cyP (aA l) aC) k) (lvP (aA l) aC)=true->0<=bwQ (aA l) (aJ (cyP (aA l) aC) k)->
  aK (ph1 (aA l) (nC (aA l))).2.1 (bwQ (aA l) (aJ (cyP (aA l) aC) k)).toNat<k
theorem AI(p:Pl)(o fa c:List Int)(k:Nat):(fdP p o fa c k).length=fa.length:=by
 unfold fdP;split
 .split
  .rw[fB,fB]
  .rw[fB]
 .rfl
structure Ph2I(p:Pl)(k:Nat):Prop where
 l1:(ph2 p k).1.length=nC p
 l2:(ph2 p k).2.length=(ph1 p (nC p)).2.2.length
 v1:∀j,j<k->0<=aK (ph2 p k).1 j/\aK (ph2 p k).1 j<(ph1 p (nC p)).2.2.length
 v2:∀j,k<=j->aK (ph2 p k).1 j=aK (ph1 p (nC p)).1 j
 r:∀f∈(ph2 p k).2,f.length<=k+1/\∀c∈f,0<c.length
structure Ph2S(p:Pl)(k:Nat):Prop where
 h:HIn p (bwQ p (aJ (cyP p aC) k))
 j:0<=aK (ph1 p (nC p)).2.1 (bwQ p (aJ (cyP p aC) k)).toNat
 lt:aK (ph1 p (nC p)).2.1 (bwQ p (aJ (cyP p aC) k)).toNat<k
theorem zC{l:List aB2}(B:BdOk l){k:Nat}(hk:k<nC (aA l))(I:Ph2I (aA l) k)(hn:aK (ph2 (aA l) k).1 k<0)(hb:0<=bwQ (aA l) (aJ (cyP (aA l) aC) k)):Ph2S (aA l) k:=by
 have I1:=p6 B.pl (nC (aA l)) (bD _);rw[I.v2 k (bD _)]at hn;have hin:inP (aA l) (aJ (cyP (aA l) aC) k) (lvP (aA l) aC)=true:=by
  rcases I1.v1 k hk with h|h
  .exact h.2
  .omega
 have h:=I4 hb;refine⟨h,?_,B.bel k hk hin hb⟩;have hl:=(mV (aA l) (nC (aA l))).2;have:=I1.o _ (iB (l:=(ph1 (aA l) (nC (aA l))).2.1) (i:=(bwQ (aA l) (aJ (cyP (aA l) aC) k)).toNat) (by have h1:=h.1;have h2:=h.2;have e:bwQ (aA l) (aJ (cyP (aA l) aC) k)=bwP (aA l) (aP (aA l).vs (bz (aA l) (aJ (cyP (aA l) aC) k)).toNat):=rfl;omega))
 omega
theorem HI{l:List aB2}(B:BdOk l){k:Nat}(hk:k<nC (aA l))(I:Ph2I (aA l) k):
  let fa:=fdP (aA l) (ph1 (aA l) (nC (aA l))).2.1 (ph2 (aA l) k).1 (aJ (cyP (aA l) aC) k) k
  (∀j,j<k+1->0<=aK fa j/\aK fa j<(ph1 (aA l) (nC (aA l))).2.2.length)/\∀j,k+1<=j->aK fa j=aK (ph1 (aA l) (nC (aA l))).1 j:=by
 have I1:=p6 B.pl (nC (aA l)) (bD _);have f1:=I1.f1;have l1:k<(ph2 (aA l) k).1.length:=by rw[I.l1];exact hk
 intro fa;have hfa:fa=fdP (aA l) (ph1 (aA l) (nC (aA l))).2.1 (ph2 (aA l) k).1 (aJ (cyP (aA l) aC) k) k:=rfl;unfold fdP at hfa;by_cases hn:aK (ph2 (aA l) k).1 k<0
 .rw[if_pos hn]at hfa;by_cases hb:0<=bwQ (aA l) (aJ (cyP (aA l) aC) k)
  .rw[if_pos hb]at hfa;have S:=zC B hk I hn hb;have hlt:=S.lt;have hge:=S.j;obtain⟨j0,hj0⟩:=Int.eq_ofNat_of_zero_le hge;rw[hj0]at hfa hlt;have hv:=I.v1 j0 (by omega);have e:aK ((ph2 (aA l) k).1.set k 0) (j0:Int).toNat=aK (ph2 (aA l) k).1 j0:=by rw[fC,if_neg (by omega)];rfl
   have hfa:fa=((ph2 (aA l) k).1.set k 0).set k (aK ((ph2 (aA l) k).1.set k 0) (j0:Int).toNat):=hfa;rw[e]at hfa;constructor
   .intro j hj;rw[hfa,fC,fC];by_cases h:k=j
    .rw[if_pos ⟨h,by rw[fB];exact l1⟩];exact hv
    .rw[if_neg (λh2=>h h2.1),if_neg (λh2=>h h2.1)];exact I.v1 j (by omega)
   .intro j hj;rw[hfa,fC,fC,if_neg (by omega),if_neg (by omega)];exact I.v2 j (by omega)
  .rw[if_neg hb]at hfa;constructor
   .intro j hj;rw[hfa,fC];by_cases h:k=j
    .rw[if_pos ⟨h,l1⟩];omega
    .rw[if_neg (λh2=>h h2.1)];exact I.v1 j (by omega)
   .intro j hj;rw[hfa,fC,if_neg (by omega)];exact I.v2 j (by omega)
 .rw[if_neg hn]at hfa;constructor
  .intro j hj;rw[hfa];by_cases h:k=j
   .subst h;have h2:=I.v2 k (bD _);rcases I1.v1 k hk with h3|h3
    .omega
    .omega
   .exact I.v1 j (by omega)
  .intro j hj;rw[hfa];exact I.v2 j (by omega)
theorem oM{l:List aB2}(B:BdOk l):∀k,k<=nC (aA l)->Ph2I (aA l) k
 |0,_=>by
  have I1:=p6 B.pl (nC (aA l)) (bD _);refine⟨(mV (aA l) _).1,rfl,λj h=>by omega,λj _=>rfl,λf hf=> ?_⟩;have:=I1.r f hf;exact⟨by omega,this.2⟩
 |k+1,hk=>by
  have I:=oM B k (by omega);obtain⟨v1,v2⟩:=HI B (by omega) I;have hc:=(wn B.pl).2 _ (oH (l:=cyP (aA l) aC) (i:=k) hk);by_cases ho:ouP (ph2 (aA l) k).1 (ph2 (aA l) k).2 (aJ (cyP (aA l) aC) k) k=true
  .have e:ph2 (aA l) (k+1)=(fdP (aA l) (ph1 (aA l) (nC (aA l))).2.1 (ph2 (aA l) k).1 (aJ (cyP (aA l) aC) k) k,(ph2 (aA l) k).2):=by show(if _ then _ else _)=_;rw[if_pos ho]
   exact⟨by rw[e];dsimp only;rw[AI];exact I.l1,by rw[e];exact I.l2,by rw[e];exact v1,by rw[e];exact v2,by rw[e];intro f hf;have:=I.r f hf;exact⟨by omega,this.2⟩⟩
  .have e:ph2 (aA l) (k+1)=(fdP (aA l) (ph1 (aA l) (nC (aA l))).2.1 (ph2 (aA l) k).1 (aJ (cyP (aA l) aC) k) k,(ph2 (aA l) k).2.set (aK (fdP (aA l) (ph1 (aA l) (nC (aA l))).2.1 (ph2 (aA l) k).1 (aJ (cyP (aA l) aC) k) k) k).toNat
     (ag (ph2 (aA l) k).2 (aK (fdP (aA l) (ph1 (aA l) (nC (aA l))).2.1 (ph2 (aA l) k).1 (aJ (cyP (aA l) aC) k) k) k).toNat++[aJ (cyP (aA l) aC) k])):=by
    show(if _ then _ else _)=_;rw[if_neg ho]
   refine⟨by rw[e];dsimp only;rw[AI];exact I.l1,by rw[e];dsimp only;rw[fB];exact I.l2,by rw[e];exact v1,by rw[e];exact v2,?_⟩;rw[e];intro f hf;dsimp only at hf;rcases Qa hf with hf|rfl
   .have:=I.r f hf;exact⟨by omega,this.2⟩
   .have hv:=v1 k (by omega);have hr:=I.r _ (zD (l:=(ph2 (aA l) k).2) (i:=(aK (fdP (aA l) (ph1 (aA l) (nC (aA l))).2.1 (ph2 (aA l) k).1 (aJ (cyP (aA l) aC) k) k) k).toNat) (by rw[I.l2];omega));refine⟨by rw[dj,eM];omega,λc hcm=> ?_⟩;rcases d7.1 hcm with hcm|hcm
    .exact hr.2 c hcm
    .rw[bO.1 hcm];exact hc.1
theorem sO(p:Pl)(o fa:List Int):∀e,(ph3 p o fa e).length=p.es.length
 |0=>rfl
 |e+1=>by unfold ph3;rw[fB,sO p o fa e]
theorem Wr{L:List Ed}{x:Nat}{a b:Int}(h:x<L.length):(L.set x (⟨(aX L x).fr,(aX L x).to,a,(aX L x).rt,(aX L x).src⟩:Ed)).set x (⟨(aX (L.set x (⟨(aX L x).fr,(aX L x).to,a,(aX L x).rt,(aX L x).src⟩:Ed)) x).fr,(aX (L.set x (⟨(aX L x).fr,(aX L x).to,a,(aX L x).rt,(aX L x).src⟩:Ed)) x).to,(aX (L.set x (⟨(aX L x).fr,(aX L x).to,a,(aX L x).rt,(aX L x).src⟩:Ed)) x).lf,b,(aX (L.set x (⟨(aX L x).fr,(aX L x).to,a,(aX L x).rt,(aX L x).src⟩:Ed)) x).src⟩:Ed)=L.set x {aX L x with lf:=a,rt:=b}:=by
 have e:∀v:Ed,aX (L.set x v) x=v:=by intro v;unfold aX;rw[b9,gh,if_pos rfl,if_pos h];rfl
 rw[e,List.set_set]
theorem AR{l:List aB2}(h:eV l≠0):aU l=⟨[],[],[],[]⟩:=if_neg h
theorem Fg{vs pts:List Pt}{j:Nat}:0<=fX vs pts j↔1<=j:=by
 unfold fX;split
 .rename_i h;exact⟨λ_=>h,λ_=>xy _⟩
 .rename_i h;exact⟨λh2=>by omega,λh2=>absurd h2 h⟩
theorem GS{vs pts:List Pt}{i:Int}{M:MF}{j:Nat}(h:1<=j):eI (dC vs pts i M j) ((fX vs pts j).toNat,ptX (aP pts j) vs) i=dC vs pts i M (j+1):=by
 have e:(fX vs pts j).toNat=ptX (aP pts (j-1)) vs:=by unfold fX;rw[if_pos h];rfl
 rw[e];exact(if_pos h).symm
theorem WV{vs pts:List Pt}{i:Int}{M:MF}{j:Nat}(h:¬1<=j):dC vs pts i M j=dC vs pts i M (j+1):=(if_neg h).symm
theorem Sh{vs pts:List Pt}{j:Nat}:(ptX (aP pts j) vs:Int)=fX vs pts (j+1):=by unfold fX;rw[if_pos (by omega)];rfl
theorem Xr{l:List aB2}(B:BdOk l):∀v∈vsP l,POk v:=by intro v hv;obtain⟨i,h1,h2⟩:=zi ((fM _ _).mem_iff.1 (vE _ v hv));exact B.raw i h1 v (zB h2)
theorem Ao{a n:Nat}(h1:a<=100)(h2:n<=100):a*(3*n+2)<=30200:=by have:a*(3*n+2)<=100*(3*n+2):=Nat.mul_le_mul_right _ h1;omega
theorem Dt{α:Type}:∀{M:List α} {i:Nat} {q:α},M[i]? =some q->(q::M.eraseIdx i).Perm M
 |[],_,_,h=>by simp at h
 |p::M,0,q,h=>by simp at h;subst h;exact uH _
 |p::M,i+1,q,h=>(List.Perm.swap p q _).trans ((Dt (M:=M) (i:=i) (by simpa using h)).cons p)
theorem UG{M:MF}{i:Nat}{q:(Nat×Nat)×List Int}(h:M[i]? =some q)(E:List Ed):(E++[(⟨(q.1.1:Int),(q.1.2:Int),0,0,q.2⟩:Ed)] ++edM (M.eraseIdx i)).Perm (E++edM M):=by have h2:=(Dt h).map λq:(Nat×Nat)×List Int=>(⟨q.1.1,q.1.2,0,0,q.2⟩:Ed);rw[cO]at h2;rw[jz];exact List.Perm.append_left E h2
theorem AJ(l:List aB2):(edM (cS l l.length)).length=(esP l).length:=((fM _ _).length_eq).symm
theorem PlOk.fs{p:Pl}(P:PlOk p)(fs:List (List (List Int))):PlOk ⟨p.sg,p.vs,p.es,fs⟩:=⟨P.ls,P.lv,P.le,P.fr,P.src,P.bd,P.pt⟩
theorem LvIn.fs{p:Pl}{L:List (List Int)}(V:LvIn p L)(fs:List (List (List Int))):LvIn ⟨p.sg,p.vs,p.es,fs⟩ L:=⟨V.len,V.row⟩
theorem G2(p:Pl)(fs:List (List (List Int)))(c:List Int):∀k,fm ⟨p.sg,p.vs,p.es,fs⟩ c k=fm p c k
 |0=>rfl
 |k+1=>by
  show min (fm ⟨p.sg,p.vs,p.es,fs⟩ c k) (stP ⟨p.sg,p.vs,p.es,fs⟩ (aK c k))=min (fm p c k) (stP p (aK c k));rw[G2 p fs c k];rfl
theorem AA(p:Pl)(fs:List (List (List Int)))(c:List Int):bz ⟨p.sg,p.vs,p.es,fs⟩ c=bz p c:=G2 p fs c _
theorem YP(p:Pl)(fs:List (List (List Int)))(c:List Int)(L:List (List Int)):inP ⟨p.sg,p.vs,p.es,fs⟩ c L=inP p c L:=by unfold inP;rw[AA];rfl
theorem I8(p:Pl)(fs:List (List (List Int)))(q:Pt):∀k,bwK ⟨p.sg,p.vs,p.es,fs⟩ q k=bwK p q k
 |0=>rfl
 |k+1=>by
  show bwS q (bwE ⟨p.sg,p.vs,p.es,fs⟩ k) (bwK ⟨p.sg,p.vs,p.es,fs⟩ q k)=bwS q (bwE p k) (bwK p q k);rw[I8 p fs q k];rfl
theorem Ym(p:Pl)(fs:List (List (List Int)))(q:Pt):bwP ⟨p.sg,p.vs,p.es,fs⟩ q=bwP p q:=by unfold bwP;rw[I8]
theorem Oj(l:List (List (List Int)))(i:Nat):cV l i [] =ag l i:=rfl
structure PlS(p:Pl):Prop where
 ok:PlOk p
 f:PlF p
def PlS.ed{p:Pl}(h:PlS p){e:Ed}(he:e∈p.es):EdIn p e:=by have h1:=h.ok.fr e he;exact⟨⟨h1.1,h1.2.1⟩,⟨h1.2.2.1,h1.2.2.2⟩,(h.ok.src e he).2,(h.f.ed e he).2.2.2.2⟩
def sP{n m:Int}(h:0<=n/\n<m):cT n m=false:=by unfold cT;simp;omega
def JK{l:List Int}{m:Int}(h:∀x∈l,0<=x/\x<m):(l.any λn=>cT n m)=false:=by rw[List.any_eq_false];intro x hx;rw[sP (h x hx)];decide
noncomputable def Zq:Con:=CP (ac (aL .I) (a1 Bs)) (λ(l,_)=>[l.length<=1000000]) (λ(l,c)=> .bool (l.any λn=>cT n c.2.1.sg.length)) (ac (aL .I) (a1 Br)) (λ(l,c)=>[l.length<=1000000,PlOk c.2.1]) (λ(l,c)=> .bool (l.any λn=>cT n (2*(c.2.1.es.length:Int))))
noncomputable def Kn:Tab:=aq [(134,Zq)] MX
def H5:Kn.Ok aH:=au Yy ⟨Hc LX ZT,trivial⟩
def qq(p:Pl)(h:Int):Int:=if h.tmod 2=0 then(aX p.es (h.tdiv 2).toNat).lf else(aX p.es (h.tdiv 2).toNat).rt
def gP(p:Pl)(v:V):Int×Int:=
 if bS v 4000=false\/p.fs.length=0 then(0,0)
 else if 0<=fI (λu=>decide (bQ v=u)) p.vs then(1,fI (λu=>decide (bQ v=u)) p.vs)
 else if 0<=fI (λe=>btP p v e) p.es then(2,fI (λe=>btP p v e) p.es)
 else if bwP p (bQ v)<0 then(3,0)
 else(3,qq p (bwP p (bQ v)))
def X8{v:V}(hv:bd 4000 v):QOk (bQ v):=by unfold bd at hv;refine⟨⟨Int.le_refl 1,by show(1:Int)<=33000000;omega⟩,?_,?_⟩<;>(show _<=_/\_<=_)<;>(unfold bQ;dsimp only;omega)
noncomputable def O3:Con:=con (a1 aPl) (λp=>[PlS p]) (λ_=> .bool true)
def aAC:O3.Ok aH 70:=bA (a7 H5) (raw:=aw) (λp=>[cnt 3 14 p.es.length λ_=>True,cnt 10 69 p.fs.length (λ_=>True) λk=>[cnt 13 76 (ag p.fs k).length λ_=>True]]
  ) (λ_=>⟨_,rfl⟩) λp hp=>az (q:=(0=(0:Int)/\(0:Nat)<=p.es.length/\True)/\
 (∀x:Nat,x<=p.es.length/\True->((x:Int)<p.es.length->ix (x:Int) p.es.length/\(cT (aX p.es x).fr (p.vs.length:Int)=true->false=true)/\
   (cT (aX p.es x).fr (p.vs.length:Int)=false->(cT (aX p.es x).to (p.vs.length:Int)=true->false=true)/\
    (cT (aX p.es x).to (p.vs.length:Int)=false->(cT (aX p.es x).lf (p.fs.length:Int)=true->false=true)/\
     (cT (aX p.es x).lf (p.fs.length:Int)=false->(cT (aX p.es x).rt (p.fs.length:Int)=true->false=true)/\
      (cT (aX p.es x).rt (p.fs.length:Int)=false->(((aX p.es x).src.length:Int)=0->false=true)/\
       (¬((aX p.es x).src.length:Int)=0->(aX p.es x).src.length<=1000000/\(ig (aX p.es x).src (λn=>cT n (p.sg.length:Int))=true->false=true)/\
        (ig (aX p.es x).src (λn=>cT n (p.sg.length:Int))=false->aG ((x:Int)+1)/\(x:Int)+1=((x+1:Nat):Int)/\x+1<=p.es.length/\True/\p.es.length-(x+1)<p.es.length-x)))))))/\
  (¬(x:Int)<p.es.length->(0=(0:Int)/\(0:Nat)<=p.fs.length/\True)/\
   (∀x_1:Nat,x_1<=p.fs.length/\True->((x_1:Int)<p.fs.length->ix (x_1:Int) p.fs.length/\(0=(0:Int)/\(0:Nat)<=(ag p.fs x_1).length/\True)/\
     (∀x_2:Nat,x_2<=(ag p.fs x_1).length/\True->((x_2:Int)<(ag p.fs x_1).length->ix (x_2:Int) (ag p.fs x_1).length/\(aJ (ag p.fs x_1) x_2).length<=1000000/\PlOk p/\(ig (aJ (ag p.fs x_1) x_2) (λn=>cT n (2*(p.es.length:Int)))=true->false=true)/\
       (ig (aJ (ag p.fs x_1) x_2) (λn=>cT n (2*(p.es.length:Int)))=false->aG ((x_2:Int)+1)/\(x_2:Int)+1=((x_2+1:Nat):Int)/\x_2+1<=(ag p.fs x_1).length/\True/\(ag p.fs x_1).length-(x_2+1)<(ag p.fs x_1).length-x_2))/\
      (¬(x_2:Int)<(ag p.fs x_1).length->aG ((x_1:Int)+1)/\(x_1:Int)+1=((x_1+1:Nat):Int)/\x_1+1<=p.fs.length/\True/\p.fs.length-(x_1+1)<p.fs.length-x_1)))/\
    (¬(x_1:Int)<p.fs.length->true=true))))) (by kernel_rfl) (by
  change PlS p at hp;have h0:=hp.ok;have hl:=h0.le;have hs:=h0.ls;have hf:=hp.f.lf;refine⟨⟨rfl,ce _,trivial⟩,λx hx=>⟨λhlt=> ?_,λhge=>⟨⟨rfl,ce _,trivial⟩,λy hy=>⟨λhlt=>⟨by unfold ix;omega,⟨rfl,ce _,trivial⟩,λz hz=>⟨λhlt2=> ?_,λhge2=>⟨by unfold aG;omega,by omega,by omega,trivial,by omega⟩⟩⟩,λhge2=>rfl⟩⟩⟩⟩
  .have hm:aX p.es x∈p.es:=by rw[show aX p.es x=p.es[x]'(by omega)from cE (by omega)];exact du _
   have E:=hp.ed hm;have E2:=hp.f.ed _ hm;rw[sP E.fr,sP E.to,sP ⟨E2.1,E2.2.1⟩,sP ⟨E2.2.2.1,E2.2.2.2.1⟩,JK E.src];have E3:=(h0.src _ hm).1;exact⟨by unfold ix;omega,λh=>h,λ_=>⟨λh=>h,λ_=>⟨λh=>h,λ_=>⟨λh=>h,λ_=>⟨λh=>by omega,λ_=>⟨E.len,λh=>h,λ_=>⟨by unfold aG;omega,by omega,by omega,trivial,by omega⟩⟩⟩⟩⟩⟩⟩
  .have hm:ag p.fs y∈p.fs:=by rw[show ag p.fs y=p.fs[y]'(by omega)from cE (by omega)];exact du _
   have F:=hp.f.fc _ hm;have hm2:aJ (ag p.fs y) z∈ag p.fs y:=by rw[show aJ (ag p.fs y) z=(ag p.fs y)[z]'(by omega)from cE (by omega)];exact du _
   have F2:=F.2 _ hm2;rw[JK F2.2];exact⟨by unfold ix;omega,F2.1,h0,λh=>h,λ_=>⟨by unfold aG;omega,by omega,by omega,trivial,by omega⟩⟩)
noncomputable def Mo:Tab:=aq [(70,O3)] Kn
def Jb:Mo.Ok aH:=au H5 ⟨aAC,trivial⟩
noncomputable def PG:Con:=con (ac aPl (a1 aV)) (λ(p,_)=>[PlS p]) (λ(p,v)=> .tup [.int .i64 (gP p v).1,.int .i64 (gP p v).2]
 )
def aAM:PG.Ok aH 22:=bA (a7 Jb) (raw:=aw) (λ(_,_)=>[]) (λ(_,_)=>⟨_,rfl⟩) λ(p,v) hp=>az (q:=(0:Int)<=4000/\(4000:Int)<=9000000000000000000/\((!bS v 4000)=true->0=(gP p v).1/\0=(gP p v).2)/\
 ((!bS v 4000)=false->PlS p/\((!true)=true->0=(gP p v).1/\0=(gP p v).2)/\
  ((!true)=false->((p.fs.length:Int)=0->0=(gP p v).1/\0=(gP p v).2)/\
   (¬(p.fs.length:Int)=0->p.vs.length<=1000000/\(0<=fI (λu=>decide ((bQ v)=u)) p.vs->1=(gP p v).1/\fI (λu=>decide ((bQ v)=u)) p.vs=(gP p v).2)/\
    (¬0<=fI (λu=>decide ((bQ v)=u)) p.vs->p.es.length<=1000000/\PlOk p/\(∀e:Ed,e∈p.es->EdIn p e)/\bd 4000 v/\(0<=fI (λe=>btP p v e) p.es->2=(gP p v).1/\fI (λe=>btP p v e) p.es=(gP p v).2)/\
     (¬0<=fI (λe=>btP p v e) p.es->PlOk p/\QOk (bQ v)/\(bwP p (bQ v)<0->3=(gP p v).1/\0=(gP p v).2)/\
      (¬bwP p (bQ v)<0->(2:Int)≠0/\(dI (bwP p (bQ v)) 2=0->(2:Int)≠0/\aG (bg (bwP p (bQ v)) 2)/\ix (bg (bwP p (bQ v)) 2) p.es.length/\3=(gP p v).1/\(aX p.es (bg (bwP p (bQ v)) 2).toNat).lf=(gP p v).2)/\
       (¬dI (bwP p (bQ v)) 2=0->(2:Int)≠0/\aG (bg (bwP p (bQ v)) 2)/\ix (bg (bwP p (bQ v)) 2) p.es.length/\3=(gP p v).1/\(aX p.es (bg (bwP p (bQ v)) 2).toNat).rt=(gP p v).2)))))))) (by kernel_rfl) (by
  change PlS p at hp;have h0:=hp.ok;have hl:=h0.le;have hlv:=h0.lv;have hf:=hp.f.lf;unfold gP;refine⟨by decide,by decide,λhw=> ?_,λhw=>cl hp (cl (λh=>nomatch h) (λ_=>cl (λhz=> ?_) (λhz=> ?_)))⟩
  .have hw:bS v 4000=false:=by simpa using hw
   rw[if_pos (.inl hw)];exact⟨rfl,rfl⟩
  .rw[if_pos (.inr (by omega))];exact⟨rfl,rfl⟩
  .have hw:bS v 4000=true:=by simpa using hw
   have hv:bd 4000 v:=tg hw;have hq:=X8 hv
   rw[if_neg (by rw[hw];intro h;rcases h with h|h; · cases h
                 .omega)]
   refine⟨by omega,λh1=>by rw[if_pos h1];exact⟨rfl,rfl⟩,λh1=>⟨by omega,h0,λe he=>hp.ed he,hv,λh2=>by rw[if_neg h1,if_pos h2];exact⟨rfl,rfl⟩,λh2=>⟨h0,hq,λh3=>by rw[if_neg h1,if_neg h2,if_pos h3];exact⟨rfl,rfl⟩,λh3=> ?_⟩⟩⟩;have H:=I4 (p:=p) (q:=bQ v) (by omega);have He:=H.e;rw[if_neg h1,if_neg h2,if_neg h3];unfold qq;refine⟨by decide,λh4=> ?_,λh4=> ?_⟩
   .rw[if_pos h4];exact⟨by decide,by unfold aG;omega,by unfold ix;omega,rfl,rfl⟩
   .rw[if_neg h4];exact⟨by decide,by unfold aG;omega,by unfold ix;omega,rfl,rfl⟩)
noncomputable def ND:Tab:=aq [(22,PG)] Mo
def Jn:ND.Ok aH:=au Jb ⟨aAM,trivial⟩
noncomputable section
def Zk(N:Nat)(a b a' b':Int)(w:World):Sem.run aH (Op.equalIn (N+1+1) 71 (.agg #[.int .i64 a,.int .i64 b]) (.agg #[.int .i64 a',.int .i64 b'])) w= .ok (a==a'&&b==b') w:=by
 have hS:aH.underlying 71=some (.struct (aH.fieldsOf 71)):=by kernel_rfl
 have hp:aH.stoodInHeld 71=false:=by kernel_rfl
 rw[run_equalIn_agg w (N+1) 71 _ _ hS hp];simp only[Program.fieldsOf,Tryz.underlying71]
 go_simp
 grind
def Vs:og aH 71 2:=by
 intro xs ys x y w hx hy;match xs,ys,hx,hy with
 |[a,b],[a',b'],_,_=>
  have h1:=Zk 9998 a b a' b' w;have e:(([a,b] :List Int)==[a',b'])=(a==a'&&b==b'):=by rw[Bool.eq_iff_iff];simp
  refine⟨?_,?_⟩
  .simp only[eqGuard,bk];simp[Result.andThen];rw[run_eql_struct,h1];simp_all
  .unfold bne;rw[e];simp[eqGuard];rw[run_neq_struct,h1];simp_all
def cxW(T:Tab):Cx:=⟨aH,T,ltL [(53,.V),(57,.S),(64,.R),(3,.I),(2,.I),(1,.I),(4,.B),(60,.T),(25,.U),(45,.E),(49,.F),(43,.Q),(71,.V),(77,.E),(114,.F)],[(53,2),(57,4),(60,3),(71,2)],λ_=>false,λ_=>false⟩
def Zp(T:Tab):(cxW T).q.Ok aH:=λt m hm=>by
 rcases bh.1 hm with h|hm
 .cases h;exact Fy
 rcases bh.1 hm with h|hm
 .cases h;exact Fx
 rcases bh.1 hm with h|h
 .cases h;exact Fw
 .rw[bO]at h;cases h;exact Vs
def qJ{T:Tab}(h:T.Ok aH):(cxW T).Ok:=⟨h,Zp T,λt ht=>by cases ht⟩
end
def eA(p:Pl)(h:Int):Int×Int:=if h.tmod 2=0 then((aX p.es (h.tdiv 2).toNat).fr,(aX p.es (h.tdiv 2).toNat).to)else((aX p.es (h.tdiv 2).toNat).to,(aX p.es (h.tdiv 2).toNat).fr)
noncomputable def P8:Con:=con (a1 (aL .S)) (λ_=>[]) (λl=> .bool (decide (l.length<=24))
 )
def aBA:P8.Ok aH 12:=bA (qJ Jn) (raw:=aw) (λ_=>[]) (λ_=>⟨_,rfl⟩) λl _=>az (q:=decide ((l.length:Int)<=24)=decide (l.length<=24)) (by kernel_rfl) (by
 by_cases h:l.length<=24
 .rw[decide_eq_true h,decide_eq_true (by omega)]
 .rw[decide_eq_false h,decide_eq_false (by omega)])
noncomputable def OB:Tab:=aq [(12,P8)] ND
def Kr:OB.Ok aH:=au Jn ⟨aBA,trivial⟩
noncomputable def O4:Con:=con (ac aPl (a1 aI)) (λ(p,h)=>[HIn p h,p.es.length<=1000000]) (λ(p,h)=> .tup [.int .i64 (eA p h).1,.int .i64 (eA p h).2]
 )
def aAD:O4.Ok aH 67:=bA (qJ Kr) (raw:=aw) (λ(_,_)=>[]) (λ(_,_)=>⟨_,rfl⟩) λ(p,h) hp=>az (q:=(2:Int)≠0/\aG (bg h 2)/\ix (bg h 2) p.es.length/\(2:Int)≠0/\(dI h 2=0->(aX p.es (bg h 2).toNat).fr=(eA p h).1/\(aX p.es (bg h 2).toNat).to=(eA p h).2)/\
 (¬dI h 2=0->(aX p.es (bg h 2).toNat).to=(eA p h).1/\(aX p.es (bg h 2).toNat).fr=(eA p h).2)) (by kernel_rfl) (by
  change HIn p h/\p.es.length<=1000000 at hp;obtain⟨H,hl⟩:=hp;have He:=H.e;unfold eA;refine⟨by decide,by unfold aG;omega,by unfold ix;omega,by decide,λh1=> ?_,λh1=> ?_⟩
  .rw[if_pos h1];exact⟨rfl,rfl⟩
  .rw[if_neg h1];exact⟨rfl,rfl⟩)
noncomputable def Mq:Tab:=aq [(67,O4)] OB
def Jc:Mq.Ok aH:=au Kr ⟨aAD,trivial⟩
noncomputable def PU:Con:=con (ac aPl (a1 aI)) (λ(p,h)=>[HIn p h,p.es.length<=1000000]) (λ(p,h)=> .tup [.int .i64 (eA p h).1,.int .i64 (eA p h).2]
 )
def aA0:PU.Ok aH 19:=bA (qJ Jc) (raw:=aw) (λ(_,_)=>[]) (λ(_,_)=>⟨_,rfl⟩) λ(p,h) hp=>az (q:=HIn p h/\p.es.length<=1000000/\(eA p h).1=(eA p h).1/\(eA p h).2=(eA p h).2) (by kernel_rfl) (by change HIn p h/\p.es.length<=1000000 at hp;exact⟨hp.1,hp.2,rfl,rfl⟩)
noncomputable def NS:Tab:=aq [(19,PU)] Mq
def J5:NS.Ok aH:=au Jc ⟨aA0,trivial⟩
noncomputable def Pg:Con:=con (a1 aPl) (λp=>[p.es.length<=1000000,p.fs.length<=1000000]) (λp=> .agg [.lst .S p.sg,.lst .T p.vs,.lst .E p.es,.lst .F p.fs])
def aBb:Pg.Ok aH 16:=bA (qJ J5) (raw:=aw) (λp=>[lp 3 16 p.es.length (λ_=>[]) [901] (λ_=>[]) (λk=>[(7,.box 36 [.lst .S p.sg,.lst .T p.vs,.own 901 .E (p.es.take k).length,.nil]),(901,.row 77 .E (p.es.take k))]),
  lp 8 30 p.fs.length (λ_=>[]) [990] (λ_=>[]) (λk=>[(7,.box 36 [.lst .S p.sg,.lst .T p.vs,.own 901 .E p.es.length,.own 990 .F (p.fs.take k).length]),(990,.row 114 .F (p.fs.take k))])]
  ) (λ_=>⟨_,rfl⟩) λp hp=>az (q:=(0=(0:Int)/\p.sg=p.sg/\p.vs=p.vs/\(bM 0 p.es).length=0/\bM 0 p.es=([] :List Ed)/\(0:Nat)<=p.es.length)/\
 (∀x:Nat,x<=p.es.length->((x:Int)<p.es.length->ix (x:Int) p.es.length/\(bM x p.es).length=(bM x p.es).length/\(bM x p.es).length+[(aX p.es x)].length<=1000000/\aG ((x:Int)+1)/\(x:Int)+1=((x+1:Nat):Int)/\p.sg=p.sg/\p.vs=p.vs/\(bM x p.es++[(aX p.es x)]).length=(bM (x+1) p.es).length/\bM x p.es++[(aX p.es x)] =bM (x+1) p.es/\x+1<=p.es.length/\p.es.length-(x+1)<p.es.length-x)/\
  (¬(x:Int)<p.es.length->(0=(0:Int)/\p.sg=p.sg/\p.vs=p.vs/\(bM x p.es).length=p.es.length/\(bM 0 p.fs).length=0/\bM 0 p.fs=([] :List (List (List Int)))/\(0:Nat)<=p.fs.length)/\
   (∀x_1:Nat,x_1<=p.fs.length->((x_1:Int)<p.fs.length->ix (x_1:Int) p.fs.length/\(bM x_1 p.fs).length=(bM x_1 p.fs).length/\(bM x_1 p.fs).length+[ag p.fs x_1].length<=1000000/\aG ((x_1:Int)+1)/\(x_1:Int)+1=((x_1+1:Nat):Int)/\p.sg=p.sg/\p.vs=p.vs/\p.es.length=p.es.length/\(bM x_1 p.fs++[ag p.fs x_1]).length=(bM (x_1+1) p.fs).length/\bM x_1 p.fs++[ag p.fs x_1] =bM (x_1+1) p.fs/\x_1+1<=p.fs.length/\p.fs.length-(x_1+1)<p.fs.length-x_1)/\
    (¬(x_1:Int)<p.fs.length->p.es.length=(bM x p.es).length/\(bM x_1 p.fs).length=(bM x_1 p.fs).length/\p.sg=p.sg/\p.vs=p.vs/\bM x p.es=p.es/\bM x_1 p.fs=p.fs))))) (by kernel_rfl) (by
  change p.es.length<=1000000/\p.fs.length<=1000000 at hp;obtain⟨hl,hf⟩:=hp;have te:∀{x},x<p.es.length->p.es.take x++[aX p.es x] =p.es.take (x+1):=λ{x} hx=>by rw[show aX p.es x=p.es[x]from cE hx,ug hx]
  have tf:∀{x},x<p.fs.length->p.fs.take x++[ag p.fs x] =p.fs.take (x+1):=λ{x} hx=>by rw[show ag p.fs x=p.fs[x]from cE hx,ug hx]
  refine⟨⟨rfl,rfl,rfl,rfl,rfl,ce _⟩,λx hx=>⟨λh=> ?_,λh=>⟨⟨rfl,rfl,rfl,?_,rfl,rfl,ce _⟩,λy hy=>⟨λh2=> ?_,λh2=> ?_⟩⟩⟩⟩
  .have e:=te (x:=x) (by omega);have e2:(p.es.take x).length=x:=by rw[fS];omega
   exact⟨by unfold ix;omega,rfl,by rw[e2,eM];omega,by unfold aG;omega,by omega,rfl,rfl,by rw[e],e,by omega,by omega⟩
  .rw[fS];omega
  .have e:=tf (x:=y) (by omega);have e2:(p.fs.take y).length=y:=by rw[fS];omega
   exact⟨by unfold ix;omega,rfl,by rw[e2,eM];omega,by unfold aG;omega,by omega,rfl,rfl,rfl,by rw[e],e,by omega,by omega⟩
  .obtain rfl:x=p.es.length:=by omega
   obtain rfl:y=p.fs.length:=by omega
   rw[iM,iM];exact⟨rfl,rfl,rfl,rfl,rfl,rfl⟩)
noncomputable def Nf:Tab:=aq [(16,Pg)] NS
def Y4:Nf.Ok aH:=au J5 ⟨aBb,trivial⟩
structure Q2 where
 x:Rat
 y:Rat
def Q2.ext'{a b:Q2}(h1:a.x=b.x)(h2:a.y=b.y):a=b:=by cases a;cases b;simp_all
def rv(v:V):Q2:=⟨v.x,v.y⟩
def rp(p:Pt):Q2:=⟨p.x/p.den,p.y/p.den⟩
def onQ(a b c:Q2):Prop:=∃t:Rat,0<=t/\t<=1/\c.x=a.x+t*(b.x-a.x)/\c.y=a.y+t*(b.y-a.y)
def onG(s:S)(c:Q2):Prop:=onQ (rv s.a) (rv s.b) c
structure SgOk(s:S):Prop where
 ne:s.a≠s.b
 a:bd 2000 s.a
 b:bd 2000 s.b
def sz{v w:V}(h:rv v=rv w):v=w:=by
 unfold rv at h;injection h with h1 h2
 have h1:v.x=w.x:=by exact_mod_cast h1
 have h2:v.y=w.y:=by exact_mod_cast h2
 cases v;cases w;simp_all
def D8{a b c d:Rat}(hb:0<b)(hd:0<d):a/b=c/d↔a*d=c*b:=by
 have hb:b≠0:=λh=>by rw[h]at hb;exact Rat.lt_irrefl hb
 have hd:d≠0:=λh=>by rw[h]at hd;exact Rat.lt_irrefl hd
 constructor<;>intro h<;>grind
def uw{a b c d:Rat}(hb:0<b)(hd:0<d):a/b<c/d↔a*d<c*b:=by
 have hd':d≠0:=λh=>by rw[h]at hd;exact Rat.lt_irrefl hd
 rw[Rat.div_lt_iff hb];have e:c/d*b=c*b/d:=by grind
 rw[e];constructor
 .intro h;have:=Rat.mul_lt_mul_of_pos_right h hd;have e:c*b/d*d=c*b:=by grind
  rwa[e]at this
 .intro h;have k:a*d<c*b/d*d:=by
   have e:c*b/d*d=c*b:=by grind
   rw[e];exact h
  exact Rat.lt_of_mul_lt_mul_right k (Rat.le_of_lt hd)
def ltQ(a b:Q2):Prop:=a.y<b.y\/(a.y=b.y/\a.x<b.x)
def GA{p q:Pt}(hp:0<p.den)(hq:0<q.den):aW p q<0↔ltQ (rp p) (rp q):=by
 have hp':(0:Rat)<p.den:=by exact_mod_cast hp
 have hq':(0:Rat)<q.den:=by exact_mod_cast hq
 rw[oU];unfold ltQ rp;dsimp only;rw[uw hp' hq',uw hp' hq',D8 hp' hq'];have e1:p.y*q.den<q.y*p.den↔(p.y:Rat)*q.den<q.y*p.den:=by exact_mod_cast ns
 have e2:p.x*q.den<q.x*p.den↔(p.x:Rat)*q.den<q.x*p.den:=by exact_mod_cast ns
 have e3:p.y*q.den=q.y*p.den↔(p.y:Rat)*q.den=q.y*p.den:=by exact_mod_cast ns
 rw[e1,e2,e3]
def IL{p q:Pt}(hp:POk p)(hq:POk q)(h:rp p=rp q):p=q:=by
 have dp:=hp.den;have dq:=hq.den;have hp':(0:Rat)<p.den:=by exact_mod_cast (show(0:Int)<p.den by omega)
 have hq':(0:Rat)<q.den:=by exact_mod_cast (show(0:Int)<q.den by omega)
 refine hp.eq hq (yw.2 ?_);unfold rp at h;injection h with h1 h2
 rw[D8 hp' hq']at h1 h2;exact⟨by exact_mod_cast h2,by exact_mod_cast h1⟩
def jd(v:V):rp (bQ v)=rv v:=by unfold rp bQ rv;refine Q2.ext' ?_ ?_<;>grind
def lP{a b c:Q2}(h1:ltQ a b)(h2:ltQ b c):ltQ a c:=by unfold ltQ at*;grind
def io{a:Q2}:¬ltQ a a:=by unfold ltQ;grind
def sV(a b:Q2):ltQ a b\/a=b\/ltQ b a:=by
 by_cases h:a=b
 .exact .inr (.inl h)
 .have:¬(a.x=b.x/\a.y=b.y):=λh2=>h (Q2.ext' h2.1 h2.2);unfold ltQ;grind
def rD(s t:S):Rat:=((s.b.x:Rat)-s.a.x)*(t.b.y-t.a.y)-(s.b.y-s.a.y)*(t.b.x-t.a.x)
def rA(s t:S):Rat:=((t.a.x:Rat)-s.a.x)*(t.b.y-t.a.y)-(t.a.y-s.a.y)*(t.b.x-t.a.x)
def rB(s t:S):Rat:=((t.a.x:Rat)-s.a.x)*(s.b.y-s.a.y)-(t.a.y-s.a.y)*(s.b.x-s.a.x)
def qR(s t:S):rD s t=(bf s t:Int):=by unfold rD bf cross aB3;grind
def LM(s t:S):rA s t=(cross (aB3 t.a s.a) (aB3 t.b t.a):Int):=by unfold rA cross aB3;grind
def Y9(s t:S):rB s t=(cross (aB3 t.a s.a) (aB3 s.b s.a):Int):=by unfold rB cross aB3;grind
def rC(s t:S):Q2:=⟨s.a.x+rA s t/rD s t*(s.b.x-s.a.x),s.a.y+rA s t/rD s t*(s.b.y-s.a.y)⟩
def YC{s t:S}(hd:rD s t≠0){c:Q2}{u w:Rat}(h1:c.x=(s.a.x:Rat)+u*(s.b.x-s.a.x))(h2:c.y=(s.a.y:Rat)+u*(s.b.y-s.a.y))
  (h3:c.x=(t.a.x:Rat)+w*(t.b.x-t.a.x)) (h4:c.y=(t.a.y:Rat)+w*(t.b.y-t.a.y)):u=rA s t/rD s t/\w=rB s t/rD s t:=by
 have e1:u*rD s t=rA s t:=by unfold rD rA;grind
 have e2:w*rD s t=rB s t:=by unfold rD rB;grind
 constructor<;>grind
def OV{s t:S}(hd:rD s t≠0):(rC s t).x=(t.a.x:Rat)+rB s t/rD s t*(t.b.x-t.a.x)/\(rC s t).y=(t.a.y:Rat)+rB s t/rD s t*(t.b.y-t.a.y):=by
 unfold rC;dsimp only;have e1:((s.a.x:Rat)-t.a.x)*rD s t+rA s t*(s.b.x-s.a.x)=rB s t*(t.b.x-t.a.x):=by unfold rD rA rB;grind
 have e2:((s.a.y:Rat)-t.a.y)*rD s t+rA s t*(s.b.y-s.a.y)=rB s t*(t.b.y-t.a.y):=by unfold rD rA rB;grind
 constructor<;>grind
def vk{s t:S}(hd:rD s t≠0){c:Q2}:(onG s c/\onG t c)↔c=rC s t/\0<=rA s t/rD s t/\rA s t/rD s t<=1/\0<=rB s t/rD s t/\rB s t/rD s t<=1:=by
 constructor
 .rintro⟨⟨u,h1,h2,h3,h4⟩,w,h5,h6,h7,h8⟩;obtain⟨e1,e2⟩:=YC hd h3 h4 h7 h8;subst e1;subst e2;exact⟨Q2.ext' h3 h4,h1,h2,h5,h6⟩
 .rintro⟨rfl,h1,h2,h3,h4⟩;exact⟨⟨_,h1,h2,rfl,rfl⟩,_,h3,h4,(OV hd).1,(OV hd).2⟩
def Ld{a d:Int}(hd:d≠0):(0<=(a:Rat)/d/\(a:Rat)/d<=1)↔0<=(if d<0 then-a else a)/\(if d<0 then-a else a)<=(if d<0 then-d else d):=by
 by_cases h:d<0
 .simp only[if_pos h];have h':(0:Rat)<((-d:Int):Rat):=by exact_mod_cast (show 0< -d by omega)
  have e:(a:Rat)/d=((-a:Int):Rat)/((-d:Int):Rat):=by grind
  rw[e];constructor
  .rintro⟨h1,h2⟩;have k1:=Rat.mul_nonneg h1 (Rat.le_of_lt h');have k2:=Rat.mul_le_mul_of_nonneg_right h2 (Rat.le_of_lt h');have e:((-a:Int):Rat)/((-d:Int):Rat)*((-d:Int):Rat)=((-a:Int):Rat):=by grind
   rw[e]at k1 k2;rw[Rat.one_mul]at k2;exact⟨by exact_mod_cast k1,by exact_mod_cast k2⟩
  .rintro⟨h1,h2⟩;have k1:(0:Rat)<=((-a:Int):Rat):=by exact_mod_cast h1
   have k2:((-a:Int):Rat)<=((-d:Int):Rat):=by exact_mod_cast h2
   have k3:(0:Rat)<=((-d:Int):Rat)⁻¹:=Rat.le_of_lt (Rat.inv_pos.2 h');have k4:=Rat.mul_le_mul_of_nonneg_right k2 k3;refine⟨by rw[Rat.div_def];exact Rat.mul_nonneg k1 k3,?_⟩;have e:((-d:Int):Rat)*((-d:Int):Rat)⁻¹=1:=by grind
   rw[e]at k4;rw[Rat.div_def];exact k4
 .simp only[if_neg h];have h':(0:Rat)<(d:Rat):=by exact_mod_cast (show 0<d by omega)
  constructor
  .rintro⟨h1,h2⟩;have k1:=Rat.mul_nonneg h1 (Rat.le_of_lt h');have k2:=Rat.mul_le_mul_of_nonneg_right h2 (Rat.le_of_lt h');have e:(a:Rat)/d*d=a:=by grind
   rw[e]at k1 k2;rw[Rat.one_mul]at k2;exact⟨by exact_mod_cast k1,by exact_mod_cast k2⟩
  .rintro⟨h1,h2⟩;have k1:(0:Rat)<=(a:Rat):=by exact_mod_cast h1
   have k2:(a:Rat)<=(d:Rat):=by exact_mod_cast h2
   have k3:(0:Rat)<=(d:Rat)⁻¹:=Rat.le_of_lt (Rat.inv_pos.2 h');have k4:=Rat.mul_le_mul_of_nonneg_right k2 k3;refine⟨by rw[Rat.div_def];exact Rat.mul_nonneg k1 k3,?_⟩;have e:(d:Rat)*(d:Rat)⁻¹=1:=by grind
   rw[e]at k4;rw[Rat.div_def];exact k4
def D2{s t:S}(hd:bf s t≠0):gW s t (bf s t)≠0↔∃c,onG s c/\onG t c:=by
 have hd':rD s t≠0:=by rw[qR];exact_mod_cast hd
 have h1:=Ld (a:=cross (aB3 t.a s.a) (aB3 t.b t.a)) hd;have h2:=Ld (a:=cross (aB3 t.a s.a) (aB3 s.b s.a)) hd;rw[<-LM,<-qR]at h1;rw[<-Y9,<-qR]at h2;have key:(∃c,onG s c/\onG t c)↔(0<=rA s t/rD s t/\rA s t/rD s t<=1)/\0<=rB s t/rD s t/\rB s t/rD s t<=1:=
  ⟨λ⟨c,hc⟩=>by have:=(vk hd').1 hc;exact⟨⟨this.2.1,this.2.2.1⟩,this.2.2.2⟩,λh=>⟨_,(vk hd').2 ⟨rfl,h.1.1,h.1.2,h.2⟩⟩⟩
 rw[key,h1,h2];unfold gW;dsimp only;generalize (if bf s t<0 then-cross (aB3 t.a s.a) (aB3 t.b t.a)else cross (aB3 t.a s.a) (aB3 t.b t.a))=A;generalize (if bf s t<0 then-cross (aB3 t.a s.a) (aB3 s.b s.a)else cross (aB3 t.a s.a) (aB3 s.b s.a))=B;generalize (if bf s t<0 then-bf s t else bf s t)=E;split
 .constructor
  .intro h;exact absurd rfl h
  .intro h;omega
 .constructor
  .intro _;omega
  .intro _;split<;>decide
def Tx{s t:S}(hd:bf s t≠0):(⟨(lX s t (bf s t):Rat)/lE (bf s t),(lY s t (bf s t):Rat)/lE (bf s t)⟩:Q2)=rC s t:=by
 have hd':rD s t≠0:=by rw[qR];exact_mod_cast hd
 have e0:((lE (bf s t):Int):Rat)=if bf s t<0 then-rD s t else rD s t:=by unfold lE;rw[qR];split<;>grind
 have e1:((lA s t (bf s t):Int):Rat)=if bf s t<0 then-rA s t else rA s t:=by unfold lA;rw[LM];split<;>grind
 have ex:((lX s t (bf s t):Int):Rat)=s.a.x*lE (bf s t)+lA s t (bf s t)*(s.b.x-s.a.x):=by unfold lX aB3;grind
 have ey:((lY s t (bf s t):Int):Rat)=s.a.y*lE (bf s t)+lA s t (bf s t)*(s.b.y-s.a.y):=by unfold lY aB3;grind
 unfold rC;refine Q2.ext' ?_ ?_<;>dsimp only<;>(first|rw[ex] |rw[ey])<;>rw[e0,e1] <;>split<;>grind
def y5{a g:Int}(hg:0<g)(h:g∣a):a.tdiv g*g=a:=Int.tdiv_mul_cancel h
def YO{X Y E g:Int}(hE:0<E)(hg:g=((bw (bw X.natAbs Y.natAbs:Int).natAbs E.natAbs:Nat):Int)):
  0<g/\X.tdiv g*g=X/\Y.tdiv g*g=Y/\E.tdiv g*g=E/\0<E.tdiv g/\bw (bw (X.tdiv g).natAbs (Y.tdiv g).natAbs) (E.tdiv g).natAbs=1:=by
 have hg2:g=((bw (bw X.natAbs Y.natAbs) E.natAbs:Nat):Int):=by rw[hg];simp
 have hpos:0<bw (bw X.natAbs Y.natAbs) E.natAbs:=Nat.gcd_pos_of_pos_right _ (by omega);generalize hG:bw (bw X.natAbs Y.natAbs) E.natAbs=G at*;have hgp:0<g:=by omega
 have d1:G∣X.natAbs:=by rw[<-hG];exact Nat.dvd_trans (Nat.gcd_dvd_left _ _) (Nat.gcd_dvd_left _ _)
 have d2:G∣Y.natAbs:=by rw[<-hG];exact Nat.dvd_trans (Nat.gcd_dvd_left _ _) (Nat.gcd_dvd_right _ _)
 have d3:G∣E.natAbs:=by rw[<-hG];exact Nat.gcd_dvd_right _ _
 have k1:X.tdiv g*g=X:=y5 hgp (by rw[hg2];exact Q4.2 d1);have k2:Y.tdiv g*g=Y:=y5 hgp (by rw[hg2];exact Q4.2 d2);have k3:E.tdiv g*g=E:=y5 hgp (by rw[hg2];exact Q4.2 d3);have k4:0<E.tdiv g:=by
  rcases xu (E.tdiv g) 0 with h|h|h
  .have:=Int.mul_neg_of_neg_of_pos h hgp;omega
  .rw[h]at k3;omega
  .exact h
 refine⟨hgp,k1,k2,k3,k4,?_⟩;have n1:(X.tdiv g).natAbs*G=X.natAbs:=by have:=congrArg bj k1;rw[pP]at this;rw[<-this];congr 1;omega
 have n2:(Y.tdiv g).natAbs*G=Y.natAbs:=by have:=congrArg bj k2;rw[pP]at this;rw[<-this];congr 1;omega
 have n3:(E.tdiv g).natAbs*G=E.natAbs:=by have:=congrArg bj k3;rw[pP]at this;rw[<-this];congr 1;omega
 rw[<-n1,<-n2,<-n3,C7,C7]at hG;exact Nat.eq_of_mul_eq_mul_right hpos (by rw[hG,nk])
def Ic{a b A B:Int}(h1: -A<=a)(h2:a<=A)(h3: -B<=b)(h4:b<=B): -(A*B)<=a*b/\a*b<=A*B:=iD ⟨h1,h2⟩ ⟨h3,h4⟩
def Ha{a b A E:Int}(ha: -2000<=a/\a<=2000)(hb: -2000<=b/\b<=2000)(h0:0<=A)(h1:A<=E): -(2000*E)<=a*E+A*(b-a)/\a*E+A*(b-a)<=2000*E:=by
 have e:a*E+A*(b-a)=a*(E-A)+b*A:=by grind
 have k1:=jv ha.2 (show 0<=E-A by omega);have k2:=jv ha.1 (show 0<=E-A by omega);have k3:=jv hb.2 h0;have k4:=jv hb.1 h0;omega
def Ff{s t:S}(hs:SgOk s)(ht:SgOk t)(hd:bf s t≠0)(hk:gW s t (bf s t)≠0):
  POk (bI s t (bf s t)).p/\(bI s t (bf s t)).p.den<=33000000/\rp (bI s t (bf s t)).p=rC s t:=by
 rw[rW rfl hk];dsimp only;have hA:0<=lA s t (bf s t)/\lA s t (bf s t)<=lE (bf s t):=by
  by_cases h:lA s t (bf s t)<0\/lE (bf s t)<lA s t (bf s t)\/lB s t (bf s t)<0\/lE (bf s t)<lB s t (bf s t)
  .exact absurd (if_pos h) hk
  .omega
 have hE:0<lE (bf s t)/\lE (bf s t)<=32000000:=by have a:=hs.a;have b:=hs.b;have a':=ht.a;have b':=ht.b;unfold bd at a b a' b';have k1:=Ic (A:=4000) (B:=4000) (a:=s.b.x-s.a.x) (b:=t.b.y-t.a.y) (by omega) (by omega) (by omega) (by omega);have k2:=Ic (A:=4000) (B:=4000) (a:=s.b.y-s.a.y) (b:=t.b.x-t.a.x) (by omega) (by omega) (by omega) (by omega);have e:bf s t=(s.b.x-s.a.x)*(t.b.y-t.a.y)-(s.b.y-s.a.y)*(t.b.x-t.a.x):=rfl;unfold lE;split<;>omega
 obtain⟨hg,k1,k2,k3,k4,k5⟩:=YO (X:=lX s t (bf s t)) (Y:=lY s t (bf s t)) (E:=lE (bf s t)) (g:=lG s t (bf s t)) hE.1 rfl;have bX:=Ha (a:=s.a.x) (b:=s.b.x) (by have:=hs.a;unfold bd at this;omega) (by have:=hs.b;unfold bd at this;omega) hA.1 hA.2;have bY:=Ha (a:=s.a.y) (b:=s.b.y) (by have:=hs.a;unfold bd at this;omega) (by have:=hs.b;unfold bd at this;omega) hA.1 hA.2;rw[show s.a.x*lE (bf s t)+lA s t (bf s t)*(s.b.x-s.a.x)=lX s t (bf s t)from rfl]at bX;rw[show s.a.y*lE (bf s t)+lA s t (bf s t)*(s.b.y-s.a.y)=lY s t (bf s t)from rfl]at bY;have er:=Tx hd;generalize lX s t (bf s t)=X at*;generalize lY s t (bf s t)=Y at*;generalize lE (bf s t)=E at*;generalize lG s t (bf s t)=g at*;generalize X.tdiv g=x at*;generalize Y.tdiv g=y at*;generalize E.tdiv g=e at*;have hcan:∀{a b:Int},a*g<=b*g->a<=b:=λh=>Int.le_of_mul_le_mul_right h hg;have eE:2000*E=2000*e*g:=by rw[<-k3];grind
 have he:e<=32000000:=by have:e*1<=e*g:=Int.mul_le_mul_of_nonneg_left (by omega) (by omega);omega
 have x1:x<=2000*e:=hcan (by omega);have x2: -(2000*e)<=x:=hcan (by rw[Int.neg_mul];omega);have y1:y<=2000*e:=hcan (by omega);have y2: -(2000*e)<=y:=hcan (by rw[Int.neg_mul];omega);refine⟨⟨?_,?_⟩,by omega,?_⟩
 .unfold c9 dW bS;simp only[cB,decide_eq_true_eq,beq_iff_eq];refine⟨?_,k5⟩;omega
 .unfold dW bS;simp only[cB,decide_eq_true_eq];omega
 .rw[<-er];have hg':(g:Rat)≠0:=by exact_mod_cast (show g≠0 by omega)
  have he':(e:Rat)≠0:=by exact_mod_cast (show e≠0 by omega)
  have eX:(X:Rat)=x*g:=by exact_mod_cast k1.symm
  have eY:(Y:Rat)=y*g:=by exact_mod_cast k2.symm
  have eE':(E:Rat)=e*g:=by exact_mod_cast k3.symm
  unfold rp;refine Q2.ext' ?_ ?_<;>dsimp only
  .rw[eX,eE'];grind
  .rw[eY,eE'];grind
def cr(a b c:Q2):Rat:=(b.x-a.x)*(c.y-a.y)-(b.y-a.y)*(c.x-a.x)
def DK{a t:Rat}(ha:0<a):(0<=t*a->0<=t)/\(t*a<=a->t<=1):=by
 constructor
 .intro h;exact Rat.le_of_mul_le_mul_right (by rw[Rat.zero_mul];exact h) ha
 .intro h;exact Rat.le_of_mul_le_mul_right (by rw[Rat.one_mul];exact h) ha
def Wu{a b c:Q2}(h:ltQ a b):onQ a b c↔cr a b c=0/\¬ltQ c a/\¬ltQ b c:=by
 constructor
 .rintro⟨t,h1,h2,h3,h4⟩;refine⟨by unfold cr;grind,?_,?_⟩
  .intro hc;unfold ltQ at h hc;rcases h with h|⟨h,h'⟩
   .have:=Rat.mul_nonneg h1 (show 0<=b.y-a.y by grind);by_cases h0:c.y=a.y
    .have:t*(b.y-a.y)=0:=by grind
     have h5:t=0:=by
      have:b.y-a.y≠0:=by grind
      grind
     grind
    .grind
   .have:=Rat.mul_nonneg h1 (show 0<=b.x-a.x by grind);have:t*(b.y-a.y)=0:=by grind
    grind
  .intro hc;unfold ltQ at h hc;rcases h with h|⟨h,h'⟩
   .have:=Rat.mul_nonneg (show 0<=1-t by grind) (show 0<=b.y-a.y by grind);by_cases h0:c.y=b.y
    .have:(1-t)*(b.y-a.y)=0:=by grind
     have h5:t=1:=by
      have:b.y-a.y≠0:=by grind
      grind
     grind
    .grind
   .have:=Rat.mul_nonneg (show 0<=1-t by grind) (show 0<=b.x-a.x by grind);have:t*(b.y-a.y)=0:=by grind
    grind
 .rintro⟨h1,h2,h3⟩;unfold ltQ at h h2 h3;unfold cr at h1;rcases h with h|⟨h,h'⟩
  .have hd:b.y-a.y≠0:=by grind
   have hp:0<b.y-a.y:=by grind
   have e:(c.y-a.y)/(b.y-a.y)*(b.y-a.y)=c.y-a.y:=by grind
   obtain⟨k1,k2⟩:=DK (t:=(c.y-a.y)/(b.y-a.y)) hp;rw[e]at k1 k2;refine⟨(c.y-a.y)/(b.y-a.y),k1 (by grind),k2 (by grind),?_,by rw[e];grind⟩;grind
  .have hd:b.x-a.x≠0:=by grind
   have hp:0<b.x-a.x:=by grind
   have hy:c.y=a.y:=by grind
   have e:(c.x-a.x)/(b.x-a.x)*(b.x-a.x)=c.x-a.x:=by grind
   obtain⟨k1,k2⟩:=DK (t:=(c.x-a.x)/(b.x-a.x)) hp;rw[e]at k1 k2;refine⟨(c.x-a.x)/(b.x-a.x),k1 (by grind),k2 (by grind),by rw[e];grind,?_⟩;grind
def FO{a b c:Q2}(h:onQ a b c):onQ b a c:=by obtain⟨t,h1,h2,h3,h4⟩:=h;exact⟨1-t,by grind,by grind,by grind,by grind⟩
def gJ{p q:V}:bV p q=true↔ltQ (rv p) (rv q):=by
 unfold bV ltQ rv;simp only[jS,cB,decide_eq_true_eq,beq_iff_eq];have e1:p.y<q.y↔(p.y:Rat)<q.y:=by exact_mod_cast ns
 have e2:p.x<q.x↔(p.x:Rat)<q.x:=by exact_mod_cast ns
 have e3:p.y=q.y↔(p.y:Rat)=q.y:=by exact_mod_cast ns
 rw[e1,e2,e3]
def ri{p q:V}:dL p q=0↔p=q:=by unfold dL aB6;cases p;cases q;simp only[V.mk.injEq];grind
def sF{p q:V}:dL p q= -1↔bV p q=true:=by unfold dL aB6 bV;simp only[jS,cB,decide_eq_true_eq,beq_iff_eq];grind
def lo(s:S):Q2:=rv (loS s)
def hi(s:S):Q2:=rv (hiS s)
def Bf{s:S}(h:s.a≠s.b):ltQ (lo s) (hi s):=by
 unfold lo hi loS hiS;by_cases h2:bV s.b s.a=true
 .rw[if_pos h2,if_pos h2];exact gJ.1 h2
 .rw[if_neg h2,if_neg h2];rcases sV (rv s.a) (rv s.b)with h3|h3|h3
  .exact h3
  .exact absurd (sz h3) h
  .exact absurd (gJ.2 h3) h2
def kB{s:S}(h:s.a≠s.b){c:Q2}:onG s c↔cr (lo s) (hi s) c=0/\¬ltQ c (lo s)/\¬ltQ (hi s) c:=by
 rw[<-Wu (Bf h)];unfold onG lo hi loS hiS;split
 .exact⟨FO,FO⟩
 .exact ns
def Ih(s:S):lo s=rv s.a\/lo s=rv s.b:=by unfold lo loS;grind
def Im(s:S):hi s=rv s.a\/hi s=rv s.b:=by unfold hi hiS;grind
def Fz(s:S):(rv s.a=lo s/\rv s.b=hi s)\/(rv s.a=hi s/\rv s.b=lo s):=by unfold lo hi loS hiS;grind
def lF(s t:S):List Pt:=(if atB s t=true then [(ai s t).p]else [])++(if shB s t=true then [bQ (ai s t).s.a,bQ (ai s t).s.b]else [])
def vK{s:S}(h:SgOk s):bR s=true:=by have a:=h.a;have b:=h.b;unfold bd at a b;unfold bR bS;simp only[cB,decide_eq_true_eq];omega
def sD{s t:S}(hs:SgOk s)(ht:SgOk t)(hd:bf s t≠0):ai s t=bI s t (bf s t):=by unfold ai;rw[vK hs,vK ht,if_neg (by decide),if_neg (by decide),if_pos hd]
def Ie{s t:S}(hs:SgOk s):mb1 s t=false:=by unfold mb1;rw[decide_eq_false hs.ne];rfl
def Gx{s t:S}(hs:SgOk s)(ht:SgOk t)(hd:bf s t=0):ai s t=if ba s.a s.b t.a=0 then gp s t else cz:=by
 unfold ai;rw[vK hs,vK ht,if_neg (by decide),if_neg (by decide),if_neg (by omega),Ie hs,Ie ht,if_neg (by decide),if_neg (by decide)];unfold mb3;rw[decide_eq_false hs.ne,decide_eq_false ht.ne];by_cases h:ba s.a s.b t.a=0
 .simp[h]
 .simp[h]
def GN(s:S)(v:V):ba s.a s.b v=0↔cr (rv s.a) (rv s.b) (rv v)=0:=by
 unfold ba;rw[oE];have e:cr (rv s.a) (rv s.b) (rv v)=(cross (aB3 s.b s.a) (aB3 v s.a):Int):=by unfold cr rv cross aB3;dsimp only;grind
 rw[e]
 exact_mod_cast ns
def sZ(s:S)(c:Q2):cr (lo s) (hi s) c=0↔cr (rv s.a) (rv s.b) c=0:=by
 rcases Fz s with⟨h1,h2⟩|⟨h1,h2⟩
 .rw[h1,h2]
 .rw[h1,h2];unfold cr;grind
def zg{v:V}(h:bd 2000 v):POk (bQ v)/\(bQ v).den<=33000000:=by
 unfold bd at h;refine⟨⟨?_,?_⟩,by unfold bQ;dsimp only;omega⟩
 .rw[DI];unfold bS;simp only[cB,decide_eq_true_eq];omega
 .unfold dW bS bQ;simp only[cB,decide_eq_true_eq];omega
def A5{s t:S}(hs:s.a≠s.b)(ht:t.a≠t.b)(hd:rD s t=0){v c:Q2}(h1:cr (rv s.a) (rv s.b) v=0)(h2:cr (rv t.a) (rv t.b) v=0):
  cr (rv s.a) (rv s.b) c=0↔cr (rv t.a) (rv t.b) c=0:=by
 have hs':¬((s.a.x:Rat)=s.b.x/\(s.a.y:Rat)=s.b.y):=λh=>hs (sz (Q2.ext' h.1 h.2));have ht':¬((t.a.x:Rat)=t.b.x/\(t.a.y:Rat)=t.b.y):=λh=>ht (sz (Q2.ext' h.1 h.2));unfold rD at hd;unfold cr rv at*;dsimp only at*;generalize (s.a.x:Rat)=ax at*;generalize (s.a.y:Rat)=ay at*;generalize (s.b.x:Rat)=bx at*;generalize (s.b.y:Rat)=by' at*;generalize (t.a.x:Rat)=px at*;generalize (t.a.y:Rat)=py at*;generalize (t.b.x:Rat)=qx at*;generalize (t.b.y:Rat)=qy at*;have f1:(bx-ax)*(c.y-v.y)-(by'-ay)*(c.x-v.x)=(bx-ax)*(c.y-ay)-(by'-ay)*(c.x-ax):=by grind
 have f2:(qx-px)*(c.y-v.y)-(qy-py)*(c.x-v.x)=(qx-px)*(c.y-py)-(qy-py)*(c.x-px):=by grind
 rw[<-f1,<-f2];have g1:((bx-ax)*(c.y-v.y)-(by'-ay)*(c.x-v.x))*(qx-px)=((qx-px)*(c.y-v.y)-(qy-py)*(c.x-v.x))*(bx-ax):=by grind
 have g2:((bx-ax)*(c.y-v.y)-(by'-ay)*(c.x-v.x))*(qy-py)=((qx-px)*(c.y-v.y)-(qy-py)*(c.x-v.x))*(by'-ay):=by grind
 generalize (bx-ax)*(c.y-v.y)-(by'-ay)*(c.x-v.x)=U at*;generalize (qx-px)*(c.y-v.y)-(qy-py)*(c.x-v.x)=W at*;have k1:¬(bx-ax=0/\by'-ay=0):=λh=>hs' ⟨by grind,by grind⟩;have k2:¬(qx-px=0/\qy-py=0):=λh=>ht' ⟨by grind,by grind⟩;constructor
 .intro h;rw[h]at g1 g2;grind
 .intro h;rw[h]at g1 g2;grind
def VX(l:List S)(c:Q2):Prop:=(∃k,k<l.length/\(c=rv (aO l k).a\/c=rv (aO l k).b))\/
 ∃j k,j<l.length/\k<l.length/\rD (aO l j) (aO l k)≠0/\onG (aO l j) c/\onG (aO l k) c
def EW{s t:S}{d:Int}(h:gW s t d≠0):gW s t d=1\/gW s t d=2:=by
 have e:∀P Q:Prop,[Decidable P]->[Decidable Q]->(if P then(0:Int)else if Q then 1 else 2)≠0->(if P then(0:Int)else if Q then 1 else 2)=1\/(if P then(0:Int)else if Q then 1 else 2)=2:=by
  intro P Q _ _ h;split
  .rename_i h2;rw[if_pos h2]at h;exact absurd rfl h
  .split
   .exact .inl rfl
   .exact .inr rfl
 exact e _ _ h
def BZ(s:S):onG s (rv s.a):=⟨0,by decide,by decide,by grind,by grind⟩
def BY(s:S):onG s (rv s.b):=⟨1,by decide,by decide,by grind,by grind⟩
def sN{s t:S}:rD s t=0↔bf s t=0:=by rw[qR];exact_mod_cast ns
def LH(s t:S):(rv (bv s t)=lo s\/rv (bv s t)=lo t)/\¬ltQ (rv (bv s t)) (lo s)/\¬ltQ (rv (bv s t)) (lo t):=by
 unfold bv;have e:=gJ (p:=loS s) (q:=loS t);have e1:rv (loS s)=lo s:=rfl;have e2:rv (loS t)=lo t:=rfl;rw[e1,e2]at e;split
 .rename_i h;rw[e2];exact⟨.inr rfl,λh2=>io (lP (e.1 h) h2),io⟩
 .rename_i h;rw[e1];exact⟨.inl rfl,io,λh2=>h (e.2 h2)⟩
def LI(s t:S):(rv (cD s t)=hi s\/rv (cD s t)=hi t)/\¬ltQ (hi s) (rv (cD s t))/\¬ltQ (hi t) (rv (cD s t)):=by
 unfold cD;have e:=gJ (p:=hiS t) (q:=hiS s);have e1:rv (hiS s)=hi s:=rfl;have e2:rv (hiS t)=hi t:=rfl;rw[e1,e2]at e;split
 .rename_i h;rw[e2];exact⟨.inr rfl,λh2=>io (lP (e.1 h) h2),io⟩
 .rename_i h;rw[e1];exact⟨.inl rfl,io,λh2=>h (e.2 h2)⟩
def Zt{s t:S}(hs:SgOk s)(ht:SgOk t):bd 2000 (bv s t)/\bd 2000 (cD s t):=by unfold bv cD loS hiS;have a:=hs.a;have b:=hs.b;have a':=ht.a;have b':=ht.b;constructor<;>(repeat' split)<;>assumption
def rP{a b c:Q2}(h1:¬ltQ b a)(h2:¬ltQ c b):¬ltQ c a:=by unfold ltQ at*;grind
structure PairOk(s t:S)(p:Pt):Prop where
 ok:POk p/\p.den<=33000000
 os:onG s (rp p)
 ot:onG t (rp p)
 v:rD s t≠0\/rp p=rv s.a\/rp p=rv s.b\/rp p=rv t.a\/rp p=rv t.b
def pk{s t:S}{p:Pt}:p∈lF s t↔(atB s t=true/\p=(ai s t).p)\/(shB s t=true/\(p=bQ (ai s t).s.a\/p=bQ (ai s t).s.b)):=by
 unfold lF;rw[d7];constructor
 .rintro(h|h)
  .split at h
   .rename_i h2;exact .inl ⟨h2,bO.1 h⟩
   .cases h
  .split at h
   .rename_i h2;refine .inr ⟨h2,?_⟩;simpa using h
   .cases h
 .rintro(⟨h,rfl⟩|⟨h,h2⟩)
  .rw[if_pos h];exact .inl eC
  .rw[if_pos h];right;simpa using h2
def Sa{s t:S}(hs:SgOk s)(ht:SgOk t)(hd:rD s t≠0){p:Pt}(h:p∈lF s t):PairOk s t p/\gW s t (bf s t)≠0/\p=(bI s t (bf s t)).p:=by
 have hd':bf s t≠0:=λh=>hd (sN.2 h);rw[pk,sD hs ht hd']at h;have hk:gW s t (bf s t)≠0:=by intro h0;have e:bI s t (bf s t)=cz:=if_pos h0;unfold atB shB at h;rw[sD hs ht hd',e]at h;rcases h with⟨h,_⟩|⟨h,_⟩<;>exact absurd h (by decide)
 have e:=rW (s:=s) (t:=t) (d:=bf s t) rfl hk;have ek:(bI s t (bf s t)).k=gW s t (bf s t):=by rw[e]
 have h3:shB s t=false:=by unfold shB;rw[sD hs ht hd',ek];rcases EW hk with h|h<;>rw[h] <;>rfl
 rcases h with⟨_,hp⟩|⟨h,_⟩
 .obtain⟨k1,k2,k3⟩:=Ff hs ht hd' hk;obtain⟨c,hc⟩:=(D2 hd').1 hk;have hc2:=(vk hd).1 hc;rw[<-hp]at k1 k2 k3;refine⟨⟨⟨k1,k2⟩,?_,?_,.inl hd⟩,hk,hp⟩
  .rw[k3,<-hc2.1];exact hc.1
  .rw[k3,<-hc2.1];exact hc.2
 .rw[h3]at h;exact absurd h (by decide)
def DX{s t:S}(hs:SgOk s)(ht:SgOk t)(hd:rD s t≠0){c:Q2}(h1:onG s c)(h2:onG t c):∃p,p∈lF s t/\rp p=c:=by
 have hd':bf s t≠0:=λh=>hd (sN.2 h);have hk:=(D2 hd').2 ⟨c,h1,h2⟩;obtain⟨k1,k2,k3⟩:=Ff hs ht hd' hk;refine⟨_,pk.2 (.inl ⟨?_,rfl⟩),?_⟩
 .unfold atB;rw[sD hs ht hd',rW rfl hk];exact decide_eq_true (EW hk)
 .rw[sD hs ht hd',k3,<-((vk hd).1 ⟨h1,h2⟩).1]
def DZ(s t:S):(bv s t=cD s t/\gp s t=l6 (bv s t))\/
  (ltQ (rv (bv s t)) (rv (cD s t))/\gp s t=⟨3,⟨0,0,0⟩,⟨bv s t,cD s t⟩⟩)\/
  (ltQ (rv (cD s t)) (rv (bv s t))/\gp s t=cz):=by
 unfold gp;by_cases h1:dL (bv s t) (cD s t)=0
 .exact .inl ⟨ri.1 h1,if_pos h1⟩
 .rw[if_neg h1];by_cases h2:dL (bv s t) (cD s t)= -1
  .exact .inr (.inl ⟨gJ.1 (sF.1 h2),if_pos h2⟩)
  .refine .inr (.inr ⟨?_,if_neg h2⟩);rcases sV (rv (bv s t)) (rv (cD s t))with h|h|h
   .exact absurd (sF.2 (gJ.2 h)) h2
   .exact absurd (ri.2 (sz h)) h1
   .exact h
def VK{s t:S}(hs:SgOk s)(ht:SgOk t)(hd:rD s t=0){p:Pt}(h:p∈lF s t):PairOk s t p:=by
 have hd':=sN.1 hd;rw[pk]at h;unfold atB shB at h;rw[Gx hs ht hd']at h;by_cases h0:ba s.a s.b t.a=0
 .rw[if_pos h0]at h;have c0:=(GN s t.a).1 h0;have ct:cr (rv t.a) (rv t.b) (rv t.a)=0:=by unfold cr;grind
  have line:∀c,cr (lo s) (hi s) c=0↔cr (lo t) (hi t) c=0:=λc=>by rw[sZ,sZ];exact A5 hs.ne ht.ne hd c0 ct
  have one:∀v:V,bd 2000 v->(rv v=lo s\/rv v=lo t\/rv v=hi s\/rv v=hi t)->¬ltQ (rv v) (lo s)->¬ltQ (rv v) (lo t)->¬ltQ (hi s) (rv v)->¬ltQ (hi t) (rv v)->PairOk s t (bQ v):=by
   intro v hb he h1 h2 h3 h4;have hl:cr (lo s) (hi s) (rv v)=0:=by
    rcases he with e|e|e|e<;>rw[e]
    .unfold cr;grind
    .rw[line];unfold cr;grind
    .unfold cr;grind
    .rw[line];unfold cr;grind
   refine⟨zg hb,?_,?_,.inr ?_⟩
   .rw[jd,kB hs.ne];exact⟨hl,h1,h3⟩
   .rw[jd,kB ht.ne];exact⟨(line _).1 hl,h2,h4⟩
   .rw[jd];rcases he with e|e|e|e<;>rw[e]
    .rcases Ih s with e|e<;>simp[e]
    .rcases Ih t with e|e<;>simp[e]
    .rcases Im s with e|e<;>simp[e]
    .rcases Im t with e|e<;>simp[e]
  obtain⟨l1,l2,l3⟩:=LH s t;obtain⟨g1,g2,g3⟩:=LI s t;obtain⟨b1,b2⟩:=Zt hs ht;have nlo:¬ltQ (rv (cD s t)) (rv (bv s t))->PairOk s t (bQ (bv s t))/\PairOk s t (bQ (cD s t)):=λhn=>
   ⟨one _ b1 (by rcases l1 with e|e<;>simp[e]) l2 l3 (rP hn g2) (rP hn g3),
    one _ b2 (by rcases g1 with e|e<;>simp[e]) (rP l2 hn) (rP l3 hn) g2 g3⟩
  rcases DZ s t with⟨e,em⟩|⟨e,em⟩|⟨e,em⟩
  .rw[em]at h;rcases h with⟨_,rfl⟩|⟨h,_⟩
   .exact(nlo (by rw[e];exact io)).1
   .exact absurd h (by unfold l6;simp)
  .rw[em]at h;have:=nlo (λh2=>io (lP e h2));rcases h with⟨h,_⟩|⟨_,rfl|rfl⟩
   .exact absurd h (by simp)
   .exact this.1
   .exact this.2
  .rw[em]at h;rcases h with⟨h,_⟩|⟨h,_⟩<;>exact absurd h (by decide)
 .rw[if_neg h0]at h;rcases h with⟨h,_⟩|⟨h,_⟩<;>exact absurd h (by decide)
def Th{s t:S}(hs:SgOk s)(ht:SgOk t)(hd:rD s t=0){c:Q2}(h1:onG s c)(h2:c=rv t.a\/c=rv t.b):∃p,p∈lF s t/\rp p=c:=by
 have hd':=sN.1 hd;have h3:onG t c:=by rcases h2 with rfl|rfl;exact BZ t;exact BY t
 obtain⟨s1,s2,s3⟩:=(kB hs.ne).1 h1;obtain⟨t1,t2,t3⟩:=(kB ht.ne).1 h3;have h0:ba s.a s.b t.a=0:=by rw[GN];refine(A5 hs.ne ht.ne hd ((sZ s c).1 s1) ((sZ t c).1 t1)).2 ?_;unfold cr;grind
 obtain⟨l1,l2,l3⟩:=LH s t;obtain⟨g1,g2,g3⟩:=LI s t;have k1:¬ltQ c (rv (bv s t)):=by rcases l1 with e|e<;>rw[e] <;>assumption
 have k2:¬ltQ (rv (cD s t)) c:=by rcases g1 with e|e<;>rw[e] <;>assumption
 have k3:c=lo t\/c=hi t:=by rcases Fz t with⟨e1,e2⟩|⟨e1,e2⟩<;>rw[e1,e2]at h2<;>grind
 have k4:c=rv (bv s t)\/c=rv (cD s t):=by
  rcases k3 with e|e
  .left;rcases sV c (rv (bv s t))with h|h|h
   .exact absurd h k1
   .exact h
   .rw[e]at h;exact absurd h l3
  .right;rcases sV c (rv (cD s t))with h|h|h
   .rw[e]at h;exact absurd h g3
   .exact h
   .exact absurd h k2
 have em0:ai s t=gp s t:=by rw[Gx hs ht hd',if_pos h0]
 rcases DZ s t with⟨e,em⟩|⟨e,em⟩|⟨e,em⟩
 .refine⟨bQ (bv s t),pk.2 (.inl ⟨?_,?_⟩),?_⟩
  .unfold atB;rw[em0,em];rfl
  .rw[em0,em];rfl
  .rw[jd];rcases k4 with e2|e2
   .exact e2.symm
   .rw[e];exact e2.symm
 .have hsh:shB s t=true:=by unfold shB;rw[em0,em];rfl
  rcases k4 with e2|e2
  .exact⟨bQ (bv s t),pk.2 (.inr ⟨hsh,.inl (by rw[em0,em])⟩),by rw[jd];exact e2.symm⟩
  .exact⟨bQ (cD s t),pk.2 (.inr ⟨hsh,.inr (by rw[em0,em])⟩),by rw[jd];exact e2.symm⟩
 .exact absurd e (rP k1 k2)
def Sgs(l:List S):Prop:=∀k,k<l.length->SgOk (aO l k)
def VG{l:List S}{i k:Nat}(h:¬k=i):ae l i (k+1)=ae l i k++lF (aO l i) (aO l k):=by rw[tA h];unfold lF;cases shB (aO l i) (aO l k)<;>cases atB (aO l i) (aO l k)<;>simp
def mU{l:List S}{i:Nat}{p:Pt}:∀{k:Nat},p∈ae l i k↔(p=bQ (aO l i).a\/p=bQ (aO l i).b)\/∃j,j<k/\j≠i/\p∈lF (aO l i) (aO l j)
 |0=>by unfold ae;simp
 |k+1=>by
  by_cases h:k=i
  .rw[IP h,mU (k:=k)];constructor
   .rintro(h1|⟨j,h1,h2,h3⟩)
    .exact .inl h1
    .exact .inr ⟨j,by omega,h2,h3⟩
   .rintro(h1|⟨j,h1,h2,h3⟩)
    .exact .inl h1
    .exact .inr ⟨j,by omega,h2,h3⟩
  .rw[VG h,d7,mU (k:=k)];constructor
   .rintro((h1|⟨j,h1,h2,h3⟩)|h1)
    .exact .inl h1
    .exact .inr ⟨j,by omega,h2,h3⟩
    .exact .inr ⟨k,by omega,h,h1⟩
   .rintro(h1|⟨j,h1,h2,h3⟩)
    .exact .inl (.inl h1)
    .by_cases hj:j=k
     .subst hj;exact .inr h3
     .exact .inl (.inr ⟨j,by omega,h2,h3⟩)
def Ws{s t:S}(hs:SgOk s)(ht:SgOk t){p:Pt}(h:p∈lF s t):PairOk s t p:=by
 by_cases hd:rD s t=0
 .exact VK hs ht hd h
 .exact(Sa hs ht hd h).1
def wB{l:List S}(H:Sgs l){i:Nat}(hi:i<l.length){p:Pt}(h:p∈ae l i l.length):(POk p/\p.den<=33000000)/\onG (aO l i) (rp p)/\VX l (rp p):=by
 rcases mU.1 h with(rfl|rfl)|⟨j,h1,h2,h3⟩
 .exact⟨zg (H i hi).a,by rw[jd];exact BZ _,.inl ⟨i,hi,.inl (jd _)⟩⟩
 .exact⟨zg (H i hi).b,by rw[jd];exact BY _,.inl ⟨i,hi,.inr (jd _)⟩⟩
 .have P:=Ws (H i hi) (H j h1) h3;refine⟨P.ok,P.os,?_⟩;rcases P.v with h|h|h|h|h
  .exact .inr ⟨i,j,hi,h1,h,P.os,P.ot⟩
  .exact .inl ⟨i,hi,.inl h⟩
  .exact .inl ⟨i,hi,.inr h⟩
  .exact .inl ⟨j,h1,.inl h⟩
  .exact .inl ⟨j,h1,.inr h⟩
def zr(s t:S):rD t s= -rD s t:=by unfold rD;grind
def VH{s t u:S}(ht:t.a≠t.b)(h1:rD s t=0)(h2:rD t u=0):rD s u=0:=by
 have ht':¬((t.a.x:Rat)=t.b.x/\(t.a.y:Rat)=t.b.y):=λh=>ht (sz (Q2.ext' h.1 h.2));unfold rD at*;generalize (t.a.x:Rat)=ax at*;generalize (t.a.y:Rat)=ay at*;generalize (t.b.x:Rat)=bx at*;generalize (t.b.y:Rat)=by' at*;have k1:¬(bx-ax=0/\by'-ay=0):=λh=>ht' ⟨by grind,by grind⟩;have g1:(((s.b.x:Rat)-s.a.x)*(u.b.y-u.a.y)-(s.b.y-s.a.y)*(u.b.x-u.a.x))*(bx-ax)=0:=by grind
 have g2:(((s.b.x:Rat)-s.a.x)*(u.b.y-u.a.y)-(s.b.y-s.a.y)*(u.b.x-u.a.x))*(by'-ay)=0:=by grind
 grind
def YD{l:List S}(H:Sgs l){i k:Nat}(hi:i<l.length)(hk:k<l.length){c:Q2}(h:onG (aO l i) c)(he:c=rv (aO l k).a\/c=rv (aO l k).b):∃p,p∈ae l i l.length/\rp p=c:=by
 by_cases e:k=i
 .subst e;rcases he with rfl|rfl
  .exact⟨_,mU.2 (.inl (.inl rfl)),jd _⟩
  .exact⟨_,mU.2 (.inl (.inr rfl)),jd _⟩
 .by_cases hd:rD (aO l i) (aO l k)=0
  .obtain⟨p,h1,h2⟩:=Th (H i hi) (H k hk) hd h he;exact⟨p,mU.2 (.inr ⟨k,hk,e,h1⟩),h2⟩
  .obtain⟨p,h1,h2⟩:=DX (H i hi) (H k hk) hd h (by rcases he with rfl|rfl;exact BZ _;exact BY _);exact⟨p,mU.2 (.inr ⟨k,hk,e,h1⟩),h2⟩
def LN{l:List S}(H:Sgs l){i k:Nat}(hi:i<l.length)(hk:k<l.length){c:Q2}(h:onG (aO l i) c)(h2:onG (aO l k) c)(hd:rD (aO l i) (aO l k)≠0):∃p,p∈ae l i l.length/\rp p=c:=by have e:k≠i:=λe=>hd (by subst e;unfold rD;grind);obtain⟨p,h1,h2⟩:=DX (H i hi) (H k hk) hd h h2;exact⟨p,mU.2 (.inr ⟨k,hk,e,h1⟩),h2⟩
def Wo{l:List S}(H:Sgs l){i:Nat}(hi:i<l.length){c:Q2}(h:onG (aO l i) c)(hv:VX l c):∃p,p∈ae l i l.length/\rp p=c:=by
 rcases hv with⟨k,hk,he⟩|⟨j,k,hj,hk,hd,h1,h2⟩
 .exact YD H hi hk h he
 .by_cases hd2:rD (aO l i) (aO l j)=0
  .refine LN H hi hk h h2 (λh3=>hd ?_);exact VH (H i hi).ne (by rw[zr,hd2];grind) h3
  .exact LN H hi hj h h1 hd2
def EA{x y:Pt}{r:List Pt}:fA (x::y::r)=if x=y then fA (y::r)else x::fA (y::r):=by show(if _ then _ else _)=_;rfl
def Ef:∀(l:List Pt),∀p∈l,p∈fA l
 |[],p,h=>by cases h
 |[x],p,h=>h
 |x::y::r,p,h=>by
  rw[EA];have ih:=Ef (y::r);split
  .rename_i e;rcases bh.1 h with rfl|h
   .exact ih _ (by rw[e];exact eC)
   .exact ih _ h
  .rcases bh.1 h with rfl|h
   .exact eC
   .exact dR _ (ih _ h)
def Eg{l:List Pt}{p:Pt}:p∈fA l↔p∈l:=⟨vE l p,Ef l p⟩
def js(p q:Pt):Prop:=ltQ (rp p) (rp q)
def WQ{p q:Pt}(hp:POk p)(hq:POk q):ltC aW p q=true↔js p q:=by unfold ltC js;rw[decide_eq_true_iff,GA (by have:=hp.den;omega) (by have:=hq.den;omega)]
def DN:∀(l:List Pt),(∀p∈l,POk p)->(l.Pairwise λa b=>ltC aW b a=false)->(fA l).Pairwise js
 |[],_,_=>uG
 |[x],_,_=>C6 _ _
 |x::y::r,hk,h=>by
  rw[EA];have hk2:∀p∈y::r,POk p:=λp hp=>hk p (dR _ hp);rw[ju]at h;have ih:=DN (y::r) hk2 h.2;split
  .exact ih
  .rename_i hxy;rw[ju];refine⟨λz hz=> ?_,ih⟩;have hz:=Eg.1 hz;have kx:=hk x eC;have ky:=hk y (dR _ eC);have kz:=hk2 z hz;have nle:∀{u v:Pt},POk u->POk v->ltC aW v u=false->js u v\/u=v:=by
    intro u v hu hv h;rcases sV (rp u) (rp v)with h1|h1|h1
    .exact .inl h1
    .exact .inr (IL hu hv h1)
    .rw[(WQ hv hu).2 h1]at h;cases h
   have h1:js x y:=(nle kx ky (h.1 y eC)).resolve_right hxy;rcases bh.1 hz with rfl|hz
   .exact h1
   .rcases nle ky kz ((ju.1 h.2).1 z hz)with h2|rfl
    .exact lP h1 h2
    .exact h1
def DF{l:List Pt}(h:∀p∈l,POk p):(fA (aZ (ltC aW) l)).Pairwise js:=
 DN _ (λp hp=>h p ((fM _ _).mem_iff.1 hp)) (pR (OW h) l λ_ h=>h)
def yK{l:List Pt}{p:Pt}:p∈fA (aZ (ltC aW) l)↔p∈l:=by rw[Eg,(fM _ _).mem_iff]
def FI{l:List S}{i:Nat}{p:Pt}:p∈bC l i↔p∈ae l i l.length:=yK
def zh{l:List S}{p:Pt}:p∈vsP l↔∃i,i<l.length/\p∈bC l i:=by
 unfold vsP;rw[yK];have key:∀k,p∈vsK l k↔∃i,i<k/\p∈bC l i:=by
  intro k;induction k with
  |zero=>unfold vsK;simp
  |succ k ih=>
   unfold vsK;rw[d7,ih];constructor
   .rintro(⟨i,h1,h2⟩|h)
    .exact⟨i,by omega,h2⟩
    .exact⟨k,by omega,h⟩
   .rintro⟨i,h1,h2⟩;by_cases e:i=k
    .subst e;exact .inr h2
    .exact .inl ⟨i,by omega,h2⟩
 exact key _
section
variable {l:List S} (H:Sgs l)
include H
theorem zu{i:Nat}(hi:i<l.length){p:Pt}(h:p∈bC l i):(POk p/\p.den<=33000000)/\onG (aO l i) (rp p)/\VX l (rp p):=wB H hi (FI.1 h)
theorem Rw{i:Nat}(hi:i<l.length):(bC l i).Pairwise js:=DF λ_ h=>(wB H hi h).1.1
theorem sj{p:Pt}(h:p∈vsP l):POk p/\p.den<=33000000:=by obtain⟨i,h1,h2⟩:=zh.1 h;exact(zu H h1 h2).1
theorem um:(vsP l).Pairwise js:=by refine DF λp hp=> ?_;have:p∈vsP l:=yK.2 hp;exact(sj H this).1
theorem zt{i:Nat}(hi:i<l.length){p:Pt}:p∈bC l i↔p∈vsP l/\onG (aO l i) (rp p):=by
 constructor
 .intro h;exact⟨zh.2 ⟨i,hi,h⟩,(zu H hi h).2.1⟩
 .rintro⟨h1,h2⟩;obtain⟨j,hj,h3⟩:=zh.1 h1;have k:=zu H hj h3;obtain⟨q,hq,e⟩:=Wo H hi h2 k.2.2;have kq:=wB H hi hq;have:q=p:=IL kq.1.1 k.1.1 e;subst this;exact FI.2 hq
end
theorem AP{f:Int->Int}{l:List Int}(hm:∀i j,i<=j->j<l.length->f (aK l j)<0->f (aK l i)<0):∀(n i j:Nat),j<=l.length->j-i<=n->i<=j->
  (∀k,k<i->f (aK l k)<0)->(∀k,j<=k->k<l.length->¬f (aK l k)<0)->
  bsG f l n i j<=l.length/\(∀k,k<bsG f l n i j->f (aK l k)<0)/\∀k,bsG f l n i j<=k->k<l.length->¬f (aK l k)<0
 |0,i,j,hj,hn,hij,h1,h2=>by
  have:i=j:=by omega
  subst this;unfold bsG;exact⟨hj,h1,h2⟩
 |n+1,i,j,hj,hn,hij,h1,h2=>by
  unfold bsG;split
  .split
   .rename_i h3 h4;exact AP hm n _ _ hj (by omega) (by omega) (λk hk=>hm k ((i+j)/2) (by omega) (by omega) h4) h2
   .rename_i h3 h4;exact AP hm n _ _ (by omega) (by omega) (by omega) h1 (λk hk hl h5=>h4 (hm _ k hk hl h5))
  .have:i=j:=by omega
   subst this;exact⟨hj,h1,h2⟩
theorem Hg{f:Int->Int}{l:List Int}(hm:∀i j,i<=j->j<l.length->f (aK l j)<0->f (aK l i)<0):
  bsP f l<=l.length/\(∀k,k<bsP f l->f (aK l k)<0)/\∀k,bsP f l<=k->k<l.length->¬f (aK l k)<0:=
 AP hm _ _ _ (bD _) (by omega) (ce _) (λk hk=>by omega) (λk hk hl=>by omega)
theorem ra{l:List Pt}(h:l.Pairwise js){i j:Nat}(hj:j<l.length)(hij:i<j):js (aP l i) (aP l j):=by rw[mh hj,mh (by omega)];exact nq.1 h i j _ _ hij
theorem FV{l:List Pt}{p:Pt}(h:p∈l):∃k,k<l.length/\aP l k=p:=by obtain⟨k,hk,e⟩:=mK.1 h;exact⟨k,hk,by rw[mh hk];exact e⟩
theorem sA{l:List Pt}{k:Nat}(h:k<l.length):aP l k∈l:=by rw[mh h];exact du h
theorem IQ{l:List Pt}(h:l.Pairwise js)(hk:∀p∈l,POk p){k:Nat}(hl:k<l.length):ptX (aP l k) l=k:=by
 have hd:∀i,i<l.length->0<(aP l i).den:=λi hi=>by have:=(hk _ (sA hi)).den;omega
 have key:∀i,i<l.length->(id (aK (ptL (aP l k) l) i)<0↔i<k):=by
  intro i hi;rw[IR _ hi];show aW _ _<0↔_;rw[GA (hd i hi) (hd k hl)];constructor
  .intro h1;rcases jB i k with h2|h2|h2
   .exact h2
   .subst h2;exact absurd h1 io
   .exact absurd (lP h1 (ra h hi h2)) io
  .exact λh1=>ra h hl h1
 have e:=Gh (aP l k) l;obtain⟨h1,h2,h3⟩:=Hg (f:=id) (l:=ptL (aP l k) l) (λi j hij hj h1=>(key i (by omega)).2 (by have:=(key j (by omega)).1 h1;omega));unfold ptX;rcases jB (bsP id (ptL (aP l k) l)) k with h4|h4|h4
 .exact absurd ((key _ (by omega)).2 h4) (h3 _ (bD _) (by omega))
 .exact h4
 .exact absurd ((key k hl).1 (h2 k h4)) (Ch _)
theorem Yp{l:List Pt}(h:l.Pairwise js)(hk:∀p∈l,POk p){p:Pt}(hp:p∈l):ptX p l<l.length/\aP l (ptX p l)=p:=by obtain⟨k,h1,rfl⟩:=FV hp;rw[IQ h hk h1];exact⟨h1,rfl⟩
section
def OnV(l:List S)(i v:Nat):Prop:=onG (aO l i) (rp (aP (vsP l) v))
structure Adj(l:List S)(i a b:Nat):Prop where
 lt:a<b
 bd:b<(vsP l).length
 oa:OnV l i a
 ob:OnV l i b
 no:∀v,a<v->v<b->¬OnV l i v
section
variable {l:List S} (H:Sgs l) {i:Nat} (hi:i<l.length)
include H hi
theorem oL{j:Nat}(hj:j<(bC l i).length):ptX (aP (bC l i) j) (vsP l)<(vsP l).length/\aP (vsP l) (ptX (aP (bC l i) j) (vsP l))=aP (bC l i) j:=
 Yp (um H) (λp hp=>(sj H hp).1) ((zt H hi).1 (sA hj)).1
theorem sE{j k:Nat}(hk:k<(bC l i).length)(hjk:j<k):ptX (aP (bC l i) j) (vsP l)<ptX (aP (bC l i) k) (vsP l):=by
 obtain⟨a1,a2⟩:=oL H hi (j:=j) (by omega);obtain⟨b1,b2⟩:=oL H hi hk;have h:=ra (Rw H hi) hk hjk;rw[<-a2,<-b2]at h;generalize ptX (aP (bC l i) j) (vsP l)=u at*;generalize ptX (aP (bC l i) k) (vsP l)=w at*;rcases jB u w with h1|h1|h1
 .exact h1
 .subst h1;exact absurd h io
 .exact absurd (lP h (ra (um H) a1 h1)) io
theorem qC{v:Nat}(hv:v<(vsP l).length):OnV l i v↔∃j,j<(bC l i).length/\ptX (aP (bC l i) j) (vsP l)=v:=by
 constructor
 .intro h;obtain⟨j,hj,e⟩:=FV ((zt H hi).2 ⟨sA hv,h⟩);refine⟨j,hj,?_⟩;rw[e];exact IQ (um H) (λp hp=>(sj H hp).1) hv
 .rintro⟨j,hj,rfl⟩;unfold OnV;rw[(oL H hi hj).2];exact((zt H hi).1 (sA hj)).2
theorem As{j k:Nat}(hj:j<(bC l i).length)(hk:k<(bC l i).length)(h:ptX (aP (bC l i) j) (vsP l)<ptX (aP (bC l i) k) (vsP l)):j<k:=by
 rcases jB j k with h1|h1|h1
 .exact h1
 .subst h1;omega
 .have:=sE H hi hj h1;omega
theorem Xp{a b:Nat}:Adj l i a b↔∃j,1<=j/\j<(bC l i).length/\ptX (aP (bC l i) (j-1)) (vsP l)=a/\ptX (aP (bC l i) j) (vsP l)=b:=by
 constructor
 .rintro⟨h1,h2,h3,h4,h5⟩;obtain⟨j,hj,rfl⟩:=(qC H hi (by omega)).1 h3;obtain⟨k,hk,rfl⟩:=(qC H hi h2).1 h4;have hjk:=As H hi hj hk h1;by_cases e:k=j+1
  .subst e;exact⟨j+1,by omega,hk,rfl,rfl⟩
  .have m1:=sE H hi (j:=j) (k:=j+1) (by omega) (by omega);have m2:=sE H hi (j:=j+1) (k:=k) hk (by omega);exact absurd ((qC H hi (by omega)).2 ⟨j+1,by omega,rfl⟩) (h5 _ m1 m2)
 .rintro⟨j,h1,h2,rfl,rfl⟩;refine⟨sE H hi h2 (by omega),(oL H hi h2).1,?_,?_,?_⟩
  .exact(qC H hi (oL H hi (by omega)).1).2 ⟨j-1,by omega,rfl⟩
  .exact(qC H hi (oL H hi h2).1).2 ⟨j,h2,rfl⟩
  .intro v h3 h4 h5;obtain⟨k,hk,rfl⟩:=(qC H hi (by have:=(oL H hi h2).1;omega)).1 h5;have k1:=As H hi (by omega) hk h3;have k2:=As H hi hk h2 h4;omega
end
def gr(M:MF)(k:Nat×Nat):List Int:=match M with
 |[] =>[]
 |p::M=>if p.1=k then p.2 else gr M k
theorem Et{k:Nat×Nat}{v:Int}:∀(M:MF) (k':Nat×Nat),gr (eI M k v) k'=if k=k' then gr M k'++[v]else gr M k'
 |[],k'=>by
  unfold eI gr;dsimp only;split<;>rfl
 |p::M,k'=>by
  have ih:=Et (k:=k) (v:=v) M k';unfold eI;by_cases h:p.1=k
  .rw[if_pos h];subst h;unfold gr;dsimp only;by_cases h2:p.1=k'
   .simp[h2]
   .simp[h2]
  .rw[if_neg h];unfold gr;by_cases h2:p.1=k'
   .subst h2;simp only[if_true];rw[if_neg (λe=>h e.symm)]
   .simp only[if_neg h2];exact ih
theorem Uh{M:MF}(hn:(M.map (·.1)).Nodup){q:(Nat×Nat)×List Int}(h:q∈M):gr M q.1=q.2:=by
 induction M with
 |nil=>cases h
 |cons p M ih=>
  rw[cO,jy]at hn;unfold gr;rcases bh.1 h with rfl|h
  .rw[if_pos rfl]
  .have:p.1≠q.1:=λe=>hn.1 (cC.2 ⟨q,h,e.symm⟩);rw[if_neg this];exact ih hn.2 h
theorem FU{k:Nat×Nat}:∀{M:MF},gr M k≠[]->(k,gr M k)∈M
 |[],h=>absurd rfl h
 |p::M,h=>by
  unfold gr at h|-;split
  .rename_i e;subst e;exact eC
  .rename_i e;rw[if_neg e]at h;exact dR _ (FU h)
theorem Xq{k:Nat×Nat}{v:Int}{M:MF}(h:∀q∈M,q.2≠[]):∀q∈eI M k v,q.2≠[] :=by
 intro q hq;rcases vh hq with hq|⟨_,r,e,_⟩
 .exact h q hq
 .rw[e];simp
open Classical in
noncomputable def fY(l:List S)(a b:Nat):Nat->List Int
 |0=>[]
 |k+1=>fY l a b k++(if Adj l k a b then [(k:Int)]else [])
theorem vL{l:List S}{a b:Nat}{x:Int}:∀{k:Nat},x∈fY l a b k↔∃i:Nat,i<k/\x=i/\Adj l i a b
 |0=>by unfold fY;simp
 |k+1=>by
  unfold fY;rw[d7,vL (k:=k)];constructor
  .rintro(⟨i,h1,h2,h3⟩|h)
   .exact⟨i,by omega,h2,h3⟩
   .split at h
    .rename_i ha;exact⟨k,by omega,bO.1 h,ha⟩
    .cases h
  .rintro⟨i,h1,h2,h3⟩;by_cases e:i=k
   .subst e;right;rw[if_pos h3,h2];exact eC
   .exact .inl ⟨i,by omega,h2,h3⟩
section
variable {l:List S} (H:Sgs l)
include H
theorem E1{i:Nat}(hi:i<l.length){M:MF}(k:Nat×Nat):∀j,j<=(bC l i).length->
  ((∃j',1<=j'/\j'<j/\(ptX (aP (bC l i) (j'-1)) (vsP l),ptX (aP (bC l i) j') (vsP l))=k)->gr (dC (vsP l) (bC l i) i M j) k=gr M k++[(i:Int)])/\
  ((¬∃j',1<=j'/\j'<j/\(ptX (aP (bC l i) (j'-1)) (vsP l),ptX (aP (bC l i) j') (vsP l))=k)->gr (dC (vsP l) (bC l i) i M j) k=gr M k)
 |0,_=>⟨λ⟨j',h1,h2,_⟩=>by omega,λ_=>rfl⟩
 |j+1,hj=>by
  obtain⟨ih1,ih2⟩:=E1 hi (M:=M) k j (by omega);unfold dC;by_cases h1:1<=j
  .rw[if_pos h1,Et];by_cases e:(ptX (aP (bC l i) (j-1)) (vsP l),ptX (aP (bC l i) j) (vsP l))=k
   .rw[if_pos e];have hno:¬∃j',1<=j'/\j'<j/\(ptX (aP (bC l i) (j'-1)) (vsP l),ptX (aP (bC l i) j') (vsP l))=k:=by rintro⟨j',h2,h3,h4⟩;rw[<-e]at h4;have h5:ptX (aP (bC l i) j') (vsP l)=ptX (aP (bC l i) j) (vsP l):=congrArg Prod.snd h4;have:=sE H hi (j:=j') (k:=j) (by omega) h3;omega
    rw[ih2 hno];exact⟨λ_=>rfl,λh=>absurd ⟨j,h1,by omega,e⟩ h⟩
   .rw[if_neg e];constructor
    .rintro⟨j',h2,h3,h4⟩;refine ih1 ⟨j',h2,?_,h4⟩;rcases jT j' j with h5|h5
     .exact h5
     .have:j'=j:=by omega
      subst this;exact absurd h4 e
    .intro h;exact ih2 λ⟨j',h2,h3,h4⟩=>h ⟨j',h2,by omega,h4⟩
  .rw[if_neg h1];constructor
   .rintro⟨j',h2,h3,h4⟩;omega
   .intro h;exact ih2 λ⟨j',h2,h3,h4⟩=>h ⟨j',h2,by omega,h4⟩
theorem y8(k:Nat×Nat):∀n,n<=l.length->gr (cS l n) k=fY l k.1 k.2 n
 |0,_=>rfl
 |n+1,hn=>by
  have ih:=y8 k n (by omega);obtain⟨h1,h2⟩:=E1 H (i:=n) (by omega) (M:=cS l n) k (bC l n).length (bD _);have e:=Xp H (i:=n) (by omega) (a:=k.1) (b:=k.2);have e2:(∃j',1<=j'/\j'<(bC l n).length/\(ptX (aP (bC l n) (j'-1)) (vsP l),ptX (aP (bC l n) j') (vsP l))=k)↔Adj l n k.1 k.2:=by
   rw[e];constructor
   .rintro⟨j,h3,h4,rfl⟩;exact⟨j,h3,h4,rfl,rfl⟩
   .rintro⟨j,h3,h4,h5,h6⟩;exact⟨j,h3,h4,xz h5 h6⟩
  unfold cS fY;by_cases ha:Adj l n k.1 k.2
  .rw[h1 (e2.2 ha),ih,if_pos ha]
  .rw[h2 (λh=>ha (e2.1 h)),ih,if_neg ha,jW]
omit H in
theorem GR:∀n,∀q∈cS l n,q.2≠[]
 |0=>λq hq=>by cases hq
 |n+1=>by
  have key:∀(vs pts:List Pt) (i:Int) (M:MF),(∀q∈M,q.2≠[])->∀j,∀q∈dC vs pts i M j,q.2≠[] :=by
   intro vs pts i M h j;induction j with
   |zero=>exact h
   |succ j ih=>
    unfold dC;split
    .exact Xq ih
    .exact ih
  exact key _ _ _ _ (GR n) _
theorem vp{e:Ed}:e∈esP l↔∃a b:Nat,fY l a b l.length≠[]/\e=⟨a,b,0,0,fY l a b l.length⟩:=by
 unfold esP;rw[(fM _ _).mem_iff];unfold edM;rw[cC];constructor
 .rintro⟨q,hq,rfl⟩;have e1:=Uh (pW l l.length) hq;rw[y8 H _ _ (bD _)]at e1;exact⟨q.1.1,q.1.2,by rw[e1];exact GR _ q hq,by rw[e1]⟩
 .rintro⟨a,b,h,rfl⟩;have e1:=y8 H (a,b) _ (bD _);refine⟨((a,b),fY l a b l.length),?_,rfl⟩;have:=FU (k:=(a,b)) (M:=cS l l.length) (by rw[e1];exact h);rw[e1]at this;exact this
end
end
structure EdAt(l:List S)(k a b i:Nat):Prop where
 ed:aX (esP l) k=⟨a,b,0,0,fY l a b l.length⟩
 il:i<l.length
 adj:Adj l i a b
 fst:aK (fY l a b l.length) 0=i
def vm{l:List Ed}{i:Nat}(h:i<l.length):aX l i=l[i] :=cE h
def tx{l:List S}(H:Sgs l){k:Nat}(hk:k<(esP l).length):∃a b i,EdAt l k a b i:=by
 obtain⟨a,b,h1,h2⟩:=(vp H).1 (pj (l:=esP l) hk);have hp:0<(fY l a b l.length).length:=by rcases h:fY l a b l.length with _|⟨x,r⟩<;>simp_all
 have hm:aK (fY l a b l.length) 0∈fY l a b l.length:=iB hp;obtain⟨i,h3,h4,h5⟩:=vL.1 hm;exact⟨a,b,i,h2,h3,h5,h4⟩
def Vr(l:List S):((esP l).map λe=>(e.fr,e.to)).Nodup:=by have hp:(esP l).Perm (edM (cS l l.length)):=fM _ _;rw[(hp.map _).nodup_iff];have hk:=pW l l.length;unfold edM;rw[gS];unfold rN at*;rw[ud]at*;refine hk.imp λ{p q} h e=>h ?_;have e1:(p.1.1:Int)=q.1.1:=congrArg Prod.fst e;have e2:(p.1.2:Int)=q.1.2:=congrArg Prod.snd e;exact xz (by omega) (by omega)
def HJ{l:List S}{j k:Nat}(hj:j<(esP l).length)(hk:k<(esP l).length)(h1:(aX (esP l) j).fr=(aX (esP l) k).fr)(h2:(aX (esP l) j).to=(aX (esP l) k).to):j=k:=by
 have hn:=Vr l;unfold rN at hn;rw[ud,nq]at hn;rw[vm hj,vm hk]at h1 h2;rcases jB j k with h|h|h
 .exact absurd (xz h1 h2) (hn j k hj hk h)
 .exact h
 .exact absurd (xz h1.symm h2.symm) (hn k j hk hj h)
def EdAt.ln{l:List S}{k a b i:Nat}(E:EdAt l k a b i):lnP (aA l) k=(loS (aO l i),hiS (aO l i)):=by
 have e:aO (aA l).sg (aK (aX (aA l).es ((k:Int).toNat)).src 0).toNat=aO l i:=by show aO l (aK (aX (esP l) ((k:Int).toNat)).src 0).toNat=_;rw[kX,E.ed];show aO l (aK (fY l a b l.length) 0).toNat=_;rw[E.fst];rfl
 unfold lnP;dsimp only;rw[e];unfold loS hiS;split<;>rfl
def dS(s:S):V:=aB3 (hiS s) (loS s)
def mZ{l:List S}{k a b i:Nat}(E:EdAt l k a b i):bP (aA l) ((2*k:Nat):Int)=dS (aO l i)/\stP (aA l) ((2*k:Nat):Int)=a:=by
 have e1:(((2*k:Nat):Int)).tmod 2=0:=by rw[rK (by omega)];omega
 have e2:(((2*k:Nat):Int)).tdiv 2=(k:Int):=by rw[ub (by omega)];omega
 constructor
 .unfold bP;rw[if_pos e1,e2,E.ln];rfl
 .unfold stP;rw[if_pos e1,e2];show(aX (esP l) ((k:Int).toNat)).fr=_;rw[kX,E.ed]
def p9{l:List S}{k a b i:Nat}(E:EdAt l k a b i):bP (aA l) ((2*k+1:Nat):Int)=aB3 ⟨0,0⟩ (dS (aO l i))/\stP (aA l) ((2*k+1:Nat):Int)=b:=by
 have e1:¬(((2*k+1:Nat):Int)).tmod 2=0:=by rw[rK (by omega)];omega
 have e2:(((2*k+1:Nat):Int)).tdiv 2=(k:Int):=by rw[ub (by omega)];omega
 constructor
 .unfold bP;rw[if_neg e1,e2,E.ln];unfold dS aB3;dsimp only
  congr 1<;>omega
 .unfold stP;rw[if_neg e1,e2];show(aX (esP l) ((k:Int).toNat)).to=_;rw[kX,E.ed]
def AK{s:S}(h:s.a≠s.b):de (dS s)=0/\de (aB3 ⟨0,0⟩ (dS s))=1:=by
 have hl:=Bf h;have:bV (loS s) (hiS s)=true:=gJ.2 hl;unfold bV at this;simp only[jS,cB,decide_eq_true_eq,beq_iff_eq]at this;unfold de dS aB3;dsimp only;constructor
 .rw[if_pos (by omega)]
 .rw[if_neg (by omega)]
def AZ{a b:V}:bl a b<0↔de a<de b\/(de a=de b/\0<cross a b):=by
 have e:ba ⟨0,0⟩ a b=sgn (cross a b):=by
  unfold ba aB3 cross;dsimp only
  congr 1
  simp only[Int.sub_zero]
 unfold bl;rw[e];have hs:=GZ (cross a b);rcases xu (de a) (de b)with h|h|h
 .have e2:aB6 (de a) (de b)= -1:=by unfold aB6;rw[if_pos h]
  rw[e2,if_neg (by decide)];exact⟨λ_=> .inl h,λ_=>by decide⟩
 .have e2:aB6 (de a) (de b)=0:=by unfold aB6;rw[if_neg (by omega),if_neg (by omega)]
  rw[e2,if_pos rfl];constructor
  .intro h2;exact .inr ⟨h,hs.1 (by omega)⟩
  .rintro(h2|⟨_,h2⟩)
   .omega
   .have:=hs.2 h2;omega
 .have e2:aB6 (de a) (de b)=1:=by unfold aB6;rw[if_neg (by omega),if_pos h]
  rw[e2,if_neg (by decide)];exact⟨λh3=>by omega,λh3=>by omega⟩
def nzV(v:V):Prop:=v.x≠0\/v.y≠0
def zU(v:V):de v=0\/de v=1:=by unfold de;split;exact .inl rfl;exact .inr rfl
def Di{a b c:V}(hb:0<b.y\/(b.y=0/\0<b.x))(ha:0<a.y\/(a.y=0/\0<a.x))(hc:0<c.y\/(c.y=0/\0<c.x))(h1:0<cross a b)(h2:0<cross b c):0<cross a c:=by
 unfold cross at*;rcases hb with hb|⟨hb,hb2⟩
 .have hcy:0<c.y:=by
   rcases hc with hc|⟨hc,hc2⟩
   .exact hc
   .rw[hc]at h2;have:=Int.mul_pos hb hc2;omega
  have k1:=Int.mul_pos h1 hcy;have k2:0<=(b.x*c.y-b.y*c.x)*a.y:=iz (by omega) (by omega);have e:(a.x*c.y-a.y*c.x)*b.y=(a.x*b.y-a.y*b.x)*c.y+(b.x*c.y-b.y*c.x)*a.y:=by grind
  have k3:0<(a.x*c.y-a.y*c.x)*b.y:=by omega
  rcases pF 0 (a.x*c.y-a.y*c.x)with h|h
  .exact h
  .have:=jv h (show 0<=b.y by omega);omega
 .rw[hb]at h1;have:0<=a.y*b.x:=iz (by omega) (by omega);omega
def S7{a b c:V}(ha:nzV a)(hb:nzV b)(hc:nzV c)(h1:bl a b<0)(h2:bl b c<0):bl a c<0:=by
 rw[AZ]at*;have a01:=zU a;have b01:=zU b;have c01:=zU c;rcases h1 with h1|⟨h1,h1'⟩
 .left;rcases h2 with h2|⟨h2,_⟩<;>omega
 .rcases h2 with h2|⟨h2,h2'⟩
  .left;omega
  .right;refine⟨by omega,?_⟩;unfold nzV at ha hb hc;unfold de at h1 h2;by_cases hp:0<b.y\/(b.y=0/\0<b.x)
   .rw[if_pos hp]at h1 h2;have pa:0<a.y\/(a.y=0/\0<a.x):=by
     by_cases h:0<a.y\/(a.y=0/\0<a.x)
     .exact h
     .rw[if_neg h]at h1;omega
    have pc:0<c.y\/(c.y=0/\0<c.x):=by
     by_cases h:0<c.y\/(c.y=0/\0<c.x)
     .exact h
     .rw[if_neg h]at h2;omega
    exact Di hp pa pc h1' h2'
   .rw[if_neg hp]at h1 h2;have pa:¬(0<a.y\/(a.y=0/\0<a.x)):=λh=>by rw[if_pos h]at h1;omega
    have pc:¬(0<c.y\/(c.y=0/\0<c.x)):=λh=>by rw[if_pos h]at h2;omega
    have k:=Di (a:=⟨-a.x,-a.y⟩) (b:=⟨-b.x,-b.y⟩) (c:=⟨-c.x,-c.y⟩) (by dsimp only;omega) (by dsimp only;omega) (by dsimp only;omega)
     (by unfold cross at*;dsimp only;grind) (by unfold cross at*;dsimp only;grind)
    unfold cross at*;dsimp only at k;grind
def rl{a b:V}(h:bl a b<0):¬bl b a<0:=by
 rw[AZ]at*;have e:cross b a= -cross a b:=by unfold cross;grind
 omega
def Zo{s:S}(h:s.a≠s.b):nzV (dS s):=by
 have:=(AK h);unfold de at this;unfold nzV;have h1:=this.1;have h2:=this.2;unfold aB3 at h2;dsimp only at h2;split at h1
 .omega
 .omega
def LK{s t:S}:rD s t=0↔cross (dS s) (dS t)=0:=by rw[sN];unfold bf dS loS hiS cross aB3;split<;>split<;>dsimp only<;>constructor<;>intro h<;>grind
def wN{l:List S}(H:Sgs l){a b:Nat}(hb:b<(vsP l).length)(h:a<b):ltQ (rp (aP (vsP l) a)) (rp (aP (vsP l) b)):=ra (um H) hb h
def wF{l:List S}(H:Sgs l){i j a b c d:Nat}(hi:i<l.length)(hj:j<l.length)(hd:rD (aO l i) (aO l j)=0)
  (h1:OnV l i a) (h2:OnV l j a) (h3:OnV l i c) (h4:OnV l j b) (h5:OnV l j d) (hb:b<c) (hc:c<d) (hl:d<(vsP l).length):OnV l j c:=by
 unfold OnV at*;obtain⟨a1,a2,a3⟩:=(kB (H i hi).ne).1 h1;obtain⟨b1,b2,b3⟩:=(kB (H j hj).ne).1 h2;obtain⟨c1,c2,c3⟩:=(kB (H i hi).ne).1 h3;obtain⟨d1,d2,d3⟩:=(kB (H j hj).ne).1 h4;obtain⟨e1,e2,e3⟩:=(kB (H j hj).ne).1 h5;have p1:=wN H (by omega) hb;have p2:=wN H hl hc;refine(kB (H j hj).ne).2 ⟨?_,?_,?_⟩
 .rw[sZ]at a1 b1 c1|-;exact(A5 (H i hi).ne (H j hj).ne hd a1 b1).1 c1
 .intro h;exact d2 (lP p1 h)
 .intro h;exact e3 (lP h p2)
def Ys{l:List S}(H:Sgs l){i j a b c:Nat}(hi:i<l.length)(hj:j<l.length)(hd:rD (aO l i) (aO l j)=0)(h1:Adj l i a b)(h2:Adj l j a c):b=c:=by
 rcases jB b c with h|h|h
 .exact absurd (wF H hi hj hd h1.oa h2.oa h1.ob h2.oa h2.ob h1.lt h h2.bd) (h2.no b h1.lt h)
 .exact h
 .have hd':rD (aO l j) (aO l i)=0:=by rw[zr,hd];grind
  exact absurd (wF H hj hi hd' h2.oa h1.oa h2.ob h1.oa h1.ob h2.lt h h1.bd) (h1.no c h2.lt h)
def Yr{l:List S}(H:Sgs l){i j a b c:Nat}(hi:i<l.length)(hj:j<l.length)(hd:rD (aO l i) (aO l j)=0)(h1:Adj l i a c)(h2:Adj l j b c):a=b:=by
 rcases jB a b with h|h|h
 .have hd':rD (aO l j) (aO l i)=0:=by rw[zr,hd];grind
  exact absurd (wF H hj hi hd' h2.ob h1.ob h2.oa h1.oa h1.ob h h2.lt h1.bd) (h1.no b h h2.lt)
 .exact h
 .exact absurd (wF H hi hj hd h1.ob h2.ob h1.oa h2.oa h2.ob h h1.lt h2.bd) (h2.no a h h1.lt)
def uu{n:Nat}{h:Int}(h0:0<=h)(h1:h<2*n):∃k,k<n/\(h=((2*k:Nat):Int)\/h=((2*k+1:Nat):Int)):=by refine⟨(h/2).toNat,by omega,by omega⟩
def yu(a b:V):cross (aB3 ⟨0,0⟩ a) (aB3 ⟨0,0⟩ b)=cross a b:=by unfold cross aB3;dsimp only;grind
def A0{l:List S}(H:Sgs l){h:Int}(hh:HIn (aA l) h):nzV (bP (aA l) h):=by
 obtain⟨k,hk,e⟩:=uu hh.1 hh.2;obtain⟨a,b,i,E⟩:=tx H hk;have:=Zo (H i E.il).ne;rcases e with rfl|rfl
 .rw[(mZ E).1];exact this
 .rw[(p9 E).1];unfold nzV aB3 at*;dsimp only;omega
def XE{l:List S}(H:Sgs l)(q:Int->Bool):LvO (aA l) q:=by
 intro v hv;have hin:∀h∈lvR (aA l) q v (2*(aA l).es.length),HIn (aA l) h:=tC;refine⟨λx hx y hy z hz h1 h2=> ?_,λx hx y hy h1=> ?_,λx hx y hy h1 h2=> ?_⟩
 .exact decide_eq_true (S7 (A0 H (hin x hx)) (A0 H (hin y hy)) (A0 H (hin z hz)) (of_decide_eq_true h1) (of_decide_eq_true h2))
 .exact decide_eq_false (rl (of_decide_eq_true h1))
 .have h1:¬cfH (aA l) x y<0:=of_decide_eq_false h1;have h2:¬cfH (aA l) y x<0:=of_decide_eq_false h2;unfold cfH at h1 h2;rw[AZ]at h1 h2;have ec:cross (bP (aA l) y) (bP (aA l) x)= -cross (bP (aA l) x) (bP (aA l) y):=by unfold cross;grind
  obtain⟨j,hj,ex⟩:=uu (hin x hx).1 (hin x hx).2;obtain⟨k,hk,ey⟩:=uu (hin y hy).1 (hin y hy).2;have sx:=(oQ.1 hx).2.2.2;have sy:=(oQ.1 hy).2.2.2;obtain⟨a,b,i,E⟩:=tx H hj;obtain⟨c,d,m,F⟩:=tx H hk;have p1:=AK (H i E.il).ne;have p2:=AK (H m F.il).ne;rcases ex with rfl|rfl
  .rw[(mZ E).1]at h1 h2 ec;rw[(mZ E).2]at sx;rcases ey with rfl|rfl
   .rw[(mZ F).1]at h1 h2 ec;rw[(mZ F).2]at sy;have hac:a=c:=by omega
    subst hac;have hbd:=Ys H E.il F.il (LK.2 (by omega)) E.adj F.adj;subst hbd;have:j=k:=HJ hj hk (by rw[E.ed,F.ed]) (by rw[E.ed,F.ed]);rw[this]
   .rw[(p9 F).1]at h1 h2;omega
  .rw[(p9 E).1]at h1 h2 ec;rw[(p9 E).2]at sx;rcases ey with rfl|rfl
   .rw[(mZ F).1]at h1 h2;omega
   .rw[(p9 F).1]at h1 h2 ec;rw[(p9 F).2]at sy;rw[yu]at h1 h2;have hbd:b=d:=by omega
    subst hbd;have hac:=Yr H E.il F.il (LK.2 (by rw[yu,yu]at ec;omega)) E.adj F.adj;subst hac;have:j=k:=HJ hj hk (by rw[E.ed,F.ed]) (by rw[E.ed,F.ed]);rw[this]
def GK{k:Nat×Nat}{v:Int}:∀M:MF,(eI M k v).length<=M.length+1
 |[] =>by unfold eI;simp
 |p::M=>by
  unfold eI;split
  .simp
  .have:=GK (k:=k) (v:=v) M;simp only[hZ];omega
def E4(vs pts:List Pt)(i:Int)(M:MF):∀j,(dC vs pts i M j).length<=M.length+j
 |0=>bD _
 |j+1=>by
  have:=E4 vs pts i M j;unfold dC;split
  .have:=GK (k:=(ptX (aP pts (j-1)) vs,ptX (aP pts j) vs)) (v:=i) (dC vs pts i M j);omega
  .omega
def E0(l:List S):∀k,(cS l k).length<=k*(3*l.length+2)
 |0=>by unfold cS;simp
 |k+1=>by
  have h1:=E0 l k;have h2:=E4 (vsP l) (bC l k) k (cS l k) (bC l k).length;have h3:=ry l k;unfold cS;rw[lJ,nk];omega
def WS(l:List S):(vsP l).length<=l.length*(3*l.length+2):=by have h1:=yv (aZ (ltC aW) (vsK l l.length));have h2:=(fM (ltC aW) (vsK l l.length)).length_eq;have h3:=vi l l.length;unfold vsP;omega
def IK{l:List S}(h:eV l=0):Sgs l:=by
 unfold eV at h;split at h
 .cases h
 .rename_i h1;split at h
  .cases h
  .rename_i h2;intro k hk;have hm:=vS (l:=l) (i:=k) hk;have e1:¬f7 (aO l k)=true:=λe=>h1 (ni.2 ⟨_,hm,e⟩);have e2:¬fZ (aO l k)=true:=λe=>h2 (ni.2 ⟨_,hm,e⟩);unfold f7 at e1;have e3:bS (aO l k).a 2000=true/\bS (aO l k).b 2000=true:=by unfold fZ at e2;cases h3:bS (aO l k).a 2000<;>cases h4:bS (aO l k).b 2000<;>simp_all
   simp only[decide_eq_true_eq]at e1;unfold bS at e3;simp only[cB,decide_eq_true_eq]at e3;refine⟨e1,?_,?_⟩<;>unfold bd<;>omega
def Wq{l:List S}(hl:l.length<=100)(H:Sgs l):PlOk (aA l):=by
 have hm:l.length*(3*l.length+2)<=100*302:=Nat.mul_le_mul hl (by omega);refine⟨?_,?_,?_,?_,?_,?_,?_⟩
 .show l.length<=1000;omega
 .show(vsP l).length<=100000;have:=WS l;omega
 .show(esP l).length<=400000;have:=E0 l l.length;have e:=AJ l;unfold edM at e;rw[dt]at e;omega
 .intro e he;obtain⟨a,b,h1,rfl⟩:=(vp H).1 he;obtain⟨x,hx⟩:=List.exists_mem_of_ne_nil _ h1;obtain⟨i,h2,h3,h4⟩:=vL.1 hx;have:=h4.lt;have:=h4.bd;show(0:Int)<=a/\(a:Int)<(vsP l).length/\(0:Int)<=b/\(b:Int)<(vsP l).length;omega
 .intro e he;obtain⟨a,b,h1,rfl⟩:=(vp H).1 he;refine⟨by show 0<(fY l a b l.length).length;rcases h:fY l a b l.length with _|⟨x,r⟩<;>simp_all,λx hx=> ?_⟩;obtain⟨i,h2,h3,h4⟩:=vL.1 hx;show 0<=x/\x<l.length;omega
 .intro s hs;obtain⟨k,hk,e⟩:=mK.1 hs;have:aO l k=s:=by rw[show aO l k=l[k]from cE hk];exact e
  rw[<-this];exact⟨(H k hk).a,(H k hk).b⟩
 .intro v hv;exact sj H hv
def itN(g:Int->Int):Nat->Int->Int
 |0,h=>h
 |n+1,h=>itN g n (g h)
def jZ(g:Int->Int):∀n h,itN g (n+1) h=g (itN g n h)
 |0,_=>rfl
 |n+1,h=>jZ g n (g h)
def orb(g:Int->Int)(m:Nat)(h:Int):List Int:=(bN m).map λj=>itN g j h
def rz(g:Int->Int)(m:Nat)(h:Int):orb g (m+1) h=h::orb g m (g h):=by unfold orb;rw[List.range_succ_eq_map,cO,gS];rfl
def oO{g:Int->Int}{m:Nat}{h x:Int}:x∈orb g m h↔∃j,j<m/\itN g j h=x:=by
 unfold orb;rw[cC];constructor
 .rintro⟨j,h1,h2⟩;exact⟨j,dZ.1 h1,h2⟩
 .rintro⟨j,h1,h2⟩;exact⟨j,dZ.2 h1,h2⟩
def Hq(p:Pl)(q:Int->Bool)(h:Int):Prop:=HIn p h/\q h=true
def zG{l:List Bool}{i j:Nat}(h:i<l.length):cN (l.set i true) j=true↔cN l j=true\/j=i:=by
 unfold cN;rw[b9,b9,gh];by_cases e:i=j
 .subst e;simp[h]
 .rw[if_neg e];constructor
  .exact .inl
  .rintro(h|h)
   .exact h
   .exact absurd h.symm e
def Sw{l:List Bool}(h:l.count false=0){i:Nat}(hi:i<l.length):cN l i=true:=by
 have:false∉l:=QX.1 h;have hm:cN l i∈l:=by rw[show cN l i=l[i]from cE hi];exact du hi
 cases hb:cN l i with
 |true=>rfl
 |false=>rw[hb]at hm;exact absurd hm this
section
variable {p:Pl} {q:Int->Bool} {L:List (List Int)} (G:∀h,Hq p q h->Hq p q (nxP p L h))
include G
theorem HX:∀(f:Nat) (D:List Bool) (h:Int) (c:List Int),D.length=2*p.es.length->f=D.count false->Hq p q h->
  ∃m,(cyT p q L f D h c).2=c++orb (nxP p L) m h/\(cyT p q L f D h c).1.length=2*p.es.length/\
   (∀x,cN (cyT p q L f D h c).1 x=true↔cN D x=true\/(x:Int)∈orb (nxP p L) m h)/\
   (∀y∈orb (nxP p L) m h,Hq p q y/\cN D y.toNat=false)/\(orb (nxP p L) m h).Nodup/\cN (cyT p q L f D h c).1 (itN (nxP p L) m h).toNat=true/\(cN D h.toNat=false->0<m)/\Hq p q (itN (nxP p L) m h)
 |0,D,h,c,hD,hf,hh=>by
  have hi:h.toNat<D.length:=by have:=hh.1.1;have:=hh.1.2;omega
  have ht:=Sw hf.symm hi;refine⟨0,?_,hD,λx=> ?_,λy hy=> ?_,List.nodup_nil,ht,λe=> ?_,hh⟩
  .show c=c++[];simp
  .show cN D x=true↔cN D x=true\/(x:Int)∈[];simp
  .cases hy
  .rw[ht]at e;cases e
 |f+1,D,h,c,hD,hf,hh=>by
  have hi:h.toNat<D.length:=by have:=hh.1.1;have:=hh.1.2;omega
  by_cases hb:cN D h.toNat=false
  .rw[wK ⟨hh.1.1,hb,hh.2⟩];have hc:=pf hi hb;obtain⟨m,e1,e2,e3,e4,e5,e6,e7,e8⟩:=HX f (D.set h.toNat true) (nxP p L h) (c++[h]) (by rw[fB];exact hD) (by omega) (G h hh);refine⟨m+1,?_,e2,λx=> ?_,λy hy=> ?_,?_,e6,λ_=>by omega,e8⟩
   .rw[e1,rz,jz];rfl
   .rw[e3,zG hi,rz,bh];have hx:x=h.toNat↔(x:Int)=h:=by have:=hh.1.1;omega
    rw[hx];constructor
    .rintro((h1|h1)|h1)
     .exact .inl h1
     .exact .inr (.inl h1)
     .exact .inr (.inr h1)
    .rintro(h1|h1|h1)
     .exact .inl (.inl h1)
     .exact .inl (.inr h1)
     .exact .inr h1
   .rw[rz]at hy;rcases bh.1 hy with rfl|hy
    .exact⟨hh,hb⟩
    .refine⟨(e4 y hy).1,?_⟩;have h2:=(e4 y hy).2;cases h3:cN D y.toNat with
     |false=>rfl
     |true=>rw[(zG hi).2 (.inl h3)]at h2;cases h2
   .rw[rz,jy];refine⟨λhm=> ?_,e5⟩;have h2:=(e4 h hm).2;rw[(zG hi).2 (.inr rfl)]at h2;cases h2
  .rw[vt (λh2=>hb h2.2.1)];refine⟨0,?_,hD,λx=> ?_,λy hy=> ?_,List.nodup_nil,?_,λe=>absurd e hb,hh⟩
   .show c=c++[];simp
   .show cN D x=true↔cN D x=true\/(x:Int)∈[];simp
   .cases hy
   .show cN D h.toNat=true;cases h3:cN D h.toNat with
    |true=>rfl
    |false=>exact absurd h3 hb
structure IsCy(p:Pl)(q:Int->Bool)(L:List (List Int))(c:List Int):Prop where
 ne:0<c.length
 orb:c=orb (nxP p L) c.length (aK c 0)
 close:itN (nxP p L) c.length (aK c 0)=aK c 0
 nd:c.Nodup
 mem:∀h∈c,Hq p q h
 least:∀h∈c,aK c 0<=h
structure CyInv(p:Pl)(q:Int->Bool)(L:List (List Int))(k:Nat)(y:List Bool×List (List Int)):Prop where
 len:y.1.length=2*p.es.length
 shut:∀h,Hq p q h->(cN y.1 h.toNat=true↔cN y.1 (nxP p L h).toNat=true)
 done:∀x:Nat,cN y.1 x=true↔∃c∈y.2,(x:Int)∈c
 low:∀h,Hq p q h->h<k->cN y.1 h.toNat=true
 cyc:∀c∈y.2,IsCy p q L c/\aK c 0<k
 asc:y.2.Pairwise λa b=>aK a 0<aK b 0
 dis:y.2.Pairwise λa b=>∀x∈a,x∉b
theorem qX{h:Int}(hh:Hq p q h):∀j,Hq p q (itN (nxP p L) j h)
 |0=>hh
 |j+1=>by rw[jZ];exact G _ (qX hh j)
theorem HZ(I:∀a b,Hq p q a->Hq p q b->nxP p L a=nxP p L b->a=b):∀k,k<=2*p.es.length->CyInv p q L k (cyO p q L k)
 |0,_=>by
  refine⟨mH ..,λh hh=> ?_,λx=> ?_,λh hh h2=> ?_,λc hc=> ?_,uG,uG⟩
  .have e:∀x,cN (cyO p q L 0).1 x=false:=λx=>by
    show(bT _ false).getD x false=false;rw[b9];by_cases hx:x<2*p.es.length
    .rw[i9,if_pos hx];rfl
    .rw[i9,if_neg hx];rfl
   rw[e,e]
  .have e:cN (cyO p q L 0).1 x=false:=by
    show(bT _ false).getD x false=false;rw[b9];by_cases hx:x<2*p.es.length
    .rw[i9,if_pos hx];rfl
    .rw[i9,if_neg hx];rfl
   rw[e];constructor
   .intro h;cases h
   .rintro⟨c,hc,_⟩;cases hc
  .have:=hh.1.1;omega
  .cases hc
 |k+1,hk=>by
  have V:=HZ I k (by omega);by_cases hgo:cN (cyO p q L k).1 k=false/\q k=true
  .obtain⟨hb,hqk⟩:=hgo;have hh:Hq p q k:=⟨⟨by omega,by omega⟩,hqk⟩;obtain⟨m,e1,e2,e3,e4,e5,e6,e7,e8⟩:=HX G ((cyO p q L k).1.count false) (cyO p q L k).1 k [] V.len rfl hh;have e1:(cyS p q L (cyO p q L k).1 k).2=orb (nxP p L) m k:=e1;have hm:0<m:=e7 (by rw[kX];exact hb);have hlen:(orb (nxP p L) m k).length=m:=by unfold orb;simp
   have hnew:∀j,cN (cyO p q L k).1 (itN (nxP p L) j k).toNat=false:=by
    intro j;induction j with
    |zero=>show cN _ ((k:Int).toNat)=false;rw[kX];exact hb
    |succ j ih=>
     rw[jZ];have:=V.shut _ (qX G hh j);cases h3:cN (cyO p q L k).1 (nxP p L (itN (nxP p L) j k)).toNat with
     |false=>rfl
     |true=>rw[this.2 h3]at ih;cases ih
   have hclose:itN (nxP p L) m k=k:=by
    have h0:=(e3 (itN (nxP p L) m k).toNat).1 e6;rw[hnew m]at h0;have h1:=h0.resolve_left (by decide);rw[pQ e8.1.1]at h1;obtain⟨i,hi,e⟩:=oO.1 h1;have back:∀i d,itN (nxP p L) i k=itN (nxP p L) (i+d) k->itN (nxP p L) d k=k:=by
     intro i;induction i with
     |zero=>intro d h;rw[gR]at h;exact h.symm
     |succ i ih=>
      intro d h;rw[show i+1+d=(i+d)+1 by omega,jZ,jZ]at h;exact ih d (I _ _ (qX G hh i) (qX G hh (i+d)) h)
    have e9:=back i (m-i) (by rw[e];congr 1;omega);by_cases h0:i=0
    .subst h0;exact e9
    .exfalso;have hnd:=e5;unfold orb rN at hnd;rw[ud,nq]at hnd;have:=hnd 0 (m-i) (by simp;omega) (by simp;omega) (by omega);rw[uZ,uZ]at this;exact this e9.symm
   have hlow:∀y∈orb (nxP p L) m k,(k:Int)<=y:=by
    intro y hy;rcases pF y k with h|h
    .have h1:=V.low y (e4 y hy).1 h;rw[(e4 y hy).2]at h1;cases h1
    .exact h
   have h0:aK (orb (nxP p L) m k) 0=k:=by
    rcases m with _|m
    .omega
    .rw[rz];rfl
   have hc:IsCy p q L (orb (nxP p L) m k):=⟨by omega,by rw[hlen,h0],by rw[hlen,h0];exact hclose,e5,λh hm=>(e4 h hm).1,by rw[h0];exact hlow⟩;have ey:cyO p q L (k+1)=((cyS p q L (cyO p q L k).1 k).1,(cyO p q L k).2++[orb (nxP p L) m k]):=by show(_,if _ then _ else _)=_;rw[if_pos (by rw[e1,hlen];exact hm),e1]
   rw[ey];have hD:∀x,cN (cyS p q L (cyO p q L k).1 k).1 x=true↔cN (cyO p q L k).1 x=true\/(x:Int)∈orb (nxP p L) m k:=e3;refine⟨e2,λh hh2=> ?_,λx=> ?_,λh hh2 h2=> ?_,λc hc2=> ?_,?_,?_⟩
   .dsimp only;have g2:=(G h hh2).1.1;rw[hD,hD,pQ hh2.1.1,pQ g2,V.shut h hh2];have:h∈orb (nxP p L) m k↔nxP p L h∈orb (nxP p L) m k:=by
     rw[oO,oO];constructor
     .rintro⟨j,h1,rfl⟩;by_cases e:j+1=m
      .refine⟨0,hm,?_⟩;rw[<-jZ (nxP p L),e,hclose];rfl
      .exact⟨j+1,by omega,jZ _ _ _⟩
     .rintro⟨j,h1,h2⟩;rcases j with _|j
      .refine⟨m-1,by omega,?_⟩;refine I _ _ (qX G hh _) hh2 ?_;rw[<-jZ (nxP p L),show m-1+1=m by omega,hclose];exact h2
      .refine⟨j,by omega,?_⟩;rw[jZ]at h2;exact I _ _ (qX G hh _) hh2 h2
    rw[this]
   .dsimp only;rw[hD,V.done];constructor
    .rintro(⟨c,h1,h2⟩|h1)
     .exact⟨c,List.mem_append_left _ h1,h2⟩
     .exact⟨_,List.mem_append_right _ eC,h1⟩
    .rintro⟨c,h1,h2⟩;rcases d7.1 h1 with h1|h1
     .exact .inl ⟨c,h1,h2⟩
     .rw[bO.1 h1]at h2;exact .inr h2
   .dsimp only;rw[hD];by_cases e:h=k
    .right;rw[pQ hh2.1.1,e];exact oO.2 ⟨0,hm,rfl⟩
    .exact .inl (V.low h hh2 (by omega))
   .rcases d7.1 hc2 with h1|h1
    .have:=V.cyc c h1;exact⟨this.1,by omega⟩
    .rw[bO.1 h1];exact⟨hc,by rw[h0];omega⟩
   .rw[List.pairwise_append];refine⟨V.asc,C6 _ _,λa ha b hb2=> ?_⟩;rw[bO.1 hb2,h0];exact(V.cyc a ha).2
   .rw[List.pairwise_append];refine⟨V.dis,C6 _ _,λa ha b hb2 x hx hx2=> ?_⟩;rw[bO.1 hb2]at hx2;have k1:=(e4 x hx2).2;have k2:=(V.done x.toNat).2 ⟨a,ha,by rw[pQ (e4 x hx2).1.1.1];exact hx⟩;rw[k1]at k2;cases k2
  .have ey:cyO p q L (k+1)=cyO p q L k:=by
    have e:cyS p q L (cyO p q L k).1 k=((cyO p q L k).1,[]):=by unfold cyS;exact vt (λh=>hgo ⟨by have:=h.2.1;rwa[kX]at this,h.2.2⟩)
    show(_,if _ then _ else _)=_;rw[e,if_neg (by simp)]
   rw[ey];refine⟨V.len,V.shut,V.done,λh hh h2=> ?_,λc hc=> ?_,V.asc,V.dis⟩
   .by_cases e:h=k
    .subst e;cases h3:cN (cyO p q L k).1 k with
     |true=>rw[kX];exact h3
     |false=>exact absurd ⟨h3,hh.2⟩ hgo
    .exact V.low h hh (by omega)
   .have:=V.cyc c hc;exact⟨this.1,by omega⟩
end
section
variable {p:Pl} (P:PlOk p) {q:Int->Bool} (O:LvO p q)
include P O
omit P O in
theorem IM{v:Nat}(hv:v<p.vs.length):aJ (lvP p q) v=aZ (ltC (cfH p)) (lvR p q v (2*p.es.length)):=by unfold aJ lvP lvM;rw[b9,dH,iK hv];show(if v<p.vs.length then _ else _)=_;rw[if_pos hv]
omit P O in
theorem Ga{v:Nat}(hv:v<p.vs.length){h:Int}:h∈aJ (lvP p q) v↔Hq p q h/\stP p h=v:=by
 rw[IM hv,(fM _ _).mem_iff,oQ];unfold Hq HIn;constructor
 .rintro⟨h1,h2,h3,h4⟩;exact⟨⟨⟨h1,by omega⟩,h3⟩,h4⟩
 .rintro⟨⟨⟨h1,h2⟩,h3⟩,h4⟩;exact⟨h1,by omega,h3,h4⟩
omit P O in
theorem Tu(v k:Nat):(lvR p q v k).Nodup:=by unfold lvR;unfold rN;refine List.Pairwise.filter _ ?_;rw[ud];exact List.nodup_range.imp λ{a b} h e=>h (by omega)
omit P in
theorem SX{v:Nat}(hv:v<p.vs.length):(aJ (lvP p q) v).Pairwise λa b=>bl (bP p a) (bP p b)<0:=by
 rw[IM hv];have hs:=pR (O v hv) (lvR p q v (2*p.es.length)) λ_ h=>h;have hn:(aZ (ltC (cfH p)) (lvR p q v (2*p.es.length))).Nodup:=(fM _ _).nodup_iff.2 (Tu v _);have hm:∀x∈aZ (ltC (cfH p)) (lvR p q v (2*p.es.length)),x∈lvR p q v (2*p.es.length):=λx h=>(fM _ _).mem_iff.1 h;generalize aZ (ltC (cfH p)) (lvR p q v (2*p.es.length))=l at*;refine List.Pairwise.imp_of_mem (λ{a b} ha hb h=> ?_) (hs.and hn);obtain⟨h1,h2⟩:=h;cases h3:ltC (cfH p) a b with
 |true=>exact of_decide_eq_true h3
 |false=>exact absurd ((O v hv).tot a (hm a ha) b (hm b hb) h3 h1) h2
omit P in
theorem v8{v:Nat}(hv:v<p.vs.length){i j:Nat}(hj:j<(aJ (lvP p q) v).length)(hij:i<j):bl (bP p (aK (aJ (lvP p q) v) i)) (bP p (aK (aJ (lvP p q) v) j))<0:=by have h:=nq.1 (SX O hv) i j (by omega) hj hij;rw[show aK (aJ (lvP p q) v) i=(aJ (lvP p q) v)[i]from cE (by omega),show aK (aJ (lvP p q) v) j=(aJ (lvP p q) v)[j]from cE hj];exact h
omit P in
theorem Wk{v:Nat}(hv:v<p.vs.length){i j:Nat}(hi:i<(aJ (lvP p q) v).length)(hj:j<(aJ (lvP p q) v).length)(e:aK (aJ (lvP p q) v) i=aK (aJ (lvP p q) v) j):i=j:=by
 rcases jB i j with h|h|h
 .have:=v8 O hv hj h;rw[e]at this;exact absurd this (rl this)
 .exact h
 .have:=v8 O hv hi h;rw[e]at this;exact absurd this (rl this)
omit P in
theorem Xl{v:Nat}(hv:v<p.vs.length){k:Nat}(hk:k<(aJ (lvP p q) v).length):bsP (λx=>bl (bP p x) (bP p (aK (aJ (lvP p q) v) k))) (aJ (lvP p q) v)=k:=by
 have key:∀i,i<(aJ (lvP p q) v).length->(bl (bP p (aK (aJ (lvP p q) v) i)) (bP p (aK (aJ (lvP p q) v) k))<0↔i<k):=by
  intro i hi;constructor
  .intro h;rcases jB i k with h2|h2|h2
   .exact h2
   .subst h2;exact absurd h (rl h)
   .exact absurd h (rl (v8 O hv hi h2))
  .exact λh=>v8 O hv hk h
 obtain⟨h1,h2,h3⟩:=Hg (f:=λx=>bl (bP p x) (bP p (aK (aJ (lvP p q) v) k))) (l:=aJ (lvP p q) v) (λi j hij hj h=>(key i (by omega)).2 (by have:=(key j hj).1 h;omega));rcases jB (bsP (λx=>bl (bP p x) (bP p (aK (aJ (lvP p q) v) k))) (aJ (lvP p q) v)) k with h4|h4|h4
 .exact absurd ((key _ (by omega)).2 h4) (h3 _ (bD _) (by omega))
 .exact h4
 .exact absurd ((key k hk).1 (h2 k h4)) (Ch _)
theorem zy{h:Int}(hh:HIn p h)(ht:q (twX h)=true):∃v k,v<p.vs.length/\stP p (twX h)=(v:Int)/\k<(aJ (lvP p q) v).length/\aK (aJ (lvP p q) v) k=twX h/\
  nxP p (lvP p q) h=aK (aJ (lvP p q) v) ((k+(aJ (lvP p q) v).length-1) % (aJ (lvP p q) v).length):=by
 have ht1:=hh.tw P;have hs:=lW P ht1;have hv:(stP p (twX h)).toNat<p.vs.length:=by omega
 have hm:=(Ga (p:=p) (q:=q) hv).2 ⟨⟨ht1,ht⟩,by omega⟩;obtain⟨k,hk,e⟩:=mK.1 hm;have e:aK (aJ (lvP p q) (stP p (twX h)).toNat) k=twX h:=by rw[show aK (aJ (lvP p q) (stP p (twX h)).toNat) k=(aJ (lvP p q) (stP p (twX h)).toNat)[k]from cE hk];exact e
 refine⟨_,k,hv,by omega,hk,e,?_⟩;have hb:=Xl O hv hk;rw[e]at hb;unfold nxP;dsimp only;rw[if_neg (by omega),hb]
omit O in
theorem JQ{h:Int}(hh:HIn p h):twX (twX h)=h:=by have:=P.le;have h2:=hh.tw P;rw[sk h2.1 (by have:=h2.2;omega),sk hh.1 (by have:=hh.2;omega)];split<;>split<;>omega
theorem tV(hq:∀h,HIn p h->q h=true->q (twX h)=true)(h:Int)(hh:Hq p q h):Hq p q (nxP p (lvP p q) h)/\stP p (nxP p (lvP p q) h)=stP p (twX h):=by obtain⟨v,k,hv,e1,hk,e2,e3⟩:=zy P O hh.1 (hq h hh.1 hh.2);have hl:(k+(aJ (lvP p q) v).length-1) % (aJ (lvP p q) v).length<(aJ (lvP p q) v).length:=fJ _ (by omega);have:=(Ga (p:=p) (q:=q) hv).1 (iB hl);rw[e3,e1];exact this
theorem YF(hq:∀h,HIn p h->q h=true->q (twX h)=true)(a b:Int)(ha:Hq p q a)(hb:Hq p q b)(h:nxP p (lvP p q) a=nxP p (lvP p q) b):a=b:=by
 obtain⟨v,k,hv,e1,hk,e2,e3⟩:=zy P O ha.1 (hq a ha.1 ha.2);obtain⟨w,j,hw,f1,hj,f2,f3⟩:=zy P O hb.1 (hq b hb.1 hb.2);have s1:=(tV P O hq a ha).2;have s2:=(tV P O hq b hb).2;rw[h,s2,e1,f1]at s1;have hvw:w=v:=by omega
 subst hvw;rw[e3,f3]at h;have n0:0<(aJ (lvP p q) w).length:=by omega
 have h1:=Wk O hw (fJ _ n0) (fJ _ n0) h;have hkj:k=j:=by
  have c:∀{k n:Nat},k<n->(k+n-1) % n=if k=0 then n-1 else k-1:=by
   intro k n hk;split
   .rename_i h0;subst h0;rw[mC (by omega)];omega
   .rw[show k+n-1=(k-1)+n by omega,Nat.add_mod_right,mC (by omega)]
  rw[c hk,c hj]at h1;split at h1<;>split at h1<;>omega
 subst hkj;rw[e2]at f2;have:=congrArg twX f2;rwa[JQ P ha.1,JQ P hb.1]at this
end
theorem ll{p:Pl}(P:PlOk p)(O:LvO p aC):CyInv p aC (lvP p aC) (2*p.es.length) (cyO p aC (lvP p aC) (2*p.es.length)):=
 HZ (λh hh=>(tV P O (λ_ _ _=>rfl) h hh).1) (λa b ha hb h=>YF P O (λ_ _ _=>rfl) a b ha hb h) _ (bD _)
def IX{k:Int}{o c:List Int}{x:Nat}:∀{j:Nat},j<=c.length->(∀h∈c,0<=h/\h<o.length)->
  ((∃i,i<j/\aK c i=x)->aK (ofC k o c j) x=k)/\((¬∃i,i<j/\aK c i=x)->aK (ofC k o c j) x=aK o x)
 |0,_,_=>⟨λ⟨i,h,_⟩=>by omega,λ_=>rfl⟩
 |j+1,hj,hc=>by
  obtain⟨h1,h2⟩:=IX (k:=k) (o:=o) (x:=x) (j:=j) (by omega) hc;have hm:=hc _ (iB (l:=c) (i:=j) (by omega));have hl:=sQ k o c j;unfold ofC;rw[fC];by_cases e:aK c j=x
  .rw[if_pos ⟨by omega,by omega⟩];exact⟨λ_=>rfl,λh=>absurd ⟨j,by omega,e⟩ h⟩
  .rw[if_neg (λh=>e (by omega))];constructor
   .rintro⟨i,h3,h4⟩;refine h1 ⟨i,?_,h4⟩;rcases jT i j with h5|h5
    .exact h5
    .have:i=j:=by omega
     subst this;exact absurd h4 e
   .intro h;exact h2 λ⟨i,h3,h4⟩=>h ⟨i,by omega,h4⟩
def FW{l:List Int}{x:Int}(h:x∈l):∃i,i<l.length/\aK l i=x:=by obtain⟨i,hi,e⟩:=mK.1 h;exact⟨i,hi,by rw[show aK l i=l[i]from cE hi];exact e⟩
section
variable {p:Pl} (P:PlOk p) (O:LvO p aC)
include P O
theorem kK{j:Nat}(hj:j<(cyP p aC).length):aJ (cyP p aC) j∈cyP p aC:=oH hj
theorem Iu{i j:Nat}(hj:j<(cyP p aC).length)(hij:i<j):(∀x∈aJ (cyP p aC) i,x∉aJ (cyP p aC) j)/\aK (aJ (cyP p aC) i) 0<aK (aJ (cyP p aC) j) 0:=by have V:=ll P O;have h1:=nq.1 V.dis i j (by show i<(cyP p aC).length;omega) hj hij;have h2:=nq.1 V.asc i j (by show i<(cyP p aC).length;omega) hj hij;rw[show aJ (cyP p aC) i=(cyP p aC)[i]from cE (by omega),show aJ (cyP p aC) j=(cyP p aC)[j]from cE hj];exact⟨h1,h2⟩
theorem Ba:∀k,k<=(cyP p aC).length->∀j,j<k->∀h∈aJ (cyP p aC) j,aK (ph1 p k).2.1 h.toNat=(j:Int)
 |0,_,j,hj,_,_=>by omega
 |k+1,hk,j,hj,h,hh=>by
  have V:=ll P O;have hlen:=(mV p k).2;have hc:∀x∈aJ (cyP p aC) k,0<=x/\x<(ph1 p k).2.1.length:=λx hx=>by have:=((V.cyc _ (kK P O (j:=k) (by omega))).1.mem x hx).1;rw[hlen];exact⟨this.1,by have:=this.2;omega⟩
  have e:(ph1 p (k+1)).2.1=ofC k (ph1 p k).2.1 (aJ (cyP p aC) k) (aJ (cyP p aC) k).length:=by show(if _ then _ else _:PhA).2.1=_;split<;>rfl
  have hp:=((V.cyc _ (kK P O (j:=j) (by omega))).1.mem h hh).1.1;obtain⟨h1,h2⟩:=IX (k:=(k:Int)) (o:=(ph1 p k).2.1) (c:=aJ (cyP p aC) k) (x:=h.toNat) (bD _) hc;rw[e];by_cases ejk:j=k
  .subst ejk;obtain⟨i,hi,ei⟩:=FW hh;exact h1 ⟨i,hi,by rw[ei];omega⟩
  .rw[h2 ?_]
   .exact Ba k (by omega) j (by omega) h hh
   .rintro⟨i,hi,ei⟩;have hm:h∈aJ (cyP p aC) k:=by have:=iB (l:=aJ (cyP p aC) k) hi;rw[ei,pQ hp]at this;exact this
    exact(Iu P O (i:=j) (j:=k) (by omega) (by omega)).1 h hh hm
theorem LO{h:Int}(hh:HIn p h):∃j,j<(cyP p aC).length/\h∈aJ (cyP p aC) j:=by have V:=ll P O;obtain⟨c,hc,hm⟩:=(V.done h.toNat).1 (V.low h ⟨hh,rfl⟩ (by have:=hh.2;omega));rw[pQ hh.1]at hm;obtain⟨j,hj,e⟩:=mK.1 hc;have hj:j<(cyP p aC).length:=hj;exact⟨j,hj,by rw[show aJ (cyP p aC) j=(cyP p aC)[j]from cE hj];exact e▸hm⟩
theorem YE{j:Nat}(hj:j<(cyP p aC).length){h:Int}(hh:h∈aJ (cyP p aC) j):nxP p (lvP p aC) h∈aJ (cyP p aC) j:=by
 have C:=((ll P O).cyc _ (kK P O hj)).1;generalize aJ (cyP p aC) j=c at*;rw[C.orb]at hh|-;obtain⟨i,hi,rfl⟩:=oO.1 hh;by_cases e:i+1=c.length
 .refine oO.2 ⟨0,C.ne,?_⟩;rw[<-jZ (nxP p (lvP p aC)),e,C.close];rfl
 .exact oO.2 ⟨i+1,by omega,jZ _ _ _⟩
omit P O in
theorem Ig{c:List Int}:∀{k:Nat},k<=c.length->∀i,i<k->fm p c k<=stP p (aK c i)
 |0,_,i,hi=>by omega
 |k+1,hk,i,hi=>by
  unfold fm;by_cases e:i=k
  .subst e;omega
  .have:=Ig (c:=c) (k:=k) (by omega) i (by omega);omega
omit P O in
theorem G0{c:List Int}{h:Int}(hh:h∈c):bz p c<=stP p h:=by obtain⟨i,hi,rfl⟩:=FW hh;exact Ig (bD _) i hi
end
structure BwIs(q:Pt)(e:BwE):Prop where
 dx:(aB3 e.b e.a).x≠0
 lf:e.lf.x*q.den<=q.x*e.lf.den
 rt:q.x*e.rt.den<e.rt.x*q.den
 n:bwN q e<q.y*(aB3 e.b e.a).x
theorem I6(p:Pl)(q:Pt):∀k,(bwK p q k).1<0\/∃j,j<k/\(bwK p q k).1=(bwE p j).h/\BwIs q (bwE p j)
 |0=> .inl (by show(-1:Int)<0;decide)
 |k+1=>by
  have ih:(bwK p q k).1<0\/∃j,j<k+1/\(bwK p q k).1=(bwE p j).h/\BwIs q (bwE p j):=(I6 p q k).imp_right λ⟨j,h1,h2⟩=>⟨j,by omega,h2⟩;show(bwS q (bwE p k) (bwK p q k)).1<0\/∃j,j<k+1/\(bwS q (bwE p k) (bwK p q k)).1=(bwE p j).h/\BwIs q (bwE p j);unfold bwS;split
  .exact ih
  .rename_i h1;split
   .exact ih
   .rename_i h2;split
    .exact .inr ⟨k,by omega,rfl,⟨by omega,by omega,by omega,by omega⟩⟩
    .exact ih
def Fb{c d L R Q:Q2}(D:c.x<d.x)(hL:cr c d L=0)(hR:cr c d R=0)(h1:L.x<=Q.x)(h2:Q.x<R.x)
  (h3:c.y*(d.x-c.x)+(d.y-c.y)*(Q.x-c.x)<Q.y*(d.x-c.x)):L.y<Q.y\/R.y<Q.y:=by
 unfold cr at hL hR;have hp:0<d.x-c.x:=by grind
 have can:∀{u v:Rat},u*(d.x-c.x)<v*(d.x-c.x)->u<v:=λh=>Rat.lt_of_mul_lt_mul_right h (Rat.le_of_lt hp);by_cases hy:0<=d.y-c.y
 .left;have:=Rat.mul_le_mul_of_nonneg_left (show L.x-c.x<=Q.x-c.x by grind) hy;exact can (by grind)
 .right;have:=Rat.mul_le_mul_of_nonneg_left (show Q.x-c.x<=R.x-c.x by grind) (show 0<= -(d.y-c.y) by grind);exact can (by grind)
def Sv{a b c d:Rat}(hb:0<b)(hd:0<d):a/b<=c/d↔a*d<=c*b:=by rw[<-Rat.not_lt,<-Rat.not_lt,uw hd hb]
def I3{q:Pt}{e:BwE}(hq:0<q.den)(hl:0<e.lf.den)(hr:0<e.rt.den)(B:BwIs q e):
  (rp e.lf).x<=(rp q).x/\(rp q).x<(rp e.rt).x/\(rv e.a).y*((rv e.b).x-(rv e.a).x)+((rv e.b).y-(rv e.a).y)*((rp q).x-(rv e.a).x)<(rp q).y*((rv e.b).x-(rv e.a).x):=by
 have hq':(0:Rat)<q.den:=by exact_mod_cast hq
 have hl':(0:Rat)<e.lf.den:=by exact_mod_cast hl
 have hr':(0:Rat)<e.rt.den:=by exact_mod_cast hr
 refine⟨?_,?_,?_⟩
 .show(e.lf.x:Rat)/e.lf.den<=q.x/q.den;rw[Sv hl' hq']
  exact_mod_cast B.lf
 .show(q.x:Rat)/q.den<e.rt.x/e.rt.den;rw[uw hq' hr']
  exact_mod_cast B.rt
 .have n:=B.n;unfold bwN aB3 at n;dsimp only at n;have n:(e.a.y:Rat)*(e.b.x-e.a.x)*q.den+(e.b.y-e.a.y)*(q.x-e.a.x*q.den)<q.y*(e.b.x-e.a.x):=by exact_mod_cast n
  show(e.a.y:Rat)*(e.b.x-e.a.x)+(e.b.y-e.a.y)*(q.x/q.den-e.a.x)<q.y/q.den*(e.b.x-e.a.x);have hne:(q.den:Rat)≠0:=λh=>by rw[h]at hq';exact Rat.lt_irrefl hq'
  refine Rat.lt_of_mul_lt_mul_right (c:=(q.den:Rat)) ?_ (Rat.le_of_lt hq');have e1:((e.a.y:Rat)*(e.b.x-e.a.x)+(e.b.y-e.a.y)*(q.x/q.den-e.a.x))*q.den=(e.a.y:Rat)*(e.b.x-e.a.x)*q.den+(e.b.y-e.a.y)*(q.x-e.a.x*q.den):=by grind
  have e2:((q.y:Rat)/q.den*(e.b.x-e.a.x))*q.den=q.y*(e.b.x-e.a.x):=by grind
  rw[e1,e2];exact n
section
variable {l:List S} (H:Sgs l)
include H
theorem Aa{v:Nat}(hv:v<(vsP l).length):0<(aP (vsP l) v).den:=by have:=(sj H (sA hv)).1.den;omega
theorem Gj{i v:Nat}(hi:i<l.length)(h:OnV l i v):cr (lo (aO l i)) (Go.Proofs.YtdnhebjljnfjaaaGreat.hi (aO l i)) (rp (aP (vsP l) v))=0:=((kB (H i hi).ne).1 h).1
end
theorem JB{l:List S}{k a b i:Nat}(E:EdAt l k a b i):bwE (aA l) k=if(hiS (aO l i)).x<(loS (aO l i)).x then⟨2*k+1,aP (vsP l) b,aP (vsP l) a,hiS (aO l i),loS (aO l i)⟩else⟨2*k,aP (vsP l) a,aP (vsP l) b,loS (aO l i),hiS (aO l i)⟩:=by unfold bwE;dsimp only;rw[E.ln];dsimp only;have e:aX (aA l).es k=⟨a,b,0,0,fY l a b l.length⟩:=E.ed;rw[e];dsimp only;rw[kX,kX];rfl
theorem Yl{l:List S}(H:Sgs l){k a b i:Nat}(E:EdAt l k a b i){q:Pt}(hq:0<q.den)(B:BwIs q (bwE (aA l) k)):ltQ (rp (aP (vsP l) a)) (rp q):=by
 have ab:=wN H E.adj.bd E.adj.lt;have da:=Aa H (v:=a) (by have:=E.adj.lt;have:=E.adj.bd;omega);have db:=Aa H E.adj.bd;have ca:=Gj H E.il E.adj.oa;have cb:=Gj H E.il E.adj.ob;have lh:=Bf (H i E.il).ne;rw[JB E]at B;have fin:(rp (aP (vsP l) a)).y<(rp q).y\/(rp (aP (vsP l) b)).y<(rp q).y:=by
  split at B
  .rename_i hx;obtain⟨h1,h2,h3⟩:=I3 hq db da B;have hx':(hi (aO l i)).x<(lo (aO l i)).x:=by show((hiS (aO l i)).x:Rat)<(loS (aO l i)).x;exact_mod_cast hx
   have c1:cr (hi (aO l i)) (lo (aO l i)) (rp (aP (vsP l) b))=0:=by unfold cr at*;grind
   have c2:cr (hi (aO l i)) (lo (aO l i)) (rp (aP (vsP l) a))=0:=by unfold cr at*;grind
   exact(Fb hx' c1 c2 h1 h2 h3).symm
  .rename_i hx;obtain⟨h1,h2,h3⟩:=I3 hq da db B;have hd:=B.dx;unfold aB3 at hd;dsimp only at hd;have hx':(lo (aO l i)).x<(hi (aO l i)).x:=by show((loS (aO l i)).x:Rat)<(hiS (aO l i)).x;exact_mod_cast (show(loS (aO l i)).x<(hiS (aO l i)).x by omega)
   exact Fb hx' ca cb h1 h2 h3
 unfold ltQ at*;rcases fin with h|h
 .exact .inl h
 .left;rcases ab with h2|⟨h2,_⟩
  .grind
  .rw[h2];exact h
theorem XS{l:List S}{j k:Nat}(hj:j<(esP l).length)(h:(aX (esP l) j).fr<(aX (esP l) k).fr):j<k:=by
 have hs:(esP l).Pairwise λa b=>ltC gc b a=false:=pR (w8 (HO (pW l l.length))) (edM (cS l l.length)) λ_ h=>h;rcases jB j k with h1|h1|h1
 .exact h1
 .subst h1;omega
 .have h2:=nq.1 hs k j (by omega) hj h1;have h3:¬gc (esP l)[j] (esP l)[k] <0:=of_decide_eq_false h2;rw[oV]at h3;rw[vm hj,vm (show k<(esP l).length by omega)]at h;omega
theorem AT{l:List S}(hl:l.length<=100)(h0:eV l=0):BdOk l:=by
 have H:=IK h0;have P:=Wq hl H;have O:=XE H aC;refine⟨hl,λi hi p hp=>(wB H hi hp).1.1,P,O,?_⟩;intro k hk hin hb;have V:=ll P O;have hk:k<(cyP (aA l) aC).length:=hk;have C:=(V.cyc _ (kK P O hk)).1;generalize hc:aJ (cyP (aA l) aC) k=c at*;obtain⟨h1,hm1,e1⟩:=AB C.ne c.length (bD _);have hs:=lW P (C.mem h1 hm1).1;have e1:bz (aA l) c=stP (aA l) h1:=e1;have hv0:(bz (aA l) c).toNat<(vsP l).length:=by have:stP (aA l) h1<(vsP l).length:=hs.2;omega
 have hq:=Aa H hv0;have hbw:bwQ (aA l) c=(bwK (aA l) (aP (vsP l) (bz (aA l) c).toNat) (esP l).length).1:=rfl;rcases I6 (aA l) (aP (vsP l) (bz (aA l) c).toNat) (esP l).length with hneg|⟨j,hj,ej,B⟩
 .rw[hbw]at hb;omega
 .obtain⟨a,b,i,E⟩:=tx H hj;have hlow:=Yl H E hq B;have hbj:bwQ (aA l) c=2*j\/bwQ (aA l) c=2*j+1:=by
   rw[hbw,ej,JB E];split
   .exact .inr rfl
   .exact .inl rfl
  have hav:a<(bz (aA l) c).toNat:=by
   rcases jB a (bz (aA l) c).toNat with h|h|h
   .exact h
   .rw[<-h]at hlow;exact absurd hlow io
   .exact absurd (lP hlow (wN H (by have:=E.adj.lt;have:=E.adj.bd;omega) h)) io
  have hm0:aK c 0∈c:=iB C.ne;have hin0:=(C.mem _ hm0).1;obtain⟨m,hm,em⟩:=uu hin0.1 hin0.2;have hm:m<(esP l).length:=hm;obtain⟨a',b',i',F⟩:=tx H hm;have hnx:nxP (aA l) (lvP (aA l) aC) (aK c 0)∈c:=by have:=YE P O hk (h:=aK c 0) (by rw[hc];exact hm0);rwa[hc]at this
  have l1:=G0 (p:=aA l) hm0;have l2:=G0 (p:=aA l) hnx;rw[(tV P O (λ_ _ _=>rfl) (aK c 0) (C.mem _ hm0)).2]at l2;have hfr:bz (aA l) c<=a':=by
   rcases em with em|em
   .rw[em,(mZ F).2]at l1;exact l1
   .have htw:twX (aK c 0)=((2*m:Nat):Int):=by have:=P.le;rw[sk hin0.1 (by have:=hin0.2;omega),em,if_neg (by omega)];omega
    rw[htw,(mZ F).2]at l2;exact l2
  have hjm:j<m:=XS hj (by rw[E.ed,F.ed];show(a:Int)<a';omega);have hlt:bwQ (aA l) c<aK c 0:=by omega
  have hbin:HIn (aA l) (bwQ (aA l) c):=⟨hb,by show _<2*((esP l).length:Int);omega⟩;obtain⟨n,hn,hmem⟩:=LO P O hbin;have e2:=Ba P O (nC (aA l)) (bD _) n hn _ hmem;rw[e2];have hlast:=(V.cyc _ (kK P O hn)).1.least _ hmem;rcases jB n k with h|h|h
  .omega
  .subst h;rw[hc]at hlast;omega
  .have:=(Iu P O (i:=k) (j:=n) hn h).2;rw[hc]at this;omega
def fb(p:Pl)(j:Nat):Bool:=inP p (aJ (cyP p aC) j) (lvP p aC)
def niC(p:Pl):Nat->Nat
 |0=>0
 |k+1=>if fb p k=true then niC p k else niC p k+1
def bgF(p:Pl):Nat->List (List (List Int))
 |0=>[[]]
 |k+1=>if fb p k=true then bgF p k else bgF p k++[[aJ (cyP p aC) k]]
def lV(p:Pl):∀k,(bgF p k).length=niC p k+1
 |0=>rfl
 |k+1=>by
  unfold bgF niC;split
  .exact lV p k
  .rw[dj,lV p k];rfl
def VT(p:Pl){j k:Nat}(h:j<=k):niC p j<=niC p k:=by
 induction k with
 |zero=>have:j=0:=by omega
        subst this;exact bD _
 |succ k ih=>
  by_cases e:j=k+1
  .subst e;exact bD _
  .have:=ih (by omega);show _<=(if fb p k=true then niC p k else niC p k+1);split<;>omega
def Ia(p:Pl){j k:Nat}(h:j<k)(hj:fb p j=false):niC p j<niC p k:=by
 have h1:=VT p (show j+1<=k by omega);have h2:niC p (j+1)=niC p j+1:=by show(if fb p j=true then _ else _)=_;rw[hj];rfl
 omega
def zF{l r:List (List (List Int))}{i:Nat}:ag (l++r) i=if i<l.length then ag l i else ag r (i-l.length):=by unfold ag;rw[b9,b9,b9,List.getElem?_append];split<;>rfl
def JD(p:Pl):∀k j,j<k->fb p j=false->ag (bgF p k) (niC p j+1)=[aJ (cyP p aC) j]
 |0,j,h,_=>by omega
 |k+1,j,h,hj=>by
  unfold bgF;by_cases e:j=k
  .subst e;rw[hj,if_neg (by decide),zF,lV,if_neg (by omega)];rw[show niC p j+1-(niC p j+1)=0 by omega];rfl
  .have ih:=JD p k j (by omega) hj;split
   .exact ih
   .rw[zF,lV,if_pos (by have:=Ia p (show j<k by omega) hj;omega)];exact ih
def pw(p:Pl):∀k,k<=nC p->(ph1 p k).2.2=bgF p k/\∀j,j<k->aK (ph1 p k).1 j=if fb p j=true then-1 else((niC p j+1:Nat):Int)
 |0,_=>⟨rfl,λj h=>by omega⟩
 |k+1,hk=>by
  obtain⟨h1,h2⟩:=pw p k (by omega);have hl:=(mV p k).1;unfold ph1 bgF;by_cases e:fb p k=true
  .rw[if_pos e,if_pos (show inP p _ _=true from e)];refine⟨h1,λj hj=> ?_⟩;dsimp only;rw[fC];by_cases ej:j=k
   .subst ej;rw[if_pos ⟨rfl,by omega⟩,if_pos e]
   .rw[if_neg (λh=>ej h.1.symm)];exact h2 j (by omega)
  .rw[if_neg e,if_neg (show¬inP p _ _=true from e)];refine⟨by dsimp only;rw[h1],λj hj=> ?_⟩;dsimp only;rw[fC];by_cases ej:j=k
   .subst ej;rw[if_pos ⟨rfl,by rw[fB];omega⟩,if_neg e,h1,lV]
   .rw[if_neg (λh=>ej h.1.symm),fC,if_neg (λh=>ej h.1.symm)];exact h2 j (by omega)
def VP{L:List (List (List Int))}{i j:Nat}{v:List (List Int)}(h:i<L.length):ag (L.set i v) j=if i=j then v else ag L j:=by
 unfold ag;rw[b9,b9,gh];by_cases e:i=j
 .rw[if_pos e,if_pos h,if_pos e];rfl
 .rw[if_neg e,if_neg e]
def fcC(p:Pl)(k:Nat):Int:=aK (ph2 p (nC p)).1 k
def inF(p:Pl)(i:Nat):Nat->List (List Int)
 |0=>[]
 |k+1=>if fb p k=true/\fcC p k=i then inF p i k++[aJ (cyP p aC) k]else inF p i k
def YZ{p:Pl}{o fa c:List Int}{k j:Nat}(h:j≠k):aK (fdP p o fa c k) j=aK fa j:=by
 unfold fdP;split
 .split
  .rw[fC,if_neg (λe=>h e.1.symm),fC,if_neg (λe=>h e.1.symm)]
  .rw[fC,if_neg (λe=>h e.1.symm)]
 .rfl
def wC(p:Pl)(k:Nat):(ph2 p (k+1)).1=fdP p (ph1 p (nC p)).2.1 (ph2 p k).1 (aJ (cyP p aC) k) k:=by show(if _ then _ else _:PhB).1=_;split<;>rfl
def FJ(p:Pl){j k:Nat}(h:j<k):∀n,aK (ph2 p (k+n)).1 j=aK (ph2 p k).1 j
 |0=>rfl
 |n+1=>by
  rw[<-Nat.add_assoc,wC,YZ (by omega)];exact FJ p h n
def wJ(p:Pl){j k:Nat}(h:j<k)(hk:k<=nC p):aK (ph2 p k).1 j=fcC p j:=by have:=FJ p h (nC p-k);rw[show k+(nC p-k)=nC p by omega]at this;exact this.symm
section
variable {l:List aB2} (B:BdOk l)
include B
theorem Au{k:Nat}(hk:k<nC (aA l))(h:fb (aA l) k=false):fcC (aA l) k=((niC (aA l) k+1:Nat):Int):=by
 have I:=oM B k (by omega);have h1:=(pw (aA l) (nC (aA l)) (bD _)).2 k hk;rw[h,if_neg (by decide)]at h1;have h2:aK (ph2 (aA l) k).1 k=((niC (aA l) k+1:Nat):Int):=by rw[I.v2 k (bD _),h1]
 rw[<-wJ (aA l) (show k<k+1 by omega) (by omega),wC];unfold fdP;rw[if_neg (by omega)];exact h2
theorem Ya{k:Nat}(hk:k<nC (aA l))(h:fb (aA l) k=true):aK (ph2 (aA l) k).1 k= -1/\
  fcC (aA l) k=if 0<=bwQ (aA l) (aJ (cyP (aA l) aC) k)then fcC (aA l) (aK (ph1 (aA l) (nC (aA l))).2.1 (bwQ (aA l) (aJ (cyP (aA l) aC) k)).toNat).toNat else 0:=by
 have I:=oM B k (by omega);have h1:=(pw (aA l) (nC (aA l)) (bD _)).2 k hk;rw[h,if_pos rfl]at h1;have h2:aK (ph2 (aA l) k).1 k= -1:=by rw[I.v2 k (bD _),h1]
 have hl:k<(ph2 (aA l) k).1.length:=by rw[I.l1];exact hk
 refine⟨h2,?_⟩;rw[<-wJ (aA l) (show k<k+1 by omega) (by omega),wC];unfold fdP;rw[if_pos (by omega)];by_cases hb:0<=bwQ (aA l) (aJ (cyP (aA l) aC) k)
 .rw[if_pos hb,if_pos hb];have S:=zC B hk I (by omega) hb;have hbel:=B.bel k hk h hb;have hj:=S.j;rw[fC,if_pos ⟨rfl,by rw[fB];exact hl⟩,fC,if_neg (λe=>by omega)];exact wJ (aA l) (by omega) (by omega)
 .rw[if_neg hb,if_neg hb,fC,if_pos ⟨rfl,hl⟩]
theorem Bj{k:Nat}(hk:k<nC (aA l)):0<=fcC (aA l) k/\fcC (aA l) k<niC (aA l) (nC (aA l))+1:=by have I:=oM B (nC (aA l)) (bD _);have:=I.v1 k hk;rw[(pw (aA l) (nC (aA l)) (bD _)).1,lV]at this;exact this
theorem re:∀k,k<=nC (aA l)->(ph2 (aA l) k).2.length=niC (aA l) (nC (aA l))+1/\∀i,ag (ph2 (aA l) k).2 i=ag (bgF (aA l) (nC (aA l))) i++inF (aA l) i k
 |0,_=>by
  have e:(ph2 (aA l) 0).2=bgF (aA l) (nC (aA l)):=(pw (aA l) (nC (aA l)) (bD _)).1;rw[e];exact⟨lV _ _,λi=>by show _=_++[];rw[jW]⟩
 |k+1,hk=>by
  obtain⟨h1,h2⟩:=re k (by omega);have hfin:=Bj B (k:=k) (by omega);have efa:=wC (aA l) k;have efk:=wJ (aA l) (show k<k+1 by omega) hk;rw[efa]at efk;by_cases hi:fb (aA l) k=true
  .obtain⟨n1,n2⟩:=Ya B (k:=k) (by omega) hi;have ho:ouP (ph2 (aA l) k).1 (ph2 (aA l) k).2 (aJ (cyP (aA l) aC) k) k=false:=by unfold ouP;rw[n1];rfl
   have e2:(ph2 (aA l) (k+1)).2=(ph2 (aA l) k).2.set (fcC (aA l) k).toNat (ag (ph2 (aA l) k).2 (fcC (aA l) k).toNat++[aJ (cyP (aA l) aC) k]):=by show(if _ then _ else _:PhB).2=_;rw[ho,if_neg (by decide)];dsimp only;rw[show fdP (aA l) (ph1 (aA l) (cyP (aA l) aC).length).2.1 (ph2 (aA l) k).1 (aJ (cyP (aA l) aC) k) k=fdP (aA l) (ph1 (aA l) (nC (aA l))).2.1 (ph2 (aA l) k).1 (aJ (cyP (aA l) aC) k) k from rfl,efk]
   rw[e2];refine⟨by rw[fB];exact h1,λi=> ?_⟩;rw[VP (by omega)];unfold inF;by_cases e:(fcC (aA l) k).toNat=i
   .rw[if_pos e,if_pos ⟨hi,by omega⟩,e,h2,jz]
   .rw[if_neg e,if_neg (λh=>e (by omega)),h2]
  .have hi:fb (aA l) k=false:=by cases h:fb (aA l) k<;>simp_all
   have hf:=Au B (k:=k) (by omega) hi;have I:=oM B k (by omega);have g1:=(pw (aA l) (nC (aA l)) (bD _)).2 k (by omega);rw[hi,if_neg (by decide)]at g1;have g2:aK (ph2 (aA l) k).1 k=((niC (aA l) k+1:Nat):Int):=by rw[I.v2 k (bD _),g1]
   have hb:=JD (aA l) (nC (aA l)) k (by omega) hi;have ho:ouP (ph2 (aA l) k).1 (ph2 (aA l) k).2 (aJ (cyP (aA l) aC) k) k=true:=by unfold ouP;rw[g2,kX,h2,hb];have:aJ ([aJ (cyP (aA l) aC) k] ++inF (aA l) (niC (aA l) k+1) k) 0=aJ (cyP (aA l) aC) k:=rfl;rw[this];simp
   have e2:(ph2 (aA l) (k+1)).2=(ph2 (aA l) k).2:=by show(if _ then _ else _:PhB).2=_;rw[ho,if_pos rfl]
   rw[e2];refine⟨h1,λi=> ?_⟩;unfold inF;rw[hi,if_neg (λh=>by cases h.1)];exact h2 i
end
def IS(p:Pl)(o fa:List Int){k:Nat}(hk:k<p.es.length):∀e,aX (ph3 p o fa e) k=if k<e then{aX p.es k with lf:=aK fa (aK o (2*k)).toNat,rt:=aK fa (aK o (2*k+1)).toNat}else aX p.es k
 |0=>by rw[if_neg (by omega)];rfl
 |e+1=>by
  have ih:=IS p o fa hk e;have hl:=sO p o fa e;have e1:aX (ph3 p o fa (e+1)) k=if e=k then{aX (ph3 p o fa e) e with lf:=aK fa (aK o (2*e)).toNat,rt:=aK fa (aK o (2*e+1)).toNat}else aX (ph3 p o fa e) k:=by
   show aX ((ph3 p o fa e).set e _) k=_;unfold aX;rw[b9,gh];by_cases h:e=k
   .rw[if_pos h,if_pos (by omega),if_pos h];rfl
   .rw[if_neg h,if_neg h,b9]
  rw[e1];by_cases h:e=k
  .subst h;rw[if_pos rfl,if_pos (by omega),ih,if_neg (by omega)]
  .rw[if_neg h,ih];by_cases h2:k<e
   .rw[if_pos h2,if_pos (by omega)]
   .rw[if_neg h2,if_neg (by omega)]
def cyN(p:Pl)(h:Int):Nat:=(aK (ph1 p (nC p)).2.1 h.toNat).toNat
section
variable {l:List S} (B:BdOk l)
include B
theorem A4{h:Int}{j:Nat}(hj:j<nC (aA l))(hh:h∈aJ (cyP (aA l) aC) j):cyN (aA l) h=j:=by have:=Ba B.pl B.ord (nC (aA l)) (bD _) j hj h hh;unfold cyN;omega
theorem Iv{h:Int}(hh:HIn (aA l) h):cyN (aA l) h<nC (aA l)/\h∈aJ (cyP (aA l) aC) (cyN (aA l) h):=by obtain⟨j,hj,hm⟩:=LO B.pl B.ord hh;rw[A4 B hj hm];exact⟨hj,hm⟩
def fcH(p:Pl)(h:Int):Int:=fcC p (cyN p h)
omit B in
theorem Ax{k:Nat}(hk:k<(esP l).length):aX (eR (aA l)).es k={aX (esP l) k with lf:=fcH (aA l) (2*k:Nat),rt:=fcH (aA l) (2*k+1:Nat)}:=by have h:=IS (aA l) (ph1 (aA l) (nC (aA l))).2.1 (ph2 (aA l) (nC (aA l))).1 (k:=k) hk (aA l).es.length;rw[if_pos (show k<(aA l).es.length from hk)]at h;exact h
theorem AC:(eR (aA l)).es.length=(esP l).length/\(eR (aA l)).vs=vsP l/\(eR (aA l)).sg=l/\(eR (aA l)).fs.length=niC (aA l) (nC (aA l))+1:=
 ⟨sO _ _ _ _,rfl,rfl,(re B (nC (aA l)) (bD _)).1⟩
omit B in
theorem G9{i:Nat}{c:List Int}:∀{k},k<=nC (aA l)->(c∈inF (aA l) i k↔∃j,j<k/\fb (aA l) j=true/\fcC (aA l) j=i/\c=aJ (cyP (aA l) aC) j)
 |0,_=>by unfold inF;simp
 |k+1,hk=>by
  have ih:=G9 (i:=i) (c:=c) (k:=k) (by omega);unfold inF;split
  .rename_i h;rw[d7,ih,bO];constructor
   .rintro(⟨j,h1,h2⟩|rfl)
    .exact⟨j,by omega,h2⟩
    .exact⟨k,by omega,h.1,h.2,rfl⟩
   .rintro⟨j,h1,h2,h3,h4⟩;by_cases e:j=k
    .subst e;exact .inr h4
    .exact .inl ⟨j,by omega,h2,h3,h4⟩
  .rename_i h;rw[ih];constructor
   .rintro⟨j,h1,h2⟩;exact⟨j,by omega,h2⟩
   .rintro⟨j,h1,h2,h3,h4⟩;by_cases e:j=k
    .subst e;exact absurd ⟨h2,h3⟩ h
    .exact⟨j,by omega,h2,h3,h4⟩
omit B in
theorem Hh{i:Nat}{c:List Int}:∀{k},k<=nC (aA l)->(c∈ag (bgF (aA l) k) i↔∃j,j<k/\fb (aA l) j=false/\niC (aA l) j+1=i/\c=aJ (cyP (aA l) aC) j)
 |0,_=>by
  constructor
  .intro h;exfalso;unfold bgF ag at h;rw[b9]at h;rcases i with _|i
   .cases h
   .simp at h
  .rintro⟨j,h,_⟩;omega
 |k+1,hk=>by
  have ih:=Hh (i:=i) (c:=c) (k:=k) (by omega);unfold bgF;split
  .rename_i h;rw[ih];constructor
   .rintro⟨j,h1,h2⟩;exact⟨j,by omega,h2⟩
   .rintro⟨j,h1,h2,h3⟩;by_cases e:j=k
    .subst e;rw[h]at h2;cases h2
    .exact⟨j,by omega,h2,h3⟩
  .rename_i h;have h:fb (aA l) k=false:=by cases h2:fb (aA l) k<;>simp_all
   rw[zF,lV];split
   .rename_i hi;rw[ih];constructor
    .rintro⟨j,h1,h2⟩;exact⟨j,by omega,h2⟩
    .rintro⟨j,h1,h2,h3⟩;by_cases e:j=k
     .subst e;omega
     .exact⟨j,by omega,h2,h3⟩
   .rename_i hi;constructor
    .intro hc;have h0:i-(niC (aA l) k+1)=0:=by
      rcases h0:i-(niC (aA l) k+1)with _|n
      .rfl
      .rw[h0]at hc;unfold ag at hc;rw[b9]at hc;simp at hc
     rw[h0]at hc;exact⟨k,by omega,h,by omega,bO.1 hc⟩
    .rintro⟨j,h1,h2,h3,rfl⟩;by_cases e:j=k
     .subst e;rw[show i-(niC (aA l) j+1)=0 by omega];exact eC
     .have:=Ia (aA l) (show j<k by omega) h2;omega
theorem zX{i:Nat}{c:List Int}:c∈ag (eR (aA l)).fs i↔∃j,j<nC (aA l)/\fcC (aA l) j=i/\c=aJ (cyP (aA l) aC) j:=by
 have e:ag (eR (aA l)).fs i=_:=(re B (nC (aA l)) (bD _)).2 i;rw[e,d7,Hh (bD _),G9 (bD _)];constructor
 .rintro(⟨j,h1,h2,h3,h4⟩|⟨j,h1,h2,h3,h4⟩)
  .exact⟨j,h1,by rw[Au B h1 h2,h3],h4⟩
  .exact⟨j,h1,h3,h4⟩
 .rintro⟨j,h1,h2,h3⟩;cases hi:fb (aA l) j with
  |true=>exact .inr ⟨j,h1,hi,h2,h3⟩
  |false=>exact .inl ⟨j,h1,hi,by have:=Au B h1 hi;omega,h3⟩
end
def kQ(m:Nat)(L:List Int):List Int:=(bN m).map λh:Nat=>((L.count (h:Int):Nat):Int)
def F8(m:Nat)(L:List Int):(kQ m L).length=m:=by unfold kQ;simp
def AM{m:Nat}{L:List Int}{h:Nat}(hh:h<m):aK (kQ m L) h=(L.count (h:Int):Nat):=by unfold kQ aK;rw[b9,dH,iK hh];rfl
def V2(m:Nat):bT m 0=kQ m [] :=by
 unfold kQ;apply i7;intro i;rw[dH,i9];by_cases hi:i<m
 .rw[if_pos hi,iK hi];rfl
 .rw[if_neg hi,d8 (by simp;omega)];rfl
def UL{m:Nat}{L:List Int}{h:Int}(h0:0<=h)(h1:h<m):(kQ m L).set h.toNat (aK (kQ m L) h.toNat+1)=kQ m (L++[h]):=by
 rw[AM (by omega)];unfold kQ;apply i7;intro i;rw[gh,dH,dH];by_cases hi:i<m
 .rw[iK hi];by_cases e:h.toNat=i
  .rw[if_pos e,if_pos (by simp;omega)];simp only[dV,nt,List.count_singleton];have e1:((h.toNat:Nat):Int)=h:=by omega
   have e2:((i:Nat):Int)=h:=by omega
   rw[e1,e2,if_pos (by simp)];rfl
  .rw[if_neg e];simp only[dV,nt,List.count_singleton];rw[if_neg (by simp;omega)];rfl
 .rw[d8 (l:=bN m) (by simp;omega)];split
  .split
   .rename_i e _;omega
   .rfl
  .rfl
def snA(p:Pl)(i:Nat):List Int:=(p.fs.take i).flatten.flatten
def snB(p:Pl)(i j:Nat):List Int:=snA p i++((ag p.fs i).take j).flatten
def snC(p:Pl)(i j k:Nat):List Int:=snB p i j++(aJ (ag p.fs i) j).take k
def snL(p:Pl)(L:List Int):List Int:=kQ (2*p.es.length) L
def Ux(p:Pl)(i:Nat):snA p i=snB p i 0:=by unfold snB;simp
def Uv(p:Pl)(i j:Nat):snB p i j=snC p i j 0:=by unfold snC;simp
def Uw{p:Pl}{i j k:Nat}(h:k<(aJ (ag p.fs i) j).length):snC p i j k++[aK (aJ (ag p.fs i) j) k] =snC p i j (k+1):=by unfold snC;rw[show aK (aJ (ag p.fs i) j) k=(aJ (ag p.fs i) j)[k]from cE h,jz,ug h]
def GW{p:Pl}{i j:Nat}(h:j<(ag p.fs i).length):snC p i j (aJ (ag p.fs i) j).length=snB p i (j+1):=by
 unfold snC snB;rw[iM,jz,show aJ (ag p.fs i) j=(ag p.fs i)[j]from cE h]
 congr 1
 rw[<-ug h,np,Qh]
def GX{p:Pl}{i:Nat}(h:i<p.fs.length):snB p i (ag p.fs i).length=snA p (i+1):=by unfold snB snA;rw[iM,show ag p.fs i=p.fs[i]from cE h,<-ug h,np,np,Qh]
def WZ(p:Pl):snA p p.fs.length=p.fs.flatten.flatten:=by unfold snA;rw[iM]
def V1(h:Int)(L:List (List Int))(j:Nat):(L.take j).flatten.count h<=L.flatten.count h:=by
 have e:L.flatten.count h=(L.take j).flatten.count h+(L.drop j).flatten.count h:=by
  conv=>lhs;rw[<-lK j L]
  rw[np,nt]
 omega
def Xz{p:Pl}{i j k:Nat}(hi:i<p.fs.length)(hj:j<(ag p.fs i).length)(h:Int):(snC p i j k).count h<=p.fs.flatten.flatten.count h:=by
 have h1:(snC p i j k).count h<=(snC p i j (aJ (ag p.fs i) j).length).count h:=by unfold snC;rw[iM,nt,nt];have:=(List.take_sublist k (aJ (ag p.fs i) j)).count_le h;omega
 have h2:(snB p i (j+1)).count h<=(snB p i (ag p.fs i).length).count h:=by unfold snB;rw[iM,nt,nt];have:=V1 h (ag p.fs i) (j+1);omega
 have h3:(snA p (i+1)).count h<=p.fs.flatten.flatten.count h:=by
  have e:p.fs.flatten.flatten.count h=(snA p (i+1)).count h+(p.fs.drop (i+1)).flatten.flatten.count h:=by
   conv=>lhs;rw[<-lK (i+1) p.fs]
   rw[np,np,nt];rfl
  omega
 rw[GW hj]at h1;rw[GX hi]at h2;omega
structure CyL(p:Pl):Prop where
 s:PlS p
 low:∀c h,(∃f∈p.fs,c∈f)->h∈c->aK c 0<=h
 nx:∀c k,(∃f∈p.fs,c∈f)->k<c.length->(eA p (aK c k)).2=(eA p (aK c ((k+1) % c.length))).1
 side:∀i c h,c∈ag p.fs i->h∈c->qq p h=i
 once:∀h,HIn p h->p.fs.flatten.flatten.count h=1
def rs(n:Nat)(f:Nat->Nat):Nat:=((bN n).map f).sum
def oK(n:Nat)(f:Nat->Nat):rs (n+1) f=rs n f+f n:=by unfold rs;rw[pJ,dQ,xq];simp
def Aj(f g:Nat->Nat):∀n,rs n (λi=>f i+g i)=rs n f+rs n g
 |0=>rfl
 |n+1=>by rw[oK,oK,oK,Aj f g n];omega
def v7(a i:Nat):∀n,rs n (λj=>if j=i then a else 0)=if i<n then a else 0
 |0=>rfl
 |n+1=>by
  rw[oK,v7 a i n];by_cases h:n=i
  .subst h;rw[if_neg (by omega),if_pos rfl,if_pos (by omega)];omega
  .rw[if_neg h];by_cases h2:i<n
   .rw[if_pos h2,if_pos (by omega),Nat.add_zero]
   .rw[if_neg h2,if_neg (by omega)]
def pg{f g:Nat->Nat}:∀{n},(∀i,i<n->f i=g i)->rs n f=rs n g
 |0,_=>rfl
 |n+1,h=>by rw[oK,oK,h n (by omega),pg λi hi=>h i (by omega)]
def IF(f:List (List Int)->Nat):∀L:List (List (List Int)),(L.map f).sum=rs L.length λi=>f (ag L i):=by
 intro L;unfold rs
 congr 1
 apply i7;intro i;rw[dH,dH];by_cases h:i<L.length
 .rw[iK h,c8 h];show some _=some (f (ag L i));rw[show ag L i=L[i]from cE h]
 .rw[d8 (by omega),d8 (by simp;omega)];rfl
def cf(h:Int)(f:List (List Int)):Nat:=(f.map (List.count h)).sum
def Iy(h:Int)(f g:List (List Int)):cf h (f++g)=cf h f+cf h g:=by unfold cf;rw[dQ,xq]
def UJ(h:Int)(L:List (List (List Int))):L.flatten.flatten.count h=(L.map (cf h)).sum:=by
 induction L with
 |nil=>rfl
 |cons f L ih=>
  rw[List.flatten_cons,np,nt,ih,cO,List.sum_cons,List.count_flatten];rfl
def Ib(p:Pl):∀k,niC p k<=k
 |0=>bD _
 |k+1=>by
  have:=Ib p k;unfold niC;split<;>omega
def HB(p:Pl)(i:Nat):∀k,(inF p i k).length<=k
 |0=>bD _
 |k+1=>by
  have:=HB p i k;unfold inF;split
  .rw[dj,eM];omega
  .omega
def BB(p:Pl):∀k,∀f∈bgF p k,f.length<=1
 |0,f,h=>by rw[bO.1 h];exact ce _
 |k+1,f,h=>by
  unfold bgF at h;split at h
  .exact BB p k f h
  .rcases d7.1 h with h|h
   .exact BB p k f h
   .rw[bO.1 h];exact bD _
def Ez(l:List S)(a b:Nat):∀k,(fY l a b k).length<=k
 |0=>bD _
 |k+1=>by
  have:=Ez l a b k;unfold fY;rw[dj];split
  .rw[eM];omega
  .rw[iH];omega
section
variable {l:List S} (B:BdOk l)
include B
theorem Ij(h:Int):∀k,k<=nC (aA l)->((bgF (aA l) k).map (cf h)).sum+rs (niC (aA l) (nC (aA l))+1) (λi=>cf h (inF (aA l) i k))=rs k λj=>(aJ (cyP (aA l) aC) j).count h
 |0,_=>by
  have:rs (niC (aA l) (nC (aA l))+1) (λi=>cf h (inF (aA l) i 0))=rs (niC (aA l) (nC (aA l))+1) (λi=>if i=0 then 0 else 0):=pg λi _=>by split<;>rfl
  rw[this,v7];show(0+0)+(if _ then 0 else 0)=0;split<;>rfl
 |k+1,hk=>by
  have ih:=Ij h k (by omega);have es:rs (k+1) (λj=>(aJ (cyP (aA l) aC) j).count h)=_:=oK k _;rw[es,<-ih];cases hi:fb (aA l) k with
  |true=>
   have hf:=Bj B (k:=k) (by omega);have e1:bgF (aA l) (k+1)=bgF (aA l) k:=if_pos hi;have e2:rs (niC (aA l) (nC (aA l))+1) (λi=>cf h (inF (aA l) i (k+1)))=rs (niC (aA l) (nC (aA l))+1) (λi=>cf h (inF (aA l) i k)+if i=(fcC (aA l) k).toNat then(aJ (cyP (aA l) aC) k).count h else 0):=pg λi hi2=>by
    show cf h (if fb (aA l) k=true/\fcC (aA l) k=i then _ else _)=_;by_cases e:i=(fcC (aA l) k).toNat
    .rw[if_pos ⟨hi,by omega⟩,if_pos e,Iy];unfold cf;simp
    .rw[if_neg (λhh=>e (by omega)),if_neg e];rfl
   rw[e1,e2,Aj,v7,if_pos (by omega)];omega
  |false=>
   have e1:bgF (aA l) (k+1)=bgF (aA l) k++[[aJ (cyP (aA l) aC) k]] :=if_neg (by rw[hi];decide);have e2:rs (niC (aA l) (nC (aA l))+1) (λi=>cf h (inF (aA l) i (k+1)))=rs (niC (aA l) (nC (aA l))+1) (λi=>cf h (inF (aA l) i k)):=pg λi hi2=>by show cf h (if fb (aA l) k=true/\fcC (aA l) k=i then _ else _)=_;rw[if_neg (λhh=>by rw[hi]at hh;cases hh.1)]
   rw[e1,e2,dQ,xq];have e3:([[aJ (cyP (aA l) aC) k]].map (cf h)).sum=(aJ (cyP (aA l) aC) k).count h:=by unfold cf;simp
   rw[e3];omega
theorem WP{h:Int}(hh:HIn (aA l) h):(eR (aA l)).fs.flatten.flatten.count h=1:=by
 obtain⟨f1,f2⟩:=re B (nC (aA l)) (bD _);rw[UJ,IF];have e1:rs (eR (aA l)).fs.length (λi=>cf h (ag (eR (aA l)).fs i))=rs (niC (aA l) (nC (aA l))+1) (λi=>cf h (ag (bgF (aA l) (nC (aA l))) i)+cf h (inF (aA l) i (nC (aA l)))):=by rw[(AC B).2.2.2];exact pg λi _=>by rw[show ag (eR (aA l)).fs i=_ from f2 i,Iy]
 have e2:=IF (cf h) (bgF (aA l) (nC (aA l)));rw[lV]at e2;have e3:=Ij B h (nC (aA l)) (bD _);rw[e1,Aj,<-e2,e3];obtain⟨c1,c2⟩:=Iv B hh;have e4:rs (nC (aA l)) (λj=>(aJ (cyP (aA l) aC) j).count h)=rs (nC (aA l)) (λj=>if j=cyN (aA l) h then 1 else 0):=pg λj hj=>by
  split
  .rename_i e;subst e;exact((ll B.pl B.ord).cyc _ (kK B.pl B.ord hj)).1.nd.count.trans (if_pos c2)
  .rename_i e;exact QX.2 λhm=>e (A4 B hj hm).symm
 rw[e4,v7,if_pos c1]
omit B in
theorem XV(p:Pl)(h:Int):(eA p h).1=stP p h:=by unfold eA stP;split<;>rfl
omit B in
theorem XU{p:Pl}(P:PlOk p){h:Int}(H:HIn p h):(eA p h).2=stP p (twX h):=by
 have:=P.le;have h1:=H.1;have h2:=H.2;rw[sk h1 (by omega)];unfold eA stP;have e:∀x:Int,0<=x->dI x 2=x % 2/\bg x 2=x/2:=λx hx=>⟨rK hx,ub hx⟩;rw[(e h h1).1,(e h h1).2];by_cases h3:h % 2=0
 .rw[if_pos h3,if_pos h3,(e (h+1) (by omega)).1,(e (h+1) (by omega)).2,if_neg (by omega),show(h+1)/2=h/2 by omega]
 .rw[if_neg h3,if_neg h3,(e (h-1) (by omega)).1,(e (h-1) (by omega)).2,if_pos (by omega),show(h-1)/2=h/2 by omega]
omit B in
theorem HL{h:Int}(hh:HIn (aA l) h):eA (eR (aA l)) h=eA (aA l) h:=by have e:=Ax (l:=l) (k:=(h.tdiv 2).toNat) (by have:=hh.e;have:((aA l).es.length)=(esP l).length:=rfl;omega);unfold eA;rw[e];rfl
omit B in
theorem Zh{h:Int}(hh:HIn (aA l) h):qq (eR (aA l)) h=fcH (aA l) h:=by
 have he:=hh.e;have h1:=hh.1;have e:=Ax (l:=l) (k:=(h.tdiv 2).toNat) (by have:((aA l).es.length)=(esP l).length:=rfl;omega);have d:bg h 2=h/2:=ub h1;have m:dI h 2=h % 2:=rK h1;unfold qq;rw[e];split
 .dsimp only;congr 1;omega
 .dsimp only;congr 1;omega
theorem Z6{j:Nat}(hj:j<nC (aA l)){h:Int}(hh:h∈aJ (cyP (aA l) aC) j):HIn (aA l) h:=((ll B.pl B.ord).cyc _ (kK B.pl B.ord hj)).1.mem h hh|>.1
theorem Wp(H:Sgs l):PlS (eR (aA l)):=by
 obtain⟨e1,e2,e3,e4⟩:=AC B;have P:=B.pl;have hle:=P.le;have hes:(aA l).es.length=(esP l).length:=rfl;have he:∀e∈(eR (aA l)).es,∃k,k<(esP l).length/\e={aX (esP l) k with lf:=fcH (aA l) (2*k:Nat),rt:=fcH (aA l) (2*k+1:Nat)}/\aX (esP l) k∈(aA l).es:=λe hm=>by
  obtain⟨k,hk,rfl⟩:=mK.1 hm;rw[e1]at hk;refine⟨k,hk,?_,?_⟩
  .rw[<-Ax hk,show aX (eR (aA l)).es k=_ from cE (by rw[e1];exact hk)]
  .rw[show aX (esP l) k=(esP l)[k]from cE hk];exact du hk
 have hn:niC (aA l) (nC (aA l))<=nC (aA l):=Ib _ _;have hcy:=wn P;have hc:nC (aA l)<=800000:=cZ hcy.1 (by omega);have hf:∀h,HIn (aA l) h->0<=fcH (aA l) h/\fcH (aA l) h<(eR (aA l)).fs.length:=λh hh=>by have:=Bj B (Iv B hh).1;rw[e4];exact this
 refine⟨⟨P.ls,P.lv,by rw[e1];exact hle,λe hm=> ?_,λe hm=> ?_,P.bd,P.pt⟩,⟨λe hm=> ?_,by rw[e4];omega,λf hm=> ?_⟩⟩
 .obtain⟨k,hk,rfl,h2⟩:=he e hm;exact P.fr (aX (esP l) k) h2
 .obtain⟨k,hk,rfl,h2⟩:=he e hm;exact P.src (aX (esP l) k) h2
 .obtain⟨k,hk,rfl,h2⟩:=he e hm;have f1:=hf (2*k:Nat) ⟨by omega,by omega⟩;have f2:=hf (2*k+1:Nat) ⟨by omega,by omega⟩;refine⟨f1.1,f1.2,f2.1,f2.2,?_⟩;obtain⟨a,b,_,e5⟩:=(vp H).1 h2;show(aX (esP l) k).src.length<=1000000;rw[e5];have h5:=Ez l a b l.length;have h6:=B.len;show(fY l a b l.length).length<=1000000;omega
 .obtain⟨i,hi,rfl⟩:=mK.1 hm;rw[<-show ag (eR (aA l)).fs i=(eR (aA l)).fs[i]from cE hi];refine⟨?_,λc hc=> ?_⟩
  .rw[show ag (eR (aA l)).fs i=_ from(re B (nC (aA l)) (bD _)).2 i,dj];have h1:=HB (aA l) i (nC (aA l));have h2:(ag (bgF (aA l) (nC (aA l))) i).length<=1:=by
    by_cases hi2:i<(bgF (aA l) (nC (aA l))).length
    .rw[show ag (bgF (aA l) (nC (aA l))) i=(bgF (aA l) (nC (aA l)))[i]from cE hi2];exact BB _ _ _ (du hi2)
    .unfold ag;rw[b9,d8 (by omega)];exact ce _
   omega
  obtain⟨j,h1,_,rfl⟩:=(zX B).1 hc;have C:=((ll B.pl B.ord).cyc _ (kK B.pl B.ord h1)).1;refine⟨by have:=(hcy.2 _ (kK P B.ord h1)).2.1;omega,λh hh=> ?_⟩;have:=(C.mem h hh).1;exact⟨this.1,by have:=this.2;rw[e1];omega⟩
theorem Yf(H:Sgs l):CyL (eR (aA l)):=by
 have F:=λc (h:∃f∈(eR (aA l)).fs,c∈f)=>show∃j,j<nC (aA l)/\c=aJ (cyP (aA l) aC) j from by obtain⟨f,hf,hc⟩:=h;obtain⟨i,hi,rfl⟩:=mK.1 hf;rw[<-show ag (eR (aA l)).fs i=(eR (aA l)).fs[i]from cE hi]at hc;obtain⟨j,h1,_,h2⟩:=(zX B).1 hc;exact⟨j,h1,h2⟩
 have V:=ll B.pl B.ord;refine⟨Wp B H,λc h hc hm=> ?_,λc k hc hk=> ?_,λi c h hc hm=> ?_,λh hh=>WP B ?_⟩
 .obtain⟨j,hj,rfl⟩:=F c hc;exact(V.cyc _ (kK B.pl B.ord hj)).1.least h hm
 .obtain⟨j,hj,rfl⟩:=F c hc;have C:=(V.cyc _ (kK B.pl B.ord hj)).1;generalize aJ (cyP (aA l) aC) j=c at*;have hin:∀x,x<c.length->HIn (aA l) (aK c x):=λx hx=>(C.mem _ (iB hx)).1;have hn:(k+1) % c.length<c.length:=fJ _ (by omega);have at_:∀x,x<c.length->aK c x=itN (nxP (aA l) (lvP (aA l) aC)) x (aK c 0):=λx hx=>by
   have h1:aK (orb (nxP (aA l) (lvP (aA l) aC)) c.length (aK c 0)) x=itN (nxP (aA l) (lvP (aA l) aC)) x (aK c 0):=by unfold orb aK;rw[b9,dH,iK hx];rfl
   rw[<-C.orb]at h1;exact h1
  have e:aK c ((k+1) % c.length)=nxP (aA l) (lvP (aA l) aC) (aK c k):=by
   rw[at_ k hk,<-jZ (nxP (aA l) (lvP (aA l) aC))];by_cases h1:k+1<c.length
   .rw[mC h1,at_ _ h1]
   .have h2:k+1=c.length:=by omega
    rw[h2,Nat.mod_self,C.close]
  rw[HL (hin k hk),HL (hin _ hn),XU B.pl (hin k hk),XV,e];exact((tV B.pl B.ord (λ_ _ _=>rfl) _ ⟨hin k hk,rfl⟩).2).symm
 .obtain⟨j,h1,h2,rfl⟩:=(zX B).1 hc;have hq:=(Z6 B h1 hm);rw[Zh hq];unfold fcH;rw[A4 B h1 hm];exact h2
 .have:=(AC B).1;exact⟨hh.1,by have:=hh.2;have:((aA l).es.length)=(esP l).length:=rfl;omega⟩
end
noncomputable section
set_option warn.classDefReducibility false
class Chk (l:List Prop) where
 b:Bool
 h:b=true->∀p∈l,p
instance:Chk [] :=⟨true,λ_ _ h=>(dP h).elim⟩
instance chkCons(p:Prop)(l:List Prop) [d:Decidable p] [c:Chk l] :Chk (p::l):=⟨(match d with| .isTrue _=>c.b| .isFalse _=>false),λh q hq=>by
 split at h
 .rcases bh.1 hq with rfl|hq
  .assumption
  .exact c.h h q hq
 .cases h⟩
instance chkApp(a b:List Prop) [c:Chk a] [d:Chk b] :Chk (a++b):=⟨(match c.b with|true=>d.b|false=>false),λh q hq=>by
 split at h
 .rcases d7.1 hq with hq|hq
  .exact c.h (by assumption) q hq
  .exact d.h h q hq
 .cases h⟩
def LP(l:List Prop):Chk l:=⟨false,λh=>nomatch h⟩
instance(x:Int):Decidable (aG x):=inferInstanceAs (Decidable (_/\_))
instance(a:Int)(n:Nat):Decidable (ix a n):=inferInstanceAs (Decidable (_/\_))
instance chkOv:∀(ov:List (Nat×SV)) (a:Nat),Chk (iv ov a)
 |[],_=>inferInstanceAs (Chk [])
 |q::l,a=> @chkCons (a≠q.1) (iv l a) inferInstance (chkOv l a)
def ChO{α:Type}(s:Option (List Prop×α)):Type:=∀q,s=some q->Chk q.1
def qA(k:IntKind)(x:Int)(raw:Bool):Chk (jo raw k x).1:=by unfold jo;split<;>infer_instance
def S3(raw:Bool)(op:BinOp)(k:IntKind)(a b:Int):ChO (sv raw op k a b):=by intro q h;have:=qA k (a+b) raw;have:=qA k (a-b) raw;have:=qA k (a*b) raw;have:=qA k (a.tdiv b) raw;cases op<;>unfold sv at h<;>cases h<;>(first|infer_instance|(dsimp only;infer_instance))
def V6(P:Program)(e:EqT)(raw:Bool)(op:BinOp)(t:TypeId)(x y:SV):ChO (tk P e raw op t x y):=by
 intro q h;unfold tk at h
 repeat' split at h
 all_goals first
  |exact S3 _ _ _ _ _ q h
  |(cases h<;>(first|infer_instance|(dsimp only;infer_instance)))
def Xi(raw:Bool)(op:UnOp)(x:SV):ChO (sun raw op x):=by
 intro q h;unfold sun at h
 repeat' split at h
 all_goals (cases h<;>first|exact qA _ _ _|first|infer_instance|(dsimp only;infer_instance))
def UR(P:Program)(raw:Bool)(s d:TypeId)(x:SV):ChO (tT P raw s d x):=by
 intro q h;unfold tT at h
 repeat' split at h
 all_goals (cases h<;>exact qA _ _ _)
def Sz(P:Program)(t:TypeId)(x:SV)(lo hi:Option Int):ChO (sm P t x lo hi):=by
 intro q h;unfold sm at h
 repeat' split at h
 all_goals (cases h<;>(first|infer_instance|(dsimp only;infer_instance)))
def S0(P:Program)(t:TypeId)(x i:SV):ChO (sq P t x i):=by
 intro q h;unfold sq at h
 repeat' split at h
 all_goals (cases h<;>(first|infer_instance|(dsimp only;infer_instance)))
def UQ(P:Program)(t:TypeId)(x:SV)(σ:Sg):ChO (tS P t x σ):=by
 intro q h;unfold tS at h
 repeat' split at h
 all_goals (cases h<;>(first|infer_instance|(dsimp only;infer_instance)))
def Sy(P:Program)(t:TypeId)(a v:SV)(σ:Sg):ChO (qE P t a v σ):=by
 intro q h;unfold qE at h
 repeat' split at h
 all_goals (cases h<;>(first|infer_instance|(dsimp only;infer_instance)))
def V8(σ:Sg)(e:TypeId)(lt:LT)(x:SV):ChO (oz σ e lt x):=by
 intro q h;unfold oz at h
 repeat' split at h
 all_goals (cases h<;>(first|infer_instance|(dsimp only;infer_instance)))
def V5(σ:Sg)(lt:LT)(x:SV):ChO (qM σ lt x):=by
 intro q h;unfold qM at h
 repeat' split at h
 all_goals (cases h<;>(first|infer_instance|(dsimp only;infer_instance)))
def V7(P:Program)(ltOf:TypeId->Option LT)(n:Nat)(t t':TypeId)(σ:Sg)(x y:SV):ChO (qi P ltOf n t t' σ x y):=by
 intro q h;unfold qi at h;split at h
 .exact LP _
 unfold tU at h;split at h
 case h_2=>cases h
 split at h
 case h_2=>cases h
 split at h
 case h_2=>cases h
 rename_i h1 h2;have:=V8 _ _ _ _ _ h1;have:=V5 _ _ _ _ h2;cases h;dsimp only at*;infer_instance
def UP(P:Program)(ltOf:TypeId->Option LT)(σ:Sg)(n:Nat)(t:TypeId)(x y:SV):ChO (tR P ltOf σ n t x y):=by
 intro q h;unfold tR at h
 repeat' split at h
 all_goals (cases h<;>(first|infer_instance|(dsimp only;infer_instance)))
def pn{f:SV->Option (List Prop×SV)}(hf:∀x,ChO (f x)):∀l:List SV,ChO (gD f l)
 |[],q,h=>by cases h;exact inferInstanceAs (Chk [])
 |x::l,q,h=>by
  unfold gD at h;split at h
  .rename_i h1 h2;have:=hf x _ h1;have:=pn hf l _ h2;cases h;dsimp only at*;infer_instance
  .cases h
def UO(d:Nat)(σ:Sg)(x n:Nat):ChO (qO d σ x n):=by
 intro q h;unfold qO at h
 repeat' split at h
 all_goals (cases h<;>(first|infer_instance|(dsimp only;infer_instance)))
def SO{σ:Sg}{x:SV}{q:List Prop×SV}(h:eT 0 σ x=some q):q.1=[] :=by cases x<;>unfold eT at h<;>first|(cases h;rfl)|(split at h<;>cases h;rfl)
def rj:∀(d:Nat) (σ:Sg) (x:SV),ChO (eT d σ x)
 |0,_,_=>λq h=>by
  have e:=SO h;rw[e];exact inferInstanceAs (Chk [])
 |d+1,σ,x=>λq h=>by
  have ih:= @pn _ (rj d σ);cases x
  case ownx s n=>
   unfold eT at h;split at h
   .split at h
    .rename_i hm;cases h;exact ih _ _ hm
    .cases h
   .cases h
  case ptr s n=>
   unfold eT at h;split at h
   .split at h
    .rename_i hm;cases h;exact ih _ _ hm
    .cases h
   .cases h
  case owF x n=>exact UO _ _ _ _ q h
  case agg l=>
   unfold eT at h;split at h
   .rename_i hm;cases h;exact ih _ _ hm
   .cases h
  case fn f a b=>
   unfold eT at h;split at h
   .rename_i h1 h2;have:=ih _ _ h1;have:=ih _ _ h2;cases h;dsimp only at*;infer_instance
   .cases h
  all_goals
   unfold eT at h
   repeat' split at h
   all_goals (cases h<;>(first|infer_instance|(dsimp only;infer_instance)))
def pp(o:Option SV):ChO (kw o):=by
 intro q h;unfold kw at h
 repeat' split at h
 all_goals (cases h<;>(first|infer_instance|(dsimp only;infer_instance)))
def vF{o:Option (List Prop×SV)}(ho:ChO o):ChO (nK o):=by
 intro q h;unfold nK at h;split at h
 .rename_i h1;split at h
  .rename_i ps r _ _;have:=ho _ rfl;cases h;exact this
  .cases h
 .cases h
def Ei{o:SR}(ho:ChO o):ChO (nJ o):=by
 intro q h;unfold nJ at h;split at h
 .split at h
  .have:=ho _ rfl;cases h;exact this
  .cases h
 .cases h
end
noncomputable section
set_option warn.classDefReducibility false
def Hd(X:Cx)(raw:Bool)(n:Nat)(o:Op)(E:SE)(σ:Sg):ChO (sop X raw n o E σ):=by
 intro q h;unfold sop at h;split at h
 .cases h;exact inferInstanceAs (Chk [])
 .cases h;exact inferInstanceAs (Chk [])
 .exact pp _ q h
 .unfold sw at h;split at h<;>cases h;exact inferInstanceAs (Chk [])
 .unfold tj at h;split at h<;>cases h;exact inferInstanceAs (Chk [])
 .unfold ss at h
  repeat' split at h
  all_goals (cases h<;>exact inferInstanceAs (Chk []))
 .unfold sM at h
  repeat' split at h
  all_goals (cases h<;>(first|infer_instance|(dsimp only;infer_instance)))
 .exact Ei (UQ _ _ _ _) q h
 .exact Sy _ _ _ _ _ q h
 .split at h<;>cases h;exact inferInstanceAs (Chk [])
 .exact vF (V6 _ _ _ _ _ _ _) q h
 .exact vF (Xi _ _ _) q h
 .exact vF (UR _ _ _ _ _) q h
 .cases h;exact inferInstanceAs (Chk [])
 .split at h
  .exact vF (Sz _ _ _ _ _) q h
  .cases h
 .split at h<;>cases h;exact inferInstanceAs (Chk [])
 .exact pp _ q h
 .split at h
  .rename_i h1;have:=S0 _ _ _ _ _ h1;cases h;exact this
  .cases h
 .exact pp _ q h
 .exact LP _
 .exact pp _ q h
 .exact V7 _ _ _ _ _ _ _ _ q h
 .exact pp _ q h
 .exact pp _ q h
 .exact Ei (UP _ _ _ _ _ _ _) q h
 .cases h
structure EC where
 c:Con
 k:∀x,Chk (c.pre x)
abbrev d6:=Nat->Option EC
def d6.t(T:d6):Tab:=λf=>match T f with|some e=>some e.c|none=>none
def fzN{R:Type}(n:Nat)(k:Nat->R):R:=match n with
 |0=>k 0
 |m+1=>k (m+1)
def ki{R:Type}(n:Nat)(k:Nat->R):fzN n k=k n:=by cases n<;>rfl
def fzI{R:Type}(n:Int)(k:Int->R):R:=match n with
 | .ofNat m=>fzN m λm=>k (.ofNat m)
 | .negSucc m=>fzN m λm=>k (.negSucc m)
def oZ{R:Type}(n:Int)(k:Int->R):fzI n k=k n:=by cases n<;>(unfold fzI;dsimp only;rw[ki])
def xI{R:Type}:List Int->(List Int->R)->R
 |[],k=>k []
 |a::l,k=>fzI a λa=>xI l λl=>k (a::l)
def HG{R:Type}:∀(l:List Int) (k:List Int->R),xI l k=k l
 |[],_=>rfl
 |a::l,k=>by unfold xI;rw[oZ,HG l]
def xG{R:Type}:List V->(List V->R)->R
 |[],k=>k []
 |a::l,k=>fzI a.x λx=>fzI a.y λy=>xG l λl=>k (⟨x,y⟩::l)
def HE{R:Type}:∀(l:List V) (k:List V->R),xG l k=k l
 |[],_=>rfl
 |a::l,k=>by unfold xG;rw[oZ,oZ,HE l]
def xH{R:Type}:List Pt->(List Pt->R)->R
 |[],k=>k []
 |a::l,k=>fzI a.x λx=>fzI a.y λy=>fzI a.den λd=>xH l λl=>k (⟨x,y,d⟩::l)
def HF{R:Type}:∀(l:List Pt) (k:List Pt->R),xH l k=k l
 |[],_=>rfl
 |a::l,k=>by unfold xH;rw[oZ,oZ,oZ,HF l]
def fzL{R:Type}:(t:LT)->List t.ty->(List t.ty->R)->R
 | .I,l,k=>xI l k
 | .V,l,k=>xG l k
 | .T,l,k=>xH l k
 | .S,l,k=>k l
 | .R,l,k=>k l
 | .B,l,k=>k l
 | .P,l,k=>k l
 | .Q,l,k=>k l
 | .U,l,k=>k l
 | .E,l,k=>k l
 | .F,l,k=>k l
def In{R:Type}(t:LT)(l:List t.ty)(k:List t.ty->R):fzL t l k=k l:=by cases t<;>first|rfl|exact HG _ _|exact HE _ _|exact HF _ _
def nV{R:Type}(f:SV->(SV->R)->R)(l:List SV):(List SV->R)->R:=
 rO (motive:=λ_=>(List SV->R)->R) (λk=>k []) (λx _ ih k=>f x λx=>ih λl=>k (x::l)) l
def fzA{R:Type}(f:SV->(SV->R)->R)(v:SV)(k:SV->R):R:=match v with
 | .int t n=>fzI n λn=>k (.int t n)
 | .bool b=>(match b with|true=>k (.lit true)|false=>k (.lit false))
 | .lit b=>(match b with|true=>k (.lit true)|false=>k (.lit false))
 | .prop _ e=>(match e with| .isTrue _=>k (.lit true)| .isFalse _=>k (.lit false))
 | .agg l=>nV f l λl=>k (.agg l)
 | .tup l=>nV f l λl=>k (.tup l)
 | .own s t n=>fzN n λn=>k (.own s t n)
 | .owns s t o n=>fzN o λo=>fzN n λn=>k (.owns s t o n)
 | .ownx s n=>fzN n λn=>k (.ownx s n)
 | .sl n cs=>fzN n λn=>nV f cs λcs=>k (.sl n cs)
 | .lst t l=>fzL t l λl=>k (.lst t l)
 | .ptr s o=>fzN o λo=>k (.ptr s o)
 | .pte s t i o=>fzN i λi=>fzN o λo=>k (.pte s t i o)
 | .pe t l i o=>fzN i λi=>fzN o λo=>k (.pe t l i o)
 | .pro cs o=>fzN o λo=>nV f cs λcs=>k (.pro cs o)
 |v=>k v
def fz0{R:Type}(v:SV)(k:SV->R):R:=k v
def fz1{R:Type}:SV->(SV->R)->R:=fzA fz0
def fz2{R:Type}:SV->(SV->R)->R:=fzA fz1
def CD{R:Type}:SV->(SV->R)->R:=fzA fz2
def xS{R:Type}(f:SV->(SV->R)->R):Prop:=∀v,∃v',v'.av=v.av/\(v.ok->v'.ok)/\∀k,f v k=k v'
def AH{R:Type}{f:SV->(SV->R)->R}(hf:xS f):∀l,∃l',avs l'=avs l/\∀k,nV f l k=k l'
 |[] =>⟨[],rfl,λ_=>rfl⟩
 |x::l=>by
  obtain⟨v,h1,_,h2⟩:=hf x;obtain⟨m,h3,h4⟩:=AH hf l;refine⟨v::m,by rw[avs,avs,h1,h3],λk=> ?_⟩;show f x (λx=>nV f l λl=>k (x::l))=_;rw[h2,h4]
def tH{R:Type}{f:SV->(SV->R)->R}(hf:xS f):xS (fzA f):=by
 intro v;have ih:=AH hf;cases v
 case bool b=>exact⟨.lit b,rfl,λ_=>trivial,λ_=>by cases b<;>rfl⟩
 case lit b=>exact⟨.lit b,rfl,λ_=>trivial,λ_=>by cases b<;>rfl⟩
 case prop p e=>exact⟨.lit (@decide p e),rfl,λ_=>trivial,λ_=>by cases e<;>rfl⟩
 case agg l=>
  obtain⟨m,h1,h2⟩:=ih l;exact⟨.agg m,by simp only[SV.av,h1],λ_=>trivial,λk=>h2 _⟩
 case tup l=>
  obtain⟨m,h1,h2⟩:=ih l;exact⟨.tup m,by simp only[SV.av,h1],λ_=>trivial,λk=>h2 _⟩
 case sl n l=>
  obtain⟨m,h1,h2⟩:=ih l;exact⟨.sl n m,by simp only[SV.av,h1],λ_=>trivial,λk=>by unfold fzA;dsimp only;rw[ki,h2]⟩
 case pro l n=>
  obtain⟨m,h1,h2⟩:=ih l;exact⟨.pro m n,by simp only[SV.av,h1],λ_=>trivial,λk=>by unfold fzA;dsimp only;rw[ki,h2]⟩
 all_goals first
  |exact⟨_,rfl,id,λ_=>rfl⟩
  |exact⟨_,rfl,id,λ_=>by unfold fzA;dsimp only;first|exact oZ _ _|exact ki _ _|exact In _ _ _|(rw[ki];exact ki _ _)⟩
def XP{R:Type}:xS (CD (R:=R)):=tH (tH (tH λv=>⟨v,rfl,id,λ_=>rfl⟩))
def aM.cW(d:Nat)(v:Option SOb)(F:aM)(t:Nat):aM.at ((d,v)::F) t=if t=d then v else aM.at F t:=by
 conv=>lhs;unfold aM.at
 split
 .simp_all
 .rename_i h;rw[if_neg (fw h)]
def Frm.atR(F:Frm):Nat->SV:=rO (motive:=λ_=>Nat->SV) (λ_=> .undef) (λq _ ih t=>cond (af t q.1) q.2 (ih t)) F
def Frm.tN(F:Frm):F.atR=F.at:=by
 funext t
 induction F with
 |nil=>rfl
 |cons q F ih=>
  obtain⟨d,v⟩:=q;show cond (af t d) v (Frm.atR F t)=match af t d with|true=>v|false=>Frm.at F t
  rw[ih];cases af t d<;>rfl
def aM.atR(F:aM):Nat->Option SOb:=rO (motive:=λ_=>Nat->Option SOb) (λ_=>none) (λq _ ih t=>cond (af t q.1) q.2 (ih t)) F
def aM.tN(F:aM):F.atR=F.at:=by
 funext t
 induction F with
 |nil=>rfl
 |cons q F ih=>
  obtain⟨d,v⟩:=q;show cond (af t d) v (aM.atR F t)=match af t d with|true=>v|false=>aM.at F t
  rw[ih];cases af t d<;>rfl
def tZ(n:Nat)(F:Frm):Operand->SV
 | .tmp t=>cond (dB t n) (F.atR t) .any
 | .const v=>svC v
 | .func f=> .fnp f [] []
 | .global _=> .any
def Ft(n:Nat)(F:Frm):tZ n F=br n F:=by
 funext x
 cases x with
 |tmp t=>
  show cond (dB t n) (F.atR t) .any=match dB t n with|true=>F.at t|false=>SV.any
  rw[Frm.tN];cases dB t n<;>rfl
 |_=>rfl
def gF(m d:Nat):Bool:=af (Nat.land (Nat.shiftRight m d) 1) 1
def AS(m d:Nat):gF m d=m.testBit d:=by
 have e:gF m d=af ((m>>>d)&&&1) 1:=rfl;rw[e,Nat.and_one_is_mod,Nat.testBit_eq_decide_div_mod_eq,Nat.shiftRight_eq_div_pow];cases h:decide (m/2^d % 2=1)with
 |true=>rw[of_decide_eq_true h];rfl
 |false=>
  have:=of_decide_eq_false h;cases hb:af (m/2^d % 2) 1 with
  |true=>exact(this (bm hb)).elim
  |false=>rfl
def kM(m d:Nat):Nat:=Nat.lor m (Nat.shiftLeft 1 d)
def sf(m d t:Nat):gF (kM m d) t=(gF m t||decide (t=d)):=by
 rw[AS,AS];have e:kM m d=m|||(1<<<d):=rfl
 rw[e,Nat.testBit_or,Nat.one_shiftLeft,Nat.testBit_two_pow]
 congr 1
 by_cases h:t=d
 .subst h;simp
 .rw[decide_eq_false h,decide_eq_false (λe:d=t=>h e.symm)]
def ddF{R:Type}(F:Frm):Nat->(Frm->R)->R:=rO (motive:=λ_=>Nat->(Frm->R)->R) (λ_ k=>k [])
 (λq _ ih m k=>cond (gF m q.1) (ih m k) (fzN (kM m q.1) λm=>ih m λF=>k (q::F))) F
def A3{R:Type}:∀(F:Frm) (m:Nat),∃F',(∀t,gF m t=false->Frm.at F' t=F.at t)/\∀k:Frm->R,ddF F m k=k F'
 |[],m=>⟨[],λ_ _=>rfl,λ_=>rfl⟩
 |(d,v)::F,m=>by
  cases hb:gF m d with
  |true=>
   obtain⟨F',h1,h2⟩:=A3 (R:=R) F m;refine⟨F',λt ht=> ?_,λk=> ?_⟩
   .rw[Frm.cW,if_neg (λe=>by rw[e,hb]at ht;cases ht)];exact h1 t ht
   .show cond (gF m d) (ddF F m k) _=_;rw[hb];exact h2 k
  |false=>
   obtain⟨F',h1,h2⟩:=A3 (R:=R) F (kM m d);refine⟨(d,v)::F',λt ht=> ?_,λk=> ?_⟩
   .rw[Frm.cW,Frm.cW];split
    .rfl
    .rename_i h;exact h1 t (by rw[sf,ht,decide_eq_false h];rfl)
   .show cond (gF m d) _ (fzN (kM m d) λm=>ddF F m λF=>k ((d,v)::F))=_;rw[hb,ki];exact h2 _
def ddL{R:Type}(F:aM):Nat->(aM->R)->R:=rO (motive:=λ_=>Nat->(aM->R)->R) (λ_ k=>k [])
 (λq _ ih m k=>cond (gF m q.1) (ih m k) (fzN (kM m q.1) λm=>ih m λF=>match q.2 with|some _=>k (q::F)|none=>k F)) F
def A2{R:Type}:∀(F:aM) (m:Nat),∃F',(∀t,gF m t=false->aM.at F' t=F.at t)/\(∀t,gF m t=true->aM.at F' t=none)/\∀k:aM->R,ddL F m k=k F'
 |[],m=>⟨[],λ_ _=>rfl,λ_ _=>rfl,λ_=>rfl⟩
 |(d,v)::F,m=>by
  cases hb:gF m d with
  |true=>
   obtain⟨F',h1,h0,h2⟩:=A2 (R:=R) F m;refine⟨F',λt ht=> ?_,h0,λk=> ?_⟩
   .rw[aM.cW,if_neg (λe=>by rw[e,hb]at ht;cases ht)];exact h1 t ht
   .show cond (gF m d) (ddL F m k) _=_;rw[hb];exact h2 k
  |false=>
   obtain⟨F',h1,h0,h2⟩:=A2 (R:=R) F (kM m d);have e1:∀t,t≠d->gF m t=false->gF (kM m d) t=false:=λt h ht=>by rw[sf,ht,decide_eq_false h];rfl
   have e2:gF (kM m d) d=true:=by rw[sf,decide_eq_true rfl,Bool.or_true]
   cases v with
   |some o=>
    refine⟨(d,some o)::F',λt ht=> ?_,λt ht=> ?_,λk=> ?_⟩
    .rw[aM.cW,aM.cW];split
     .rfl
     .rename_i h;exact h1 t (e1 t h ht)
    .rw[aM.cW,if_neg (λe=>by rw[e,hb]at ht;cases ht)];exact h0 t (by rw[sf,ht];rfl)
    .show cond (gF m d) _ (fzN (kM m d) λm=>ddL F m λF=>k ((d,some o)::F))=_;rw[hb,ki];exact h2 _
   |none=>
    refine⟨F',λt ht=> ?_,λt ht=>h0 t (by rw[sf,ht];rfl),λk=> ?_⟩
    .rw[aM.cW];split
     .rename_i h;subst h;exact h0 t e2
     .rename_i h;exact h1 t (e1 t h ht)
    .show cond (gF m d) _ (fzN (kM m d) λm=>ddL F m λF=>k F)=_;rw[hb,ki];exact h2 _
def ql{R:Type}(n:Nat)(F:Frm)(d:Option Nat)(r:SV)(k:Frm->R):R:=match d with
 |none=>k F
 |some d=>cond (dB d n) (k ((d,r)::F)) (k F)
def Gg{R:Type}(n:Nat)(F:Frm)(d:Option Nat)(r:SV):∃F',(∀t,F'.at t=(di n F d r).at t)/\∀k:Frm->R,ql n F d r k=k F':=by
 cases d with
 |none=>exact⟨F,λ_=>rfl,λ_=>rfl⟩
 |some d=>
  unfold ql di;dsimp only;cases dB d n with
  |true=>exact⟨(d,r)::F,λ_=>rfl,λ_=>rfl⟩
  |false=>exact⟨F,λ_=>rfl,λ_=>rfl⟩
def Frm.BC{n:Nat}{F F':Frm}(h:∀t,F'.at t=F.at t):F'.av n=F.av n:=List.map_congr_left λt _=>by rw[h]
def Frm.An{F F':Frm}(h:∀t,F'.at t=F.at t)(hF:F.ok):F'.ok:=λt=>by rw[h];exact hF t
def nF(a b:Option SOb):Prop:=(∀x,a.map (SOb.ob x)=b.map (SOb.ob x))/\∀i,a.bind (SOb.inner i)=b.bind (SOb.inner i)
def nF.rfl{a:Option SOb}:nF a a:=⟨λ_=>Eq.refl _,λ_=>Eq.refl _⟩
def XQ{L L':aM}(h:∀s,nF (L.at s) (L'.at s)):L.fn=L'.fn:=by
 funext s
 unfold aM.fn Sg.a;split
 .split
  .exact(h _).1 _
  .exact(h _).2 _
 .rfl
def fzO{R:Type}(o:Option SOb)(k:Option SOb->R):R:=match o with
 |some (.box ty cs)=>nV fz2 cs λcs=>k (some (.box ty cs))
 |some (.arr ty ez cs)=>nV fz2 cs λcs=>k (some (.arr ty ez cs))
 |some (.row ty t l)=>fzL t l λl=>k (some (.row ty t l))
 |o=>k o
def YX{R:Type}(o:Option SOb):∃o',nF o' o/\∀k:Option SOb->R,fzO o k=k o':=by
 have hs:=AH (R:=R) (f:=fz2) (tH (tH λv=>⟨v,rfl,id,λ_=>rfl⟩));unfold fzO;split
 .rename_i ty cs;obtain⟨m,h1,h2⟩:=hs cs;exact⟨some (.box ty m),⟨λx=>by simp only[dV,SOb.ob,h1],λ_=>rfl⟩,λk=>h2 _⟩
 .rename_i ty ez cs;obtain⟨m,h1,h2⟩:=hs cs;exact⟨some (.arr ty ez m),⟨λx=>by simp only[dV,SOb.ob,h1],λ_=>rfl⟩,λk=>h2 _⟩
 .exact⟨_,nF.rfl,λk=>In _ _ _⟩
 .exact⟨_,nF.rfl,λk=>rfl⟩
def w7{R:Type}(W:aM):aM->(aM->R)->R:=rO (motive:=λ_=>aM->(aM->R)->R) (λL k=>k L) (λq _ ih L k=>ih L λL=>fzO q.2 λo=>k ((q.1,o)::L)) W
def Ge{R:Type}:∀(W L:aM),∃L',(∀s,nF (aM.at L' s) (aM.at (W++L) s))/\∀k:aM->R,w7 W L k=k L'
 |[],L=>⟨L,λ_=>nF.rfl,λ_=>rfl⟩
 |(s,o)::W,L=>by
  obtain⟨L',h1,h2⟩:=Ge (R:=R) W L;obtain⟨o',h3,h4⟩:=YX (R:=R) o;refine⟨(s,o')::L',λt=> ?_,λk=>by show w7 W L (λL=>fzO o λo=>k ((s,o)::L))=_;rw[h2,h4]⟩;rw[aM.cW,mF,aM.cW];split
  .exact h3
  .exact h1 t
def wg(T:d6)(σ:Sg)(f:Nat)(xs:List SV):Option (SV×List Nat×aM):=match T f with
 |some ⟨⟨_,dec,_,.val fr res⟩,k⟩=>(match hm:gD (eT 3 σ) xs with
  |some (ps,bs)=>(match(pn (rj 3 σ) xs (ps,bs) hm).b with
   |true=>(match dec bs with
    |some x=>(match(k x).b,(res x).ape,bK (avs xs)with
     |true,false,some _=>some (res x,[],[])
     |true,false,none=>(match fr,qZ (res x)with
      |false,false=>(match xs.all (ir 3 σ)with|true=>some (res x,bE (cg 3 σ) xs,(bE (cg 3 σ) xs).map (·,none))|false=>none)
      |_,_=>some (res x,bE (cg 3 σ) xs,[]))
     |_,_,_=>none)
    |none=>none)
   |false=>none)
  |none=>none)
 |_=>none
def GE{T:d6}{n:Nat}{σ:Sg}{f:Nat}{xs:List SV}{q:SV×List Nat×aM}(h:wg T σ f xs=some q):∃ps,qP T.t n σ f xs=some (ps,q)/\∀p∈ps,p:=by
 unfold wg at h;split at h
 case h_2=>cases h
 rename_i Y dec pre fr res k hT;have e1:T.t f=some ⟨Y,dec,pre,.val fr res⟩:=by unfold d6.t;rw[hT]
 split at h
 case h_2=>cases h
 rename_i ps bs hm;split at h
 case h_2=>cases h
 rename_i hc;have hps:=(pn (rj 3 σ) xs (ps,bs) hm).h hc;split at h
 case h_2=>cases h
 rename_i x hx;refine⟨ps++pre x,?_⟩;unfold qP;rw[e1];dsimp only;rw[hm];dsimp only;rw[hx];dsimp only;split at h
 .rename_i h1 h2 h3;have hk:=(k x).h h1;cases h;rw[h2,h3];exact⟨rfl,λp hp=>(d7.1 hp).elim (hps p) (hk p)⟩
 .rename_i h1 h2 h3;have hk:=(k x).h h1;rw[h2,h3];dsimp only;refine⟨?_,λp hp=>(d7.1 hp).elim (hps p) (hk p)⟩;split at h
  .rename_i h4;rw[h4];split at h
   .rename_i h5;cases h;dsimp only;rw[h5]
   .cases h
  .rename_i hn;cases h;split
   .rename_i h4;exact(hn rfl h4).elim
   .rfl
 .cases h
def AO(T:d6)(σ:Sg)(fv:SV)(xs:List SV):Option (SV×List Nat×aM):=match fv with
 | .fn g a b=>wg T σ g (a++xs++b)
 | .fnp g a b=>(match bK (avs a),bK (avs b)with|some _,some _=>wg T σ g (a++xs++b)|_,_=>none)
 |_=>none
def S4{P:Program}{T:d6}{n:Nat}{σ:Sg}{fv:SV}{xs:List SV}{q:SV×List Nat×aM}(h:AO T σ fv xs=some q):∃ps,sL P T.t n σ fv xs=some (ps,q)/\∀p∈ps,p:=by
 unfold AO at h;unfold sL;split at h
 .exact GE h
 .split at h
  .rename_i h1 h2;dsimp only;rw[h1,h2];exact GE h
  .cases h
 .cases h
def B7:Op->Bool
 | .assign _=>false
 |_=>true
def Iz:Op->Option (Operand×List Operand)
 | .call {callee:= .value f,args, .. }=>some (f,args.toList)
 |_=>none
def opE(X:Cx)(T:d6)(more:Nat->Op->SE->Sg->Option (SV×List Nat×aM))(n:Nat)(o:Op)(E:SE)(σ:Sg):Option (SV×List Nat×aM):=match Iz o with
 |some (f,args)=>AO T σ (E f) (args.map E)
 |none=>(match h:sop X (B7 o) n o E σ with
  |some q=>(match(Hd X (B7 o) n o E σ q h).b with|true=>some q.2|false=>none)
  |none=>more n o E σ)
def lm(P:Program)(more:Nat->Op->SE->Sg->Option (SV×List Nat×aM)):Prop:=∀(n:Nat) (o:Oper) (E:SE) (σ:Sg) r rd W,(∀x,(E x).ok)->more n o.op E σ=some (r,rd,W)->(∃R' W',bB P o E.a σ.a n r.av R' W'/\bJ σ rd W R' W')/\r.ok
def YB{X:Cx}(hX:X.Ok){T:d6}(hT:T.t.Ok X.P){more:Nat->Op->SE->Sg->Option (SV×List Nat×aM)}(hM:lm X.P more){n:Nat}{o:Oper}{E:SE}{σ:Sg}{r:SV}{rd:List Nat}{W:aM}(hE:∀x,(E x).ok)(h:opE X T more n o.op E σ=some (r,rd,W)):
  (∃R' W',bB X.P o E.a σ.a n r.av R' W'/\bJ σ rd W R' W')/\r.ok:=by
 have key:∀(Y:Cx),Y.Ok->Y.P=X.P->∀raw ps,sop Y raw n o.op E σ=some (ps,r,rd,W)->(∀p∈ps,p)->(∃R' W',bB X.P o E.a σ.a n r.av R' W'/\bJ σ rd W R' W')/\r.ok:=by intro Y hY hP raw ps h1 h2;rw[<-hP];exact GT hY (raw:=raw) hE ps r rd W (by unfold By;rw[h1];rfl) h2
 unfold opE at h;split at h
 .rename_i f args hc;obtain⟨ps,h1,h2⟩:=S4 (P:=X.P) (n:=n) h;refine key {X with T:=T.t} ⟨hT,hX.2.1,hX.2.2⟩ rfl true ps ?_ h2;unfold Iz at hc;split at hc
  .rename_i ho;cases hc;rw[ho];unfold sop;exact h1
  .cases hc
 .split at h
  .rename_i q hq;split at h
   .rename_i hc;have hc:=(Hd X (B7 o.op) n o.op E σ q hq).h hc;obtain⟨ps,q2⟩:=q;cases h;exact key X hX rfl _ ps hq hc
   .cases h
  .exact hM n o E σ r rd W hE h
end
noncomputable section
set_option warn.classDefReducibility false
abbrev iG:=Nat->Op->SE->Sg->Option (SV×List Nat×aM)
abbrev EKt:=Frm->aM->dO->Option SV
abbrev ENt:=Nat->Frm->aM->dO->EKt->Option SV
def CK(X:Cx)(T:d6)(M:iG)(n N:Nat)(ds:List (Option Nat))(o:Oper)(next:ENt):ENt:=λi F L log K=>
 let go:Unit->Option SV:=λ_=>match opE X T M (N+i) o.op (tZ n F) L.atR with
  |some (r,rd,W)=>CD r λr=>w7 W L λL=>ql n F o.dst r λF=>next (i+1) F L (log++[(rd.map ncl,W.map λ(q:Nat×Option SOb)=>ncl q.1)]) K
  |none=>none
 let no:Unit->Option SV:=λ_=>ql n F o.dst .undef λF=>next (i+1) F L (log++[([],[])]) K
 match o.guard with
 |none=>go ()
 |some (j,want)=>(match(ds[j]?).join with
  |some d=>(match dB d n,F.atR d with
   |true,.lit b=>(match b,want with
    |true,true=>go ()
    |false,false=>go ()
    |_,_=>no ())
   |true,.undef=>no ()
   |_,_=>none)
  |none=>none)
def qt(X:Cx)(T:d6)(M:iG)(n N:Nat)(ds:List (Option Nat))(l:List Oper):ENt:=
 rO (motive:=λ_=>ENt) (λ_ F L log K=>K F L log) (λo _ ih=>CK X T M n N ds o ih) l
def Tl(n:Nat)(FA:List AV)(LA:Sto)(G:Frm->aM->Prop):Prop:=∃F' L',FA=F'.av n/\LA=L'.fn/\F'.ok/\G F' L'
def vq{X:Cx}(hX:X.Ok){T:d6}(hT:T.t.Ok X.P){M:iG}(hM:lm X.P M){n N:Nat}{ds:List (Option Nat)}{K:Frm->aM->dO->Option SV}{v:SV}:
  ∀(l:List Oper) (i:Nat) (F:Frm) (L:aM) (log:dO),F.ok->qt X T M n N ds l i F L log K=some v->
   cK X.P N ds l i (F.av n) L.fn log λFA LA log'=>Tl n FA LA λF' L'=>K F' L' log'=some v
 |[],i,F,L,log,hF,h=>by
  unfold cK;exact⟨F,L,rfl,rfl,hF,h⟩
 |o::rest,i,F,L,log,hF,h=>by
  have run:(match opE X T M (N+i) o.op (tZ n F) L.atR with
   |some (r,rd,W)=>CD r λr=>w7 W L λL=>ql n F o.dst r λF=>qt X T M n N ds rest (i+1) F L (log++[(rd.map ncl,W.map λ(q:Nat×Option SOb)=>ncl q.1)]) K
   |none=>none)=some v->
    ∃r R W Rc Wc,bB X.P o (c6 (F.av n)) L.fn (N+i) r R W/\inC R Rc/\inC (W.map (·.1)) Wc/\cK X.P N ds rest (i+1) (cF (F.av n) o.dst r) (aY L.fn W) (log++[(Rc,Wc)]) λFA LA log'=>Tl n FA LA λF' L'=>K F' L' log'=some v:=by
   intro h;split at h
   case h_2=>cases h
   rename_i r R W hs;rw[Ft,aM.tN]at hs;obtain⟨⟨R',W',h5,f1,f2,f3⟩,h4⟩:=YB hX hT hM (Fs hF) hs;have e1:SE.a (br n F)=c6 (F.av n):=funext λx=>eG x;rw[e1]at h5;have e3:aY L.fn W'=aM.fn (W++L):=by unfold aM.fn;rw[f3,aM.oh]
   obtain⟨r',g1,g2,g3⟩:=XP (R:=Option SV) r;rw[g3]at h;obtain⟨L',k1,k2⟩:=Ge (R:=Option SV) W L;rw[k2]at h;obtain⟨F',m1,m2⟩:=Gg (R:=Option SV) n F o.dst r';rw[m2]at h;refine⟨r.av,R',W',_,_,h5,f1,f2,?_⟩;rw[e3,<-XQ k1,<-g1,ik,<-Frm.BC m1];exact vq hX hT hM rest (i+1) F' L' _ (Frm.An m1 (mg hF (g2 h4))) h
  have skip:(ql n F o.dst .undef λF=>qt X T M n N ds rest (i+1) F L (log++[([],[])]) K)=some v->
    cK X.P N ds rest (i+1) (cF (F.av n) o.dst .undef) L.fn (log++[([],[])]) λFA LA log'=>Tl n FA LA λF' L'=>K F' L' log'=some v:=by
   intro h;obtain⟨F',m1,m2⟩:=Gg (R:=Option SV) n F o.dst .undef;rw[m2]at h;have e:AV.undef=SV.av .undef:=rfl;rw[e,ik,<-Frm.BC m1];exact vq hX hT hM rest (i+1) F' L _ (Frm.An m1 (mg hF (show SV.ok .undef from trivial))) h
  replace h:CK X T M n N ds o (qt X T M n N ds rest) i F L log K=some v:=h;unfold CK at h;unfold cK;dsimp only at h;split at h
  .rename_i hg;rw[hg];exact run h
  .rename_i j want hg;rw[hg];dsimp only;split at h
   case h_2=>cases h
   rename_i d hdj;have gd:d<n->gdA ds (F.av n) j=(match(F.at d).av with| .p (.bool b)=>some (some b)| .undef=>some none|_=>none):=by intro hlt;unfold gdA;rw[hdj];dsimp only;rw[Frm.fU hlt];rfl
   split at h
   .rename_i b hlt hb;rw[Frm.tN]at hb;rw[gd ((dU _ _).1 hlt),hb];show(if b=want then _ else _);cases b<;>cases want<;>dsimp only at h
    .rw[if_pos rfl];exact run h
    .rw[if_neg (by decide)];exact skip h
    .rw[if_neg (by decide)];exact skip h
    .rw[if_pos rfl];exact run h
   .rename_i hlt hb;rw[Frm.tN]at hb;rw[gd ((dU _ _).1 hlt),hb];exact skip h
   .cases h
def CI(X:Cx)(T:d6)(M:iG)(n:Nat)(ops:List Oper)(draw:Bool)(F:Frm)(L:aM)(N:Nat)(K:Frm->aM->Option SV):Option SV:=match draw with
 |true=>(match X.P.follows .mixedOrders,qW ops (oe ops),dOk ops n with
  |true,true,true=>qt X T M n N (ops.map (·.dst)) ops 0 F L [] λF L log=>(match mw (oe ops) log with|true=>K F L|false=>none)
  |_,_,_=>none)
 |false=>(match gOk ops with
  |true=>qt X T M n N (ops.map (·.dst)) ops 0 F L [] λF L _=>K F L
  |false=>none)
def XT{X:Cx}(hX:X.Ok){T:d6}(hT:T.t.Ok X.P){M:iG}(hM:lm X.P M){n:Nat}{ops:List Oper}{draw:Bool}{F:Frm}{L:aM}{N:Nat}{K:Frm->aM->Option SV}{v:SV}(hF:F.ok)(h:CI X T M n ops draw F L N K=some v):
  xR X.P draw ops (F.av n) L.fn N λFA LA=>Tl n FA LA λF' L'=>K F' L'=some v:=by
 unfold CI at h;split at h
 .split at h
  .rename_i h1 h2 h3;refine⟨_,h1,h2,by rw[Frm.dv];exact h3,?_⟩;refine dw ?_ (vq hX hT hM ops 0 F L [] hF h);rintro FA LA log ⟨F',L',rfl,rfl,hF',hh⟩;split at hh
   .rename_i hf;exact⟨hf,F',L',rfl,rfl,hF',hh⟩
   .cases hh
  .cases h
 .split at h
  .rename_i h1;exact⟨h1,vq hX hT hM ops 0 F L [] hF h⟩
  .cases h
abbrev th:=Exit->Frm->aM->Nat->Option SV
def Bl(body:th->Frm->aM->Nat->Option SV)(Q:th):Nat->Frm->aM->Nat->Option SV
 |0,_,_,_=>none
 |k+1,F,L,N=>ddF F 0 λF=>ddL L 0 λL=>body (λe F' L' N'=>match e with| .normal=>Bl body Q k F' L' N'|e=>Q e F' L' N') F L N
def iF(X:Cx)(T:d6)(M:iG)(n lf:Nat):Code->th->Frm->aM->Nat->Option SV
 | .skip,Q,F,L,N=>Q .normal F L N
 | .region _ ops draw,Q,F,L,N=>fzN (N+ops.size) λN'=>CI X T M n ops.toList draw F L N λF L=>Q .normal F L N'
 | .seq a b,Q,F,L,N=>iF X T M n lf a (λe F L N=>match e with| .normal=>iF X T M n lf b Q F L N|e=>Q e F L N) F L N
 | .cond c t e,Q,F,L,N=>(match tZ n F c with
   | .lit true=>iF X T M n lf t Q F L N
   | .lit false=>iF X T M n lf e Q F L N
   | .bool true=>iF X T M n lf t Q F L N
   | .bool false=>iF X T M n lf e Q F L N
   |_=>none)
 | .block id c,Q,F,L,N=>iF X T M n lf c (λe F L N=>match e with| .exit id'=>(match af id' id with|true=>Q .normal F L N|false=>Q (.exit id') F L N)|e=>Q e F L N) F L N
 | .loop c,Q,F,L,N=>Bl (λQ F L N=>iF X T M n lf c Q F L N) Q lf F L N
 | .exit id,Q,F,L,N=>Q (.exit id) F L N
 | .ret,Q,F,L,N=>Q .ret F L N
 | .scope c,Q,F,L,N=>iF X T M n lf c (λe F L N=>match e with| .goto _=>none|e=>Q e F L N) F L N
 | .label _,Q,F,L,N=>Q .normal F L N
 |_,_,_,_,_=>none
def Vv{X:Cx}(hX:X.Ok){T:d6}(hT:T.t.Ok X.P){M:iG}(hM:lm X.P M){n lf:Nat}{v:SV}:∀(c:Code) (Q:th) (F:Frm) (L:aM) (N:Nat),F.ok->iF X T M n lf c Q F L N=some v->
  awp X.P c (λe FA LA N'=>Tl n FA LA λF' L'=>Q e F' L' N'=some v) (F.av n) L.fn N:=by
 intro c;induction c with
 |skip=>intro Q F L N hF h;exact⟨F,L,rfl,rfl,hF,h⟩
 |region id ops draw=>
  intro Q F L N hF h;unfold iF at h;rw[ki]at h;exact .inl (XT hX hT hM hF h)
 |seq a b iha ihb=>
  intro Q F L N hF h;refine⟨λFA LA N'=>Tl n FA LA λF' L'=>iF X T M n lf b Q F' L' N'=some v,gi a ?_ (iha _ F L N hF h),?_⟩
  .intro e FA LA N' ht;cases e<;>exact ht
  .rintro FA LA N' ⟨F',L',rfl,rfl,hF',hh⟩;exact⟨_,_,_,cU.rfl,ihb Q F' L' N' hF' hh⟩
 |cond c t e iht ihe=>
  intro Q F L N hF h;unfold iF at h;have ev:∀u,tZ n F c=u->c6 (F.av n) c=u.av:=λu hu=>by rw[<-eG,<-Ft,hu]
  split at h
  .rename_i hc;exact⟨true,ev _ hc,λ_=>iht Q F L N hF h,λhh=>by cases hh⟩
  .rename_i hc;exact⟨false,ev _ hc,(λhh=>by cases hh),λ_=>ihe Q F L N hF h⟩
  .rename_i hc;exact⟨true,ev _ hc,λ_=>iht Q F L N hF h,λhh=>by cases hh⟩
  .rename_i hc;exact⟨false,ev _ hc,(λhh=>by cases hh),λ_=>ihe Q F L N hF h⟩
  .cases h
 |block id c ih=>
  intro Q F L N hF h;refine gi c ?_ (ih _ F L N hF h);intro e FA LA N' ht;cases e
  case exit id'=>
   dsimp only at ht|-;cases hb:af id' id with
   |true=>rw[hb]at ht;rw[if_pos (bm hb)];exact ht
   |false=>rw[hb]at ht;rw[if_neg (fw hb)];exact ht
  all_goals exact ht
 |loop c ih=>
  intro Q F L N hF h;unfold iF at h
  let rep:Nat->List AV->Sto->Nat->Prop:=λk FA LA N'=>Tl n FA LA λF' L'=>Bl (λQ F L N=>iF X T M n lf c Q F L N) Q k F' L' N'=some v
  have hmu:∃μ:List AV->Sto->Nat->Nat,∀FA LA N',(∃k,rep k FA LA N')->rep (μ FA LA N') FA LA N'/\∀k,rep k FA LA N'->μ FA LA N'<=k:=by
   have:∀FA LA N',∃k,(∃k,rep k FA LA N')->rep k FA LA N'/\∀j,rep j FA LA N'->k<=j:=by
    intro FA LA N';by_cases hh:∃k,rep k FA LA N'
    .obtain⟨k,h1,h2⟩:=least hh;exact⟨k,by grind⟩
    .exact⟨0,λh=>(hh h).elim⟩
   exact⟨λFA LA N'=>Classical.choose (this FA LA N'),λFA LA N'=>Qf (this FA LA N')⟩
  obtain⟨μ,hμ⟩:=hmu;refine Em (λFA LA N'=>∃k,rep k FA LA N') μ ⟨_,_,_,cU.rfl,lf,⟨F,L,rfl,rfl,hF,h⟩⟩ ?_;intro FA LA N' hr;have hk:=(hμ FA LA N' hr).1;generalize hkk:μ FA LA N'=k at hk|-;obtain⟨F',L',rfl,rfl,hF',hh⟩:=hk;cases k with
  |zero=>cases hh
  |succ k=>
   obtain⟨F2,d1,d2⟩:=A3 (R:=Option SV) F' 0;obtain⟨L2,d3,_,d4⟩:=A2 (R:=Option SV) L' 0;have z:∀t,gF 0 t=false:=λt=>by rw[AS,Nat.zero_testBit]
   have hh:ddF F' 0 _=some v:=hh;rw[d2,d4]at hh;rw[<-Frm.BC λt=>d1 t (z t),show L'.fn=L2.fn from congrArg Sg.a (funext λt=>(d3 t (z t)).symm)];refine gi c ?_ (ih _ F2 L2 N' (Frm.An (λt=>d1 t (z t)) hF') hh);intro e FA LA N2 ht;cases e
   case normal=>
    have hr2:rep k FA LA N2:=ht;exact⟨_,_,_,cU.rfl,⟨k,hr2⟩,Nat.lt_succ_of_le ((hμ _ _ _ ⟨k,hr2⟩).2 k hr2)⟩
   all_goals exact ht
 |exit id=>intro Q F L N hF h;exact⟨F,L,rfl,rfl,hF,h⟩
 |ret=>intro Q F L N hF h;exact⟨F,L,rfl,rfl,hF,h⟩
 |rangeFunc f params x y _ _=>intro Q F L N hF h;cases h
 |scope c ih=>
  intro Q F L N hF h;refine gi c ?_ (ih _ F L N hF h);intro e FA LA N' ht;cases e<;>first|exact ht|(obtain⟨_,_,_,_,_,hh⟩:=ht;cases hh)
 |label l=>intro Q F L N hF h;exact⟨F,L,rfl,rfl,hF,h⟩
 |goto l=>intro Q F L N hF h;cases h
 |refuse s=>intro Q F L N hF h;cases h
def xO(P:Program)(n:Nat)(rs:List ResultVar)(F:Frm)(L:aM):Option SV:=match kN P n F L.at rs with
 |some l=>(match hm:gD (eT 3 L.at) l with
  |some (ps,m)=>(match(pn (rj 3 L.at) l (ps,m) hm).b with|true=>some (o9 m)|false=>none)
  |none=>none)
 |none=>none
def OU(P:Program)(n:Nat)(rs:List ResultVar):th:=λe F L _=>match e with
 | .normal=>xO P n rs F L
 | .ret=>xO P n rs F L
 |_=>none
def YA{m:List SV}{u:List PV}(h2:avs m=u.map .p):(o9 m).av= .p (jK u):=by
 cases m with
 |nil=>
  have:u=[] :=by have:=congrArg fe h2;simp[avs]at this;grind
  subst this;rfl
 |cons x m=>
  cases m with
  |nil=>
   cases u with
   |nil=>simp[avs]at h2
   |cons y u=>
    have h5:u=[] :=by have:=congrArg fe h2;simp only[avs,cO,hZ,iH,dt]at this;grind
    subst h5;simp only[avs,cO,lI,List.cons.injEq,and_true]at h2;exact h2
  |cons y m=>
   have h5:(o9 (x::y::m)).av=iE (avs (x::y::m)):=rfl;rw[h5,h2];unfold iE;rw[cQ];cases u with
   |nil=>simp[avs]at h2
   |cons a u=>
    cases u with
    |nil=>simp[avs]at h2
    |cons b u=>rfl
def Wm{P:Program}{n:Nat}{rs:List ResultVar}{v:SV}{e:Exit}{F:Frm}{L:aM}{N:Nat}(h:OU P n rs e F L N=some v):∃q,v.av= .p q/\qj P rs q e (F.av n) L.fn N:=by
 have key:xO P n rs F L=some v->∃q,v.av= .p q/\fj P rs (F.av n) L.fn λl=>∃m,cJ (ci 3 L.fn) l=some m/\jK m=q:=by
  intro h;unfold xO at h;split at h
  case h_2=>cases h
  rename_i l hl;split at h
  case h_2=>cases h
  rename_i ps m hm;split at h
  case h_2=>cases h
  rename_i hc;cases h;obtain⟨u,h1,h2⟩:=p7 (λx ps y=>rn) hm (Chk.h (self:=pn (rj 3 L.at) l (ps,m) hm) hc);exact⟨_,YA h2,lS hl ⟨u,h1,rfl⟩⟩
 cases e<;>first|exact key h|cases h
def tm(X:Cx)(T:d6)(M:iG)(lf f:Nat)(args:List SV):Option SV:=match gA X.P f,X.P.funcs[f]? with
 |true,some fn=>(match fn.body with
  |some c=>(match iL args.length fn.ntmps,co (λv=>match v.ape with|true=>false|false=>true) args with
   |true,true=>iF X T M fn.ntmps lf c (OU X.P fn.ntmps fn.results.toList) (jr args 0) [] 0
   |_,_=>none)
  |none=>none)
 |_,_=>none
def FD{X:Cx}(hX:X.Ok){T:d6}(hT:T.t.Ok X.P){M:iG}(hM:lm X.P M){lf f:Nat}{args:List SV}{v:SV}{A:List PV}(hA:avs args=A.map .p)(h:tm X T M lf f args=some v)(hv:∃q,v.av= .p q):∃q,v.av= .p q/\Sat X.P false f A q:=by
 obtain⟨q,hq⟩:=hv;unfold tm at h;split at h
 case h_2=>cases h
 rename_i fn hok hf;split at h
 case h_2=>cases h
 rename_i c hb;split at h
 case h_2=>cases h
 rename_i hn hpe;have hn:=jA hn;have hpe:∀v∈args,v.ape=false:=λv hv=>by have:=dE hpe v hv;grind
 have hal:(A.map AV.p).length=A.length:=by grind
 have hAF:A.map .p++bT (fn.ntmps-A.length) .undef=(jr args 0).av fn.ntmps:=by rw[zf hn,hA,hal]
 refine⟨q,hq,uq hok hf hb (.inl ⟨Ip,rfl⟩) ?_⟩;rw[hAF];refine gi c ?_ (Vv hX hT hM c _ _ [] 0 (vx hpe) h);rintro e FA LA N' ⟨F',L',rfl,rfl,_,hh⟩;obtain⟨q',h1,h2⟩:=Wm hh;rw[hq]at h1;cases h1;exact h2
def isP(v:SV):Bool:=match v.av with
 | .p _=>true
 |_=>false
def OS(X:Cx)(T:d6)(M:iG)(lf f:Nat)(args:List SV):Option (List SV×SV):=match bK (avs args)with
 |some _=>(match tm X T M lf f args with
  |some v=>(match isP v with|true=>some (args,v)|false=>none)
  |none=>none)
 |none=>none
def CO(X:Cx)(T:d6)(M:iG)(lf f:Nat):EC:=⟨⟨List SV×SV,OS X T M lf f,λ_=>[],.val false (·.2)⟩,λ_=>inferInstanceAs (Chk [])⟩
def Xd{X:Cx}(hX:X.Ok){T:d6}(hT:T.t.Ok X.P){M:iG}(hM:lm X.P M)(lf f:Nat):(CO X T M lf f).c.Ok X.P f:=by
 intro xs x h _;unfold CO OS at h;dsimp only at h;split at h
 case h_2=>cases h
 rename_i A hA;split at h
 case h_2=>cases h
 rename_i v hv;split at h
 case h_2=>cases h
 rename_i hp;cases h;have hA:=fD hA;obtain⟨q,h1,h2⟩:=FD hX hT hM hA hv (by
  unfold isP at hp;split at hp
  .rename_i q hq;exact⟨q,hq⟩
  .cases hp)
 exact⟨A,q,hA,h1,h2⟩
def wo(X:Cx)(T0:d6)(M:iG)(lf:Nat):Nat->d6
 |0=>T0
 |k+1=>λf=>match T0 f with
  |some e=>some e
  |none=>some (CO X (wo X T0 M lf k) M lf f)
def GP{X:Cx}(hX:X.Ok){T0:d6}(h0:T0.t.Ok X.P){M:iG}(hM:lm X.P M){lf:Nat}:∀k,(wo X T0 M lf k).t.Ok X.P
 |0=>h0
 |k+1=>by
  intro f c hc;unfold d6.t wo at hc;split at hc
  .rename_i e he;cases hc;split at he
   .rename_i e' h1;cases he;exact h0 f _ (by unfold d6.t;rw[h1])
   .cases he;exact Xd hX (GP hX h0 hM k) hM lf f
  .cases hc
end
section
variable {P:Program} {o:Oper} {E:Operand->AV} {σ:Nat->Option Ob} {n:Nat}
def Vz{c:Call}{x y:Operand}{t t' e:TypeId}{s off m k:Nat}{ob:Ob}{cs:List PV}(ho:o.op= .call c)(hc:c.callee= .builtin .copy)(hargs:c.args= #[x,y])(hat:c.argTypes= #[t,t'])(ht:P.underlying t=some (.slice e))
  (hsz:(P.info? e).map (·.size)=some 1) (ex:E x= .own s off m) (ey:E y= .p (.sl k cs)) (hob:σ s=some ob) (he1:ob.esz=1) (hk:k=cs.length) (hoff:off+m<=ob.cells.length):
  bB P o E σ n (.p (.int .i64 (lL k m:Nat))) [s] [(s,some ⟨ob.ty,ob.esz,cn ob.cells off ((cs.take (lL k m)).map .p)⟩)] :=by
 have he:ob.esz≠0:=by omega
 intro C0 ρ g V w B hs hB hR hn hgn hE;have g1:=hE x (by rw[ho];simp[b8,fq,hargs]);have g2:=hE y (by rw[ho];simp[b8,fq,hargs]);rw[ex]at g1;rw[ey]at g2;have hgs:g s=some ob:=by grind
 have hcl:∀v w',(Builtin.copy_ #[t,t'] o.type #[bG V x,bG V y]).run P w= .ok v w'->(execOp (bG V) o).run P w= .ok (.value v) w':=by intro v w' h;unfold execOp;simp only[ho,resolve,hc,invoke,builtin,hargs,hat,bk,cG,bq,List.map_toArray,cO,lI]at*;rw[h];rfl
 obtain⟨mn,hmn⟩:∃mn,mn=lL k m:=⟨_,rfl⟩;rw[<-hmn];have hmk:mn<=k:=by rw[hmn];exact Nat.min_le_left _ _
 have hmm:mn<=m:=by rw[hmn];exact Nat.min_le_right _ _
 obtain⟨l,hl⟩:∃l:List AV,l=(cs.take mn).map .p:=⟨_,rfl⟩;rw[<-hl];have hll:l.length=mn:=by rw[hl,dt,fS];omega
 obtain⟨q,cp,hρ,hcase⟩:=g1;obtain⟨a2,c2,hv2,hc2,hn2,hcc⟩:=g2;by_cases hm:mn=0
 .have hl0:l=[] :=iZ.1 (by rw[hll,hm]);subst hl0;have hr:(Builtin.copy_ #[t,t'] o.type #[bG V x,bG V y]).run P w= .ok (goInt 0) w:=by
   rcases hcase with⟨_,hv,h0,_⟩|⟨b,p0,c',_,hv,_⟩
   .rw[hv,hv2];exact run_copy_none w t t' o.type e _ _ _ _ _ _ ht hsz (by rw[<-hm,hmn];first|rfl|(congr 1;omega))
   .rw[hv,hv2];exact run_copy_none w t t' o.type e _ _ _ _ _ _ ht hsz (by rw[<-hm,hmn])
  have hup:aY g [(s,some (⟨ob.ty,ob.esz,cn ob.cells off []⟩:Ob))] =g:=by
   funext s'
   unfold aY;by_cases h:s'=s
   .subst h;simp[cH,cn,hgs]
   .simp[cH,beq_eq_false_iff_ne.2 h]
  unfold cR;rw[hcl _ _ hr,hup];exact⟨ρ,λ_ _=>rfl,λ_ _ _ h=>h,hs,by rw[hm];rfl,Below.refl _ _⟩
 have hm0:m≠0:=by omega
 have hk0:0<k:=by omega
 have hmc:lL mn cs.length=mn:=by rw[<-hk];exact Nat.min_eq_left hmk
 have hom:off+mn<=ob.cells.length:=by omega
 obtain⟨b,p0,c',rfl,hv,h5,h6,h7⟩:=hcase.resolve_left (λh=>hm0 h.2.2.1);have:=h6 hm0;subst this;obtain⟨hBb,arr,hO⟩:=hs.at hgs hρ;obtain⟨ad,rfl⟩:∃ad,a2=some ad:=by
  cases a2 with
  |none=>have:=(hn2 rfl).2;subst this;simp at hk;omega
  |some ad=>exact⟨ad,rfl⟩
 obtain⟨hspot,hcells⟩:=hcc ad rfl;have hspot:=hspot hk0;obtain⟨vs,hvl,hvc,hvr,r2⟩:=(hcells.take mn).vals;have hvl:vs.length=mn:=by rw[hvl,fS];exact hmc
 have r1:ap ρ (ak C0 B w ρ g) l vs:=by rw[hl];exact bL.toA hvr
 have hlen:=r1.length;have hoff:p0+l.length<=ob.cells.length:=by rw[hll];exact hom
 have hle:ob.cells.length<=arr.size:=(hO.row he).2.1;have hr:(Builtin.copy_ #[t,t'] o.type #[bG V x,bG V y]).run P w= .ok (goInt vs.length) (w.setRow b (arr.toList.take p0++vs++arr.toList.drop (p0+vs.length)).toArray):=by
  have hfit:p0+vs.length<=arr.size:=by rw[hvl,<-hll];exact cZ hoff hle
  rw[hv,hv2];exact run_copy_row P w t t' o.type e b p0 m _ ad k c2 arr ob.ty vs ht hsz hO.blk (by rw[hvl,hmn]) (λj v hj=>by
   have:=(hvc j v hj).1;have e:ad.add j=⟨ad.block,ad.off+j,none⟩:=by
    obtain⟨a1,a2,a3⟩:=ad;cases hspot;unfold Addr.add;split
    .rename_i h;subst h;rfl
    .rfl
   rw[e];exact this) hfit r2
 unfold cR;rw[hcl _ _ hr];clear hcase hr;have hblk:(w.setRow b (arr.toList.take p0++vs++arr.toList.drop (p0+vs.length)).toArray).heap[b]? =some (.cells (arr.toList.take p0++vs++arr.toList.drop (p0+vs.length)).toArray ob.ty (0,0)):=setRow_heap w b arr _ ob.ty _ hO.blk;have hold:∀k,k≠b->(w.setRow b (arr.toList.take p0++vs++arr.toList.drop (p0+vs.length)).toArray).heap[k]? =w.heap[k]? :=by intro k hk;unfold uO;simp only[Array.getElem?_modify];rw[if_neg (by grind)]
 have hsize:(w.setRow b (arr.toList.take p0++vs++arr.toList.drop (p0+vs.length)).toArray).heap.size=w.heap.size:=by unfold uO;simp
 have hlk:∀s',s'≠s->[(s,some (⟨ob.ty,ob.esz,cn ob.cells p0 l⟩:Ob))].lookup s'=none:=by intro s' hs';simp[cH,beq_eq_false_iff_ne.2 hs']
 have hup:∀s',s'≠s->aY g [(s,some ⟨ob.ty,ob.esz,cn ob.cells p0 l⟩)] s'=g s':=by intro s' hs';unfold aY;rw[hlk s' hs']
 have hmono:∀b' o' x,ak C0 B w ρ g b' o' x->ak C0 B (w.setRow b (arr.toList.take p0++vs++arr.toList.drop (p0+vs.length)).toArray) ρ (aY g [(s,some ⟨ob.ty,ob.esz,cn ob.cells p0 l⟩)]) b' o' x:=by
  intro b' o' x ⟨e1,e2,e0⟩;have hne:b'≠b:=λe=>by grind
  refine⟨(World.cell?_of_block (hold b' hne)).trans e1,?_,e0⟩;intro s' c' e3;by_cases e:s'=s
  .grind
  .grind
 refine⟨ρ,λ_ _=>rfl,hmono,?_,by rw[hvl];rfl,⟨rfl,rfl,rfl,by omega,by grind⟩⟩;refine hs.step (by grind) (λ_ _ h=>h) hmono ?_ ?_ λk es clock hk=>hold k (lc hk hO.blk)
 .intro s' o' b' c' e1 e2 e3;refine hold b' λe=> ?_;subst e;have:=hs.inj s s' ob o' b' cp c' hgs e2 hρ e3;grind
 .intro s' o' e;have e1:s'=s:=by
   rcases Nat.decEq s' s with h|h
   .grind
   .exact h
  subst e1;have e2:o'=⟨ob.ty,ob.esz,cn ob.cells p0 l⟩:=by simp[cH]at e;exact e.symm
  subst e2;have hasz:(arr.toList.take p0++vs++arr.toList.drop (p0+vs.length)).toArray.size=arr.size:=by simp[fS];omega
  refine⟨some b,cp,hρ,.inr ⟨b,_,rfl,hBb,⟨hblk,?_,?_,?_⟩,?_⟩⟩
  .intro hz;rw[hasz,hO.box hz];exact(mL _ _ _).symm
  .intro hz;obtain⟨k1,k2,k3⟩:=hO.row hz;rw[hasz];exact⟨k1,by rw[mL];exact k2,k3⟩
  .intro j y hj;rcases vP l ob.cells p0 hoff j y hj with⟨h1,h2⟩|⟨h1,h2⟩
   .obtain⟨u,k1,k2⟩:=r1.get _ _ _ y h2;refine⟨u,?_,r2 u (by grind),aR.mono (λ_ _ h=>h) hmono y u k2⟩;grind
   .obtain⟨u,k1,k3,k2⟩:=hO.cells j y h2;refine⟨u,?_,k3,aR.mono (λ_ _ h=>h) hmono y u k2⟩;grind
  .intro s2 o' c' hne e3 e4;rw[hup s2 hne]at e3;exact hne (hs.inj s' s2 ob o' b cp c' hgs e3 hρ e4).symm
def EJ{op:BinOp}{t t':TypeId}{x y:Operand}(ho:o.op= .binOp op t x y t'){k k':IntKind}{a b:Int}(ea:E x= .p (.int k a))(eb:E y= .p (.int k' b))(hb:0<=b){r:Int}(hr:(op= .shl/\r=k.wrap (a*2^min b.toNat k.bits))\/(op= .shr/\r=a.fdiv (2^min b.toNat k.bits))):bB P o E σ n (.p (.int k r)) [] [] :=by
 have hx:x∈o.op.operands.toList:=by rw[ho];simp[b8]
 have hy:y∈o.op.operands.toList:=by rw[ho];simp[b8]
 refine bB.val ?_;intro ρ C V w hE;have h1:=hE x hx;have h2:=hE y hy;rw[ea]at h1;rw[eb]at h2;unfold aR a8 at h1 h2;have h3:(do eqGuard op t x y (.int k a) (.int k' b);binOp op t (.int k a) (.int k' b):Sem Value).run P w= .ok (.int k r) w:=by
  rcases hr with⟨rfl,rfl⟩|⟨rfl,rfl⟩
  .simp only[eqGuard,binOp,Op.shift,bk,cG,bq,if_neg (show¬b<0 by omega)];rfl
  .simp only[eqGuard,binOp,Op.shift,bk,cG,bq,if_neg (show¬b<0 by omega)];rfl
 refine⟨.int k r,?_,by rfl⟩;unfold execOp;rw[ho];simp only[h1,h2,bk (x:=(do eqGuard op t x y (.int k a) (.int k' b);binOp op t (.int k a) (.int k' b):Sem Value)),h3,bq,cG]
def XL{t:TypeId}{x i:Operand}(ho:o.op= .index t x i){s:ByteArray}{k:IntKind}{m:Nat}{b:UInt8}(ht:P.underlying t=some .string)(ex:E x= .p (.str s))(ei:E i= .p (.int k (m:Int)))(hb:s[m]? =some b):bB P o E σ n (.p (.int .u8 (b.toNat:Nat))) [] [] :=by
 have hx:x∈o.op.operands.toList:=by rw[ho];simp[b8]
 have hy:i∈o.op.operands.toList:=by rw[ho];simp[b8]
 refine bB.val ?_;intro ρ C V w hE;have h1:=hE x hx;have h2:=hE i hy;rw[ex]at h1;rw[ei]at h2;unfold aR a8 at h1 h2;refine⟨.int .u8 (b.toNat:Nat),?_,by rfl⟩;unfold execOp;rw[ho];simp[h1,h2,Instr.index,asIntOf,run_underlying ht,hb]
end
noncomputable section
set_option warn.classDefReducibility false
def mkE(P:Program)(n:Nat)(σ:Sg)(t:TypeId)(x y:SV):Option (SV×List Nat×aM):=match x,y with
 | .int _ (.ofNat m),.int _ (.ofNat m')=>(match af m' m,bp P t,frs σ n with
   |true,some e,true=>(match P.info? e,oj P e with
    |some i,some (z::zs)=>(match iL (m*aj P e) 1000000,iL (m*i.bytes) 1000000000 with
     |true,true=>some (.ownx n m,[],[(n,some (.arr e (aj P e) (qk m (z::zs))))])
     |_,_=>none)
    |_,_=>none)
   |_,_,_=>none)
 |_,_=>none
def YJ{P:Program}{n:Nat}{o:Oper}{E:SE}{σ:Sg}{t:TypeId}{x y:Operand}(ho:o.op= .makeSlice t x y){r:SV}{rd:List Nat}{W:aM}(h:mkE P n σ t (E x) (E y)=some (r,rd,W)):
  AOp P n o E.a σ.a (λr' R' W'=>r'=r.av/\bJ σ rd W R' W')/\r.ok:=by
 unfold mkE at h;split at h
 case h_2=>cases h
 rename_i k1 m k2 m' ex ey;split at h
 case h_2=>cases h
 rename_i e hm he hf;have hm:=bm hm;subst hm;split at h
 case h_2=>cases h
 rename_i i z zs hi hz;split at h
 case h_2=>cases h
 rename_i b1 b2;cases h;obtain⟨f1,f2⟩:=gU hf;obtain⟨z1,z2⟩:=oD hz;refine⟨?_,trivial⟩;unfold AOp;rw[ho];dsimp only;refine .inl ⟨k1,k2,m',e,_,i,?_,?_,he,hi,z1,z2,by simp[avs],jA b1,jA b2,?_,?_⟩
 .unfold SE.a;rw[ex];rfl
 .unfold SE.a;rw[ey];rfl
 .show _=AV.own (aD n) 0 _;rw[f1]
 .rw[<-zo];exact bJ.new (ob:= .arr e (aj P e) (qk m' (z::zs))) f2 f1 rfl
def slE(P:Program)(t:TypeId)(x:SV)(lo hi:Option Int):Option SV:=match x,bp P t with
 | .sl m cs,some e=>(match(P.info? e).isSome,af (aj P e) 0,bK (avs cs)with
   |true,false,some _=>(match(inferInstance:Decidable (0<=lo.getD 0/\lo.getD 0<=hi.getD m/\hi.getD m<=m))with
    | .isTrue _=>some (.sl ((hi.getD m).toNat-(lo.getD 0).toNat) ((cs.take ((hi.getD m).toNat*aj P e)).drop ((lo.getD 0).toNat*aj P e)))
    | .isFalse _=>none)
   |_,_,_=>none)
 |_,_=>none
def X1{P:Program}{n:Nat}{o:Oper}{E:SE}{σ:Sg}{t:TypeId}{x:Operand}{lo hi:Option Operand}(ho:o.op= .slice t x lo hi none){a b:Option Int}(ha:lC E lo=some a)(hb:lC E hi=some b){r:SV}(h:slE P t (E x) a b=some r):
  AOp P n o E.a σ.a (λr' R' W'=>r'=r.av/\bJ σ [] [] R' W')/\r.ok:=by
 unfold slE at h;split at h
 case h_2=>cases h
 rename_i m cs e ex he;split at h
 case h_2=>cases h
 rename_i q h1 h2 hq;split at h
 case h_2=>cases h
 rename_i hd _;cases h;refine⟨?_,trivial⟩;unfold AOp;rw[ho];dsimp only;have key:∀(z:Option Operand) (c:Option Int) (d:Int),lC E z=some c->loA E.a z d=some (c.getD d):=by
  intro z c d hz;cases z with
  |none=>cases hz;rfl
  |some z=>
   unfold lC at hz;dsimp only at hz;split at hz<;>cases hz;rename_i k hk;exact G6 hk
 have e1:(E x).av= .p (.sl m q):=by rw[ex];simp only[SV.av,hq]
 have e2:qH ((E x).av)=m:=by rw[e1];rfl
 have e0:E.a x=(E x).av:=rfl;rw[e0,key lo a 0 ha,key hi b _ hb,e1];have e3:qH (.p (.sl m q))=(m:Int):=rfl;rw[e3];refine⟨e,_,_,he,h1,fw h2,rfl,rfl,hd.1,hd.2.1,hd.2.2,?_,bJ.read σ []⟩;have e4:avs ((cs.take ((b.getD m).toNat*aj P e)).drop ((a.getD 0).toNat*aj P e))=((q.take ((b.getD m).toNat*aj P e)).drop ((a.getD 0).toNat*aj P e)).map .p:=by rw[vf,sH,fD hq,List.map_drop,rI]
 simp only[SV.av,e4,cQ]
def cpE(P:Program)(σ:Sg)(t:TypeId)(x y:SV):Option (SV×List Nat×aM):=match x,y with
 | .ownx s m,.sl k cs=>(match σ s,bp P t with
   |some (.arr ty ez ds),some e=>(match P.info? e,af ez 1,bK (avs cs)with
    |some i,true,some _=>(match af i.size 1,af k cs.length,iL m ds.length with
     |true,true,true=>some (.int .i64 (lL k m:Nat),[s],[(s,some (.arr ty ez (jJ ds 0 (cs.take (lL k m)))))])
     |_,_,_=>none)
    |_,_,_=>none)
   |_,_=>none)
 |_,_=>none
def Yg{P:Program}{n:Nat}{o:Oper}{E:SE}{σ:Sg}{c:Call}{t t':TypeId}{x y:Operand}(ho:o.op= .call c)(hc:c.callee= .builtin .copy)(hargs:c.args= #[x,y])(hat:c.argTypes= #[t,t']){r:SV}{rd:List Nat}{W:aM}(h:cpE P σ t (E x) (E y)=some (r,rd,W)):
  (∃R' W',bB P o E.a σ.a n r.av R' W'/\bJ σ rd W R' W')/\r.ok:=by
 unfold cpE at h;split at h
 case h_2=>cases h
 rename_i s m k cs ex ey;split at h
 case h_2=>cases h
 rename_i ty ez ds e hs he;split at h
 case h_2=>cases h
 rename_i i q hi h1 hq;split at h
 case h_2=>cases h
 rename_i h2 h3 h4;cases h;have h1:=bm h1;have h2:=bm h2;have h3:=bm h3;have h4:=jA h4;subst h1;have hqq:=fD hq;have hql:q.length=cs.length:=by have:=congrArg fe hqq;simpa[fT]using this.symm
 have e1:E.a x= .own (aD s) 0 m:=by unfold SE.a;rw[ex];rfl
 have e2:E.a y= .p (.sl k q):=by unfold SE.a;rw[ey];simp only[SV.av,hq]
 have:=Vz (P:=P) (E:=E.a) (σ:=σ.a) (n:=n) ho hc hargs hat (ij he) (by rw[hi];simp[h2]) e1 e2 (by rw[Sg.bZ,hs];rfl) rfl (by rw[h3,hql]) (by rw[gR];show m<=(avs ds).length;rw[fT];exact h4);refine⟨⟨_,_,this,?_⟩,trivial⟩;have e3:cn (avs ds) 0 ((q.take (lL k m)).map .p)=avs (jJ ds 0 (cs.take (lL k m))):=by rw[pu,sH,hqq,rI]
 have f:=bJ.flat (σ:=σ) (rd:=[s]) (W:=[(s,some (.arr ty 1 (jJ ds 0 (cs.take (lL k m)))))]) λq hq=>by rw[bO.1 hq,hs];exact⟨rfl,rfl⟩
 have e4:aM.sto [(s,some (.arr ty 1 (jJ ds 0 (cs.take (lL k m)))))] =[(aD s,some ⟨ty,1,cn (avs ds) 0 ((q.take (lL k m)).map .p)⟩)] :=by rw[e3];rfl
 rw[e4]at f;exact f
def shE(op:BinOp)(x y:SV):Option SV:=match x,y with
 | .int k a,.int _ (.ofNat m)=>(match op with
   | .shl=>some (.int k (OQ k a m))
   | .shr=>some (.int k (l4 k a m))
   |_=>none)
 |_,_=>none
def X2{P:Program}{n:Nat}{o:Oper}{E:SE}{σ:Sg}{op:BinOp}{t t':TypeId}{x y:Operand}(ho:o.op= .binOp op t x y t'){r:SV}(h:shE op (E x) (E y)=some r):(∃R' W',bB P o E.a σ.a n r.av R' W'/\bJ σ [] [] R' W')/\r.ok:=by
 unfold shE at h;split at h
 case h_2=>cases h
 rename_i k a k' m ex ey;have e1:E.a x= .p (.int k a):=by unfold SE.a;rw[ex];rfl
 have e2:E.a y= .p (.int k' (m:Int)):=by unfold SE.a;rw[ey];rfl
 split at h<;>cases h
 .exact⟨⟨_,_,EJ ho e1 e2 (xy _) (.inl ⟨rfl,rfl⟩),bJ.read σ []⟩,trivial⟩
 .exact⟨⟨_,_,EJ ho e1 e2 (xy _) (.inr ⟨rfl,rfl⟩),bJ.read σ []⟩,trivial⟩
def idE(P:Program)(t:TypeId)(x i:SV):Option SV:=match x,i,P.underlying t with
 | .str s,.int _ (.ofNat m),some .string=>(match s[m]? with|some b=>some (.int .u8 (b.toNat:Nat))|none=>none)
 |_,_,_=>none
def YQ{P:Program}{n:Nat}{o:Oper}{E:SE}{σ:Sg}{t:TypeId}{x i:Operand}(ho:o.op= .index t x i){r:SV}(h:idE P t (E x) (E i)=some r):(∃R' W',bB P o E.a σ.a n r.av R' W'/\bJ σ [] [] R' W')/\r.ok:=by
 unfold idE at h;split at h
 case h_2=>cases h
 rename_i s k m ex ei ht;split at h<;>cases h;rename_i b hb;exact⟨⟨_,_,XL ho ht (by unfold SE.a;rw[ex];rfl) (by unfold SE.a;rw[ei];rfl) hb,bJ.read σ []⟩,trivial⟩
def wW(P:Program):iG:=λn o E σ=>match o with
 | .makeSlice t a b=>mkE P n σ t (E a) (E b)
 | .slice t x lo hi none=>(match lC E lo,lC E hi with
   |some a,some b=>(match slE P t (E x) a b with|some r=>some (r,[],[])|none=>none)
   |_,_=>none)
 | .call {callee:= .builtin .copy,args:=⟨[x,y]⟩,argTypes:=⟨[t,_]⟩}=>cpE P σ t (E x) (E y)
 | .index t x i=>(match idE P t (E x) (E i)with|some r=>some (r,[],[])|none=>none)
 | .binOp op _ x y _=>(match shE op (E x) (E y)with|some r=>some (r,[],[])|none=>none)
 |_=>none
def FR(P:Program):lm P (wW P):=by
 intro n o E σ r rd W hE h;generalize ho:o.op=op at h;have fin:AOp P n o E.a σ.a (λr' R' W'=>r'=r.av/\bJ σ rd W R' W')/\r.ok->(∃R' W',bB P o E.a σ.a n r.av R' W'/\bJ σ rd W R' W')/\r.ok:=by rintro⟨h1,h2⟩;obtain⟨r',R',W',h3,rfl,h4⟩:=En h1;exact⟨⟨R',W',h3,h4⟩,h2⟩
 unfold wW at h;split at h
 .exact fin (YJ ho h)
 .split at h
  .rename_i a b ha hb;split at h<;>cases h;rename_i hr;exact fin (X1 ho ha hb hr)
  .cases h
 .exact Yg ho rfl rfl rfl h
 .split at h<;>cases h;rename_i hr;exact YQ ho hr
 .split at h<;>cases h;rename_i hr;exact X2 ho hr
 .cases h
def EC.at{X:Type}(dec:List SV->Option X)(t:X->Bool)(fr:Bool)(r:SV):EC:=⟨⟨Unit,λxs=>match dec xs with
 |some x=>(match t x with|true=>some ()|false=>none)
 |none=>none,λ_=>[],.val fr λ_=>r⟩,λ_=>inferInstanceAs (Chk [])⟩
def wi{P:Program}{f:Nat}{X:Type}{dec:List SV->Option X}{pre:X->List Prop}{fr:Bool}{res:X->SV}(h:Con.Ok P f ⟨X,dec,pre,.val fr res⟩){t:X->Bool}{x0:X}{r:SV}(ht:∀x,t x=true->x=x0)(hp:∀p∈pre x0,p)(hr:(res x0).av=r.av):(EC.at dec t fr r).c.Ok P f:=by
 intro xs u hd _;change (match dec xs with|some x=>(match t x with|true=>some ()|false=>none)|none=>none)=some u at hd;split at hd
 .rename_i x hx;split at hd
  .rename_i h1;have:=ht x h1;subst this;obtain⟨A,q,h1,h2,h3⟩:=h xs x hx hp;exact⟨A,q,h1,by rw[<-hr];exact h2,h3⟩
  .cases hd
 .cases hd
def X7{X:Cx}(hX:X.Ok){T:d6}(hT:T.t.Ok X.P){M:iG}(hM:lm X.P M){lf f:Nat}{α:Type}{A:Arl α}(x0:α){t:α->Bool}{v:SV}(ht:∀x,t x=true->x=x0)(hv:isP v=true)(h:tm X T M lf f (A.enc x0)=some v):(EC.at A.dec t false v).c.Ok X.P f:=by
 intro xs u hd _;change (match A.dec xs with|some x=>(match t x with|true=>some ()|false=>none)|none=>none)=some u at hd;split at hd
 .rename_i x hx;split at hd
  .rename_i h1;have:=ht x h1;subst this;obtain⟨B,hB⟩:=A.pl x;obtain⟨q,h2,h3⟩:=FD hX hT hM hB h (by
    unfold isP at hv;split at hv
    .rename_i q hq;exact⟨q,hq⟩
    .cases hv)
   exact⟨B,q,by rw[A.ok xs x hx,hB],h2,h3⟩
  .cases hd
 .cases hd
def tX{X:Type}:List ((X->Bool)×SV)->X->Option SV
 |[],_=>none
 |(t,v)::l,x=>match t x with|true=>some v|false=>tX l x
def EC.pts{X:Type}(dec:List SV->Option X)(l:List ((X->Bool)×SV)):EC:=⟨⟨SV,λxs=>match dec xs with
 |some x=>tX l x
 |none=>none,λ_=>[],.val false λv=>v⟩,λ_=>inferInstanceAs (Chk [])⟩
def X9{P:Program}{f:Nat}{X:Type}{dec:List SV->Option X}:∀{l:List ((X->Bool)×SV)},(∀q∈l,(EC.at dec q.1 false q.2).c.Ok P f)->(EC.pts dec l).c.Ok P f:=by
 intro l hl xs v hd _;change (match dec xs with|some x=>tX l x|none=>none)=some v at hd;split at hd
 .rename_i x hx;have key:∀l:List ((X->Bool)×SV),tX l x=some v->∃q∈l,q.1 x=true/\q.2=v:=by
   intro l;induction l with
   |nil=>intro h;cases h
   |cons q l ih=>
    obtain⟨t,u⟩:=q;intro h;unfold tX at h;split at h
    .rename_i h1;cases h;exact⟨_,eC,h1,rfl⟩
    .obtain⟨q,h1,h2⟩:=ih h;exact⟨q,dR _ h1,h2⟩
  obtain⟨q,h1,h2,rfl⟩:=key l hd;exact hl q h1 xs () (by show(match dec xs with|some x=>(match q.1 x with|true=>some ()|false=>none)|none=>none)=some ();rw[hx];dsimp only;rw[h2]) (λp hp=>(dP hp).elim)
 .cases hd
def wQ:List (Nat×EC)->d6
 |[],_=>none
 |(g,c)::l,f=>match af f g with|true=>some c|false=>wQ l f
def Ey{P:Program}:∀{l:List (Nat×EC)},(∀q∈l,q.2.c.Ok P q.1)->(wQ l).t.Ok P
 |[],_=>λf c h=>by cases h
 |(g,e)::l,hl=>by
  intro f c h;unfold d6.t wQ at h;split at h
  .rename_i e' he;cases h;split at he
   .rename_i hb;cases he;rw[bm hb];exact hl _ eC
   .exact Ey (l:=l) (λq hq=>hl q (dR _ hq)) f _ (by unfold d6.t;rw[he])
  .cases h
end
noncomputable def aBQ:Con:=CP (ac (aL .S) (a1 (aF 42))) (λ(l,_)=>[l.length<=1000000]) (λ(l,_)=> .bool (l.any f7)) (ac (aL .S) (a1 CS)) (λ(l,_)=>[l.length<=1000000]) (λ(l,_)=> .bool (l.any fZ))
noncomputable def M3:Tab:=aq [(41,aBQ)] MY
def BG:M3.Ok aH:=au Yz ⟨Hc Oc Oa,trivial⟩
noncomputable def a54(p:Pl)(b:Nat):List SV->aM->List (Nat×Ann):=λ_ _=>
 [lp 7 44 (cyP p aC).length (λ_=>[]) [] (λ_=>[]) (λk=>[(b+23,.row 3 .I (ph1 p k).1),(b+32,.row 3 .I (ph1 p k).2.1),(b+17,.fam 49 43 .Q (ph1 p k).2.2 []),(19,.box 29 [.lst .S p.sg,.lst .T p.vs,.own 902 .E p.es.length,.owF (b+17) (ph1 p k).2.2.length])]) λk=>
   [lp 11 54 (aJ (cyP p aC) k).length (λ_=>[]) [] (λ_=>[]) (λj=>[(b+32,.row 3 .I (ofC k (ph1 p k).2.1 (aJ (cyP p aC) k) j))]),
    jU 16 [(69,.bool (!inP p (aJ (cyP p aC) k) (lvP p aC)))],
    (10017,.mk Unit (λ_ _=>some ()) [] (λ_=>[]) (λ_=>[]) (λ_=>[(b+23,.row 3 .I (((ph1 p k).1.set k (-1)).set k ((ph1 p k).2.2.length:Int)))]) (λ_=>0) (λ_=>[]))],
  lp 22 94 (cyP p aC).length (λ_=>[]) [] (λ_=>[]) (λk=>[(b+23,.row 3 .I (ph2 p k).1),(b+17,.fam 49 43 .Q (ph2 p k).2 [])]) λk=>
   [jb 25 14 (ouP (ph2 p k).1 (ph2 p k).2 (aJ (cyP p aC) k) k)],
  lp 30 169 p.es.length (λ_=>[]) [] (λ_=>[]) (λe=>[(902,.row 45 .E (ph3 p (ph1 p (cyP p aC).length).2.1 (ph2 p (cyP p aC).length).1 e))])]
noncomputable def uE(p:Pl)(b:Nat):List SV->aM->List (Nat×Ann):=λxs L=>match xs with
 | .int _ (.ofNat k)::_=>(match L.at (b+23)with
   |some (.row _ .I fa)=>[(10006,.mk Unit (λ_ _=>some ()) [] (λ_=>[]) (λ_=>[]) (λ_=>[(b+23,.row 3 .I (fdP p (ph1 p (cyP p aC).length).2.1 fa (aJ (cyP p aC) k) k))]) (λ_=>0) (λ_=>[]))]
   |_=>[])
 |_=>[]
noncomputable def wE(m:Nat):Frm->aM->Option (MF×List Ed):=λ_ L=>match L.at m,L.at 19 with
 |some (.it _ M),some (.box _ [_,_,.own s _ _,_])=>(match L.at s with|some (.row _ .E es)=>some (M,es)|_=>none)
 |some (.it _ M),some (.box _ [_,_,.nil,_])=>some (M,[])
 |_,_=>none
noncomputable def P3:Con:=con (a1 (aL .S)) (λl=>[l.length<=1000,(eV l=0->BdOk l)]) (λl=> .tup [.agg [.lst .S (aU l).sg,.lst .T (aU l).vs,.lst .E (aU l).es,.lst .F (aU l).fs],.int .i64 (eV l)])
def Od:P3.Ok aH 13:=Xc (tL BG) (D:=λl=>CB (cxI M3) QR (a54 (aA l) 921) (uE (aA l) 921)) (λ_=>XK (tL BG) rfl) (YU (tL BG) rfl) (raw:=aw) (λl=>[lp 11 37 l.length (λ_=>[]) [901,902] (λk=>[(6,.own 901 .U k)]) (λk=>[(901,.row 25 .U (onP l k)),(19,.box 29 [.lst .S l,.own 902 .T (vsK l k).length,.nil,.nil]),(902,.row 60 .T (vsK l k))]),
  (10018,.mk Unit (λ_ _=>some ()) [902] (λ_=>[]) (λ_=>[]) (λ_=>[(19,.box 29 [.lst .S l,.lst .T (vsP l),.own 902 .E 0,.nil]),(902,.row 45 .E [])]) (λ_=>0) (λ_=>[])),
  lp 20 65 l.length (λ_=>[]) [] (λ_=>[]) (λk=>[(907,.mf (cS l k))]) λk=>
  [jU 22 [(9,.int .i64 (k:Int)),(10,.lst .T (bC l k))],lp 24 72 (bC l k).length (λ_=>[]) [] (λj=>[(11,.int .i64 (fX (vsP l) (bC l k) j))]) (λj=>[(907,.mf (dC (vsP l) (bC l k) k (cS l k) j))]) λj=>
  [(10029,.mk Unit (λ_ _=>some ()) [] (λ_=>[]) (λ_=>[]) (λ_=>[(907,.mf (dC (vsP l) (bC l k) k (cS l k) (j+1)))]) (λ_=>0) (λ_=>[]))]],
  (33,.mk (MF×List Ed) (wE 907) [902] (λy=>[(y.2++edM y.1).Perm (edM (cS l l.length))]) (λ_=>[]) (λy=>[(907,.it none y.1),(19,.box 29 [.lst .S l,.lst .T (vsP l),.own 902 .E y.2.length,.nil]),(902,.row 45 .E y.2)]) (λy=>y.1.length) λ_=>[]),
  (10037,.mk Unit (λ_ _=>some ()) [] (λ_=>[]) (λ_=>[]) (λ_=>[(19,.box 29 [.lst .S l,.lst .T (vsP l),.own 902 .E (esP l).length,.nil]),(902,.row 45 .E (esP l))]) (λ_=>0) (λ_=>[]))]) (λ_=>⟨_,rfl⟩) λl hp=>az (q:=l.length<=1000000/\(ig l f7=true->(aU l).sg=([] :List aB2)/\(aU l).vs=([] :List Pt)/\(aU l).es=([] :List Ed)/\(aU l).fs=([] :List (List (List Int)))/\1=eV l)/\
 (ig l f7=false->l.length<=1000000/\(ig l fZ=true->(aU l).sg=([] :List aB2)/\(aU l).vs=([] :List Pt)/\(aU l).es=([] :List Ed)/\(aU l).fs=([] :List (List (List Int)))/\2=eV l)/\
  (ig l fZ=false->(200<(l.length:Int)->(aU l).sg=([] :List aB2)/\(aU l).vs=([] :List Pt)/\(aU l).es=([] :List Ed)/\(aU l).fs=([] :List (List (List Int)))/\9=eV l)/\
   (¬200<(l.length:Int)->l.length<=1000000/\(0=(0:Int)/\(0:Nat)=0/\onP l 0=([] :List (List Pt))/\l=l/\(vsK l 0).length=0/\vsK l 0=([] :List Pt)/\(0:Nat)<=l.length)/\
    (∀x:Nat,x<=l.length->((x:Int)<l.length->l.length<=1000/\x<l.length/\(∀p:Pt,p∈ae l x l.length->POk p)/\x=(onP l x).length/\(onP l x).length+[bC l x].length<=1000000/\ix (x:Int) (onP l x++[bC l x]).length/\x<(onP l x++[bC l x]).length/\(vsK l x).length=(vsK l x).length/\(vsK l x).length+(pA (onP l x++[bC l x]) x).length<=1000000/\aG ((x:Int)+1)/\(x:Int)+1=((x+1:Nat):Int)/\(onP l x++[bC l x]).length=x+1/\onP l x++[bC l x] =onP l (x+1)/\l=l/\(vsK l x++pA (onP l x++[bC l x]) x).length=(vsK l (x+1)).length/\vsK l x++pA (onP l x++[bC l x]) x=vsK l (x+1)/\x+1<=l.length/\l.length-(x+1)<l.length-x)/\
     (¬(x:Int)<l.length->(vsK l x).length=(vsK l x).length/\(vsK l x).length<=1000000/\(∀p:Pt,p∈vsK l x->POk p)/\((((vsK l x).length:Int)<2->(vsK l x).length=(aZ (ltC aW) (vsK l x)).length/\l=l/\aZ (ltC aW) (vsK l x)=vsP l/\(0:Nat)=0/\([] :List Ed)=([] :List Ed))/\
       (¬((vsK l x).length:Int)<2->(1=(1:Int)/\(1:Nat)<=(vsK l x).length/\(1:Nat)<=1/\cmD (aZ (ltC aW) (vsK l x)) 1)/\
        (∀x_1:Nat,x_1<=(vsK l x).length/\(1:Nat)<=x_1/\cmD (aZ (ltC aW) (vsK l x)) x_1->((x_1:Int)<(vsK l x).length->ix (x_1:Int) (vsK l x).length/\x_1<(aZ (ltC aW) (vsK l x)).length/\aG ((x_1:Int)-1)/\ix ((x_1:Int)-1) (vsK l x).length/\((x_1:Int)-1).toNat<(aZ (ltC aW) (vsK l x)).length/\([(aP (aZ (ltC aW) (vsK l x)) x_1).x,(aP (aZ (ltC aW) (vsK l x)) x_1).y,(aP (aZ (ltC aW) (vsK l x)) x_1).den] =[(aP (aZ (ltC aW) (vsK l x)) ((x_1:Int)-1).toNat).x,(aP (aZ (ltC aW) (vsK l x)) ((x_1:Int)-1).toNat).y,(aP (aZ (ltC aW) (vsK l x)) ((x_1:Int)-1).toNat).den]->(0<=(x_1:Int)/\(x_1:Int)<=(vsK l x).length)/\(1=(1:Int)/\(x_1:Int)=((x_1+(cmW (aZ (ltC aW) (vsK l x)) x_1 1).length:Nat):Int)/\aZ (ltC aW) (vsK l x)=cmR (aZ (ltC aW) (vsK l x)) x_1 1/\(1:Nat)<=1/\(1:Nat)<=(vsK l x).length-x_1)/\
           (∀x_2:Nat,(1:Nat)<=x_2/\x_2<=(vsK l x).length-x_1->((x_2:Int)<(((vsK l x).length-x_1:Nat):Int)->ix (x_2:Int) ((vsK l x).length-x_1)/\x_1+x_2<(cmR (aZ (ltC aW) (vsK l x)) x_1 x_2).length/\aG ((x_2:Int)-1)/\ix ((x_2:Int)-1) ((vsK l x).length-x_1)/\x_1+((x_2:Int)-1).toNat<(cmR (aZ (ltC aW) (vsK l x)) x_1 x_2).length/\(¬[(aP (cmR (aZ (ltC aW) (vsK l x)) x_1 x_2) (x_1+x_2)).x,(aP (cmR (aZ (ltC aW) (vsK l x)) x_1 x_2) (x_1+x_2)).y,(aP (cmR (aZ (ltC aW) (vsK l x)) x_1 x_2) (x_1+x_2)).den] =[(aP (cmR (aZ (ltC aW) (vsK l x)) x_1 x_2) (x_1+((x_2:Int)-1).toNat)).x,(aP (cmR (aZ (ltC aW) (vsK l x)) x_1 x_2) (x_1+((x_2:Int)-1).toNat)).y,(aP (cmR (aZ (ltC aW) (vsK l x)) x_1 x_2) (x_1+((x_2:Int)-1).toNat)).den]->ix (x_2:Int) ((vsK l x).length-x_1)/\x_1+x_2<(cmR (aZ (ltC aW) (vsK l x)) x_1 x_2).length/\ix ((x_1+(cmW (aZ (ltC aW) (vsK l x)) x_1 x_2).length:Nat):Int) (vsK l x).length/\x_1+(cmW (aZ (ltC aW) (vsK l x)) x_1 x_2).length<(cmR (aZ (ltC aW) (vsK l x)) x_1 x_2).length/\aG (((x_1+(cmW (aZ (ltC aW) (vsK l x)) x_1 x_2).length:Nat):Int)+1)/\aG ((x_2:Int)+1)/\(x_2:Int)+1=((x_2+1:Nat):Int)/\((x_1+(cmW (aZ (ltC aW) (vsK l x)) x_1 x_2).length:Nat):Int)+1=((x_1+(cmW (aZ (ltC aW) (vsK l x)) x_1 (x_2+1)).length:Nat):Int)/\cY (cmR (aZ (ltC aW) (vsK l x)) x_1 x_2) (x_1+(cmW (aZ (ltC aW) (vsK l x)) x_1 x_2).length) (aP (cmR (aZ (ltC aW) (vsK l x)) x_1 x_2) (x_1+x_2))=cmR (aZ (ltC aW) (vsK l x)) x_1 (x_2+1)/\(1:Nat)<=x_2+1/\x_2+1<=(vsK l x).length-x_1/\(vsK l x).length-(x_2+1)<(vsK l x).length-x_2)/\
             (¬(¬[(aP (cmR (aZ (ltC aW) (vsK l x)) x_1 x_2) (x_1+x_2)).x,(aP (cmR (aZ (ltC aW) (vsK l x)) x_1 x_2) (x_1+x_2)).y,(aP (cmR (aZ (ltC aW) (vsK l x)) x_1 x_2) (x_1+x_2)).den] =[(aP (cmR (aZ (ltC aW) (vsK l x)) x_1 x_2) (x_1+((x_2:Int)-1).toNat)).x,(aP (cmR (aZ (ltC aW) (vsK l x)) x_1 x_2) (x_1+((x_2:Int)-1).toNat)).y,(aP (cmR (aZ (ltC aW) (vsK l x)) x_1 x_2) (x_1+((x_2:Int)-1).toNat)).den])->aG ((x_2:Int)+1)/\(x_2:Int)+1=((x_2+1:Nat):Int)/\((x_1+(cmW (aZ (ltC aW) (vsK l x)) x_1 x_2).length:Nat):Int)=((x_1+(cmW (aZ (ltC aW) (vsK l x)) x_1 (x_2+1)).length:Nat):Int)/\cmR (aZ (ltC aW) (vsK l x)) x_1 x_2=cmR (aZ (ltC aW) (vsK l x)) x_1 (x_2+1)/\(1:Nat)<=x_2+1/\x_2+1<=(vsK l x).length-x_1/\(vsK l x).length-(x_2+1)<(vsK l x).length-x_2))/\
            (¬(x_2:Int)<(((vsK l x).length-x_1:Nat):Int)->(0<=((x_1+(cmW (aZ (ltC aW) (vsK l x)) x_1 x_2).length:Nat):Int)/\((x_1+(cmW (aZ (ltC aW) (vsK l x)) x_1 x_2).length:Nat):Int)<=(vsK l x).length)/\x_1+(cmW (aZ (ltC aW) (vsK l x)) x_1 x_2).length+((vsK l x).length-(x_1+(cmW (aZ (ltC aW) (vsK l x)) x_1 x_2).length))<=(cmR (aZ (ltC aW) (vsK l x)) x_1 x_2).length/\(0<=((x_1+(cmW (aZ (ltC aW) (vsK l x)) x_1 x_2).length:Nat):Int)/\((x_1+(cmW (aZ (ltC aW) (vsK l x)) x_1 x_2).length:Nat):Int)<=(vsK l x).length)/\x_1+(cmW (aZ (ltC aW) (vsK l x)) x_1 x_2).length<=(bM (x_1+(cmW (aZ (ltC aW) (vsK l x)) x_1 x_2).length) (cmR (aZ (ltC aW) (vsK l x)) x_1 x_2)++bT ((vsK l x).length-(x_1+(cmW (aZ (ltC aW) (vsK l x)) x_1 x_2).length)) (⟨0,0,0⟩:Pt)++cP (x_1+(cmW (aZ (ltC aW) (vsK l x)) x_1 x_2).length+((vsK l x).length-(x_1+(cmW (aZ (ltC aW) (vsK l x)) x_1 x_2).length))) (cmR (aZ (ltC aW) (vsK l x)) x_1 x_2)).length/\l=l/\bM (x_1+(cmW (aZ (ltC aW) (vsK l x)) x_1 x_2).length) (bM (x_1+(cmW (aZ (ltC aW) (vsK l x)) x_1 x_2).length) (cmR (aZ (ltC aW) (vsK l x)) x_1 x_2)++bT ((vsK l x).length-(x_1+(cmW (aZ (ltC aW) (vsK l x)) x_1 x_2).length)) (⟨0,0,0⟩:Pt)++cP (x_1+(cmW (aZ (ltC aW) (vsK l x)) x_1 x_2).length+((vsK l x).length-(x_1+(cmW (aZ (ltC aW) (vsK l x)) x_1 x_2).length))) (cmR (aZ (ltC aW) (vsK l x)) x_1 x_2))=vsP l/\(0:Nat)=0/\([] :List Ed)=([] :List Ed))))/\
          (¬[(aP (aZ (ltC aW) (vsK l x)) x_1).x,(aP (aZ (ltC aW) (vsK l x)) x_1).y,(aP (aZ (ltC aW) (vsK l x)) x_1).den] =[(aP (aZ (ltC aW) (vsK l x)) ((x_1:Int)-1).toNat).x,(aP (aZ (ltC aW) (vsK l x)) ((x_1:Int)-1).toNat).y,(aP (aZ (ltC aW) (vsK l x)) ((x_1:Int)-1).toNat).den]->aG ((x_1:Int)+1)/\(x_1:Int)+1=((x_1+1:Nat):Int)/\x_1+1<=(vsK l x).length/\(1:Nat)<=x_1+1/\cmD (aZ (ltC aW) (vsK l x)) (x_1+1)/\(vsK l x).length-(x_1+1)<(vsK l x).length-x_1))/\
         (¬(x_1:Int)<(vsK l x).length->(vsK l x).length=(aZ (ltC aW) (vsK l x)).length/\l=l/\aZ (ltC aW) (vsK l x)=vsP l/\(0:Nat)=0/\([] :List Ed)=([] :List Ed)))))/\
      (∀y:Unit,(0=(0:Int)/\([] :List (Prod (Prod Nat Nat) (List Int)))=cS l 0/\(0:Nat)<=l.length)/\
       (∀x_1:Nat,x_1<=l.length->((x_1:Int)<x->(ix (x_1:Int) x/\x_1<(onP l x).length/\(x_1:Int)=x_1/\pA (onP l x) x_1=bC l x_1)/\
         (∀y_1:Unit,(0=(0:Int)/\ -1=fX (vsP l) (bC l x_1) 0/\cS l x_1=dC (vsP l) (bC l x_1) (x_1:Int) (cS l x_1) 0/\(0:Nat)<=(bC l x_1).length)/\
          (∀x_2:Nat,x_2<=(bC l x_1).length->((x_2:Int)<(bC l x_1).length->ix (x_2:Int) (bC l x_1).length/\(vsP l).length<=1000000/\POk (aP (bC l x_1) x_2)/\(∀v:Pt,v∈vsP l->POk v)/\((0<=fX (vsP l) (bC l x_1) x_2->(0<=fX (vsP l) (bC l x_1) x_2/\0<=(ptX (aP (bC l x_1) x_2) (vsP l):Int))/\rN (xp (λx_3=>x_3.1) (dC (vsP l) (bC l x_1) (x_1:Int) (cS l x_1) x_2))/\(∀a:Nat,∀q:Prod (Prod Nat Nat) (List Int),GetElem?.getElem? (dC (vsP l) (bC l x_1) (x_1:Int) (cS l x_1) x_2) a=Option.some q/\q.1=((fX (vsP l) (bC l x_1) x_2).toNat,ptX (aP (bC l x_1) x_2) (vsP l))->(0<=(fX (vsP l) (bC l x_1) x_2)/\0<=(ptX (aP (bC l x_1) x_2) (vsP l):Int))/\(q.2.length+1)=q.2.length+1/\a<(dC (vsP l) (bC l x_1) (x_1:Int) (cS l x_1) x_2).length/\(cV (dC (vsP l) (bC l x_1) (x_1:Int) (cS l x_1) x_2) a ((0,0),([] :List Int))).1=((fX (vsP l) (bC l x_1) x_2).toNat,ptX (aP (bC l x_1) x_2) (vsP l))/\q.2.length=(cV (dC (vsP l) (bC l x_1) (x_1:Int) (cS l x_1) x_2) a ((0,0),([] :List Int))).2.length/\q.2.length+1<=1000000/\rN (xp (λx_3=>x_3.1) (dC (vsP l) (bC l x_1) (x_1:Int) (cS l x_1) x_2))/\eI (dC (vsP l) (bC l x_1) (x_1:Int) (cS l x_1) x_2) ((fX (vsP l) (bC l x_1) x_2).toNat,ptX (aP (bC l x_1) x_2) (vsP l)) (x_1:Int)=dC (vsP l) (bC l x_1) (x_1:Int) (cS l x_1) (x_2+1))/\
              ((∀q:Prod (Prod Nat Nat) (List Int),q∈dC (vsP l) (bC l x_1) (x_1:Int) (cS l x_1) x_2->q.1≠((fX (vsP l) (bC l x_1) x_2).toNat,ptX (aP (bC l x_1) x_2) (vsP l)))->(0<=(fX (vsP l) (bC l x_1) x_2)/\0<=(ptX (aP (bC l x_1) x_2) (vsP l):Int))/\1=1/\(∀q:Prod (Prod Nat Nat) (List Int),q∈(dC (vsP l) (bC l x_1) (x_1:Int) (cS l x_1) x_2)->q.1≠((fX (vsP l) (bC l x_1) x_2).toNat,ptX (aP (bC l x_1) x_2) (vsP l)))/\rN (xp (λx_3=>x_3.1) (dC (vsP l) (bC l x_1) (x_1:Int) (cS l x_1) x_2))/\eI (dC (vsP l) (bC l x_1) (x_1:Int) (cS l x_1) x_2) ((fX (vsP l) (bC l x_1) x_2).toNat,ptX (aP (bC l x_1) x_2) (vsP l)) (x_1:Int)=dC (vsP l) (bC l x_1) (x_1:Int) (cS l x_1) (x_2+1)))/\
             (¬0<=fX (vsP l) (bC l x_1) x_2->dC (vsP l) (bC l x_1) (x_1:Int) (cS l x_1) x_2=dC (vsP l) (bC l x_1) (x_1:Int) (cS l x_1) (x_2+1)))/\
            (∀y_2:Unit,aG ((x_2:Int)+1)/\(x_2:Int)+1=((x_2+1:Nat):Int)/\(ptX (aP (bC l x_1) x_2) (vsP l):Int)=fX (vsP l) (bC l x_1) (x_2+1)/\dC (vsP l) (bC l x_1) (x_1:Int) (cS l x_1) (x_2+1)=dC (vsP l) (bC l x_1) (x_1:Int) (cS l x_1) (x_2+1)/\x_2+1<=(bC l x_1).length/\(bC l x_1).length-(x_2+1)<(bC l x_1).length-x_2))/\
           (¬(x_2:Int)<(bC l x_1).length->aG ((x_1:Int)+1)/\(x_1:Int)+1=((x_1+1:Nat):Int)/\dC (vsP l) (bC l x_1) (x_1:Int) (cS l x_1) x_2=cS l (x_1+1)/\x_1+1<=l.length/\l.length-(x_1+1)<l.length-x_1))))/\
        (¬(x_1:Int)<x->(cS l x_1=cS l x_1/\l=l/\vsP l=vsP l/\(0:Nat)=([] :List Ed).length/\([] :List Ed)=([] :List Ed)/\List.Perm (([] :List Ed)++edM (cS l x_1)) (edM (cS l l.length)))/\
         (∀x_2:Prod MF (List Ed),List.Perm (x_2.2++edM x_2.1) (edM (cS l l.length))->(x_2.1=([] :List (Prod (Prod Nat Nat) (List Int)))->(x_2.2.length=x_2.2.length/\x_2.2.length<=1000000/\EdK x_2.2/\l=l/\vsP l=vsP l/\x_2.2.length=(esP l).length/\aZ (ltC gc) x_2.2=esP l)/\
           (∀y_1:Unit,(esP l).length=(esP l).length/\PlOk (⟨l,vsP l,esP l,([] :List (List (List Int)))⟩:Pl)/\LvO (⟨l,vsP l,esP l,([] :List (List (List Int)))⟩:Pl) aC/\(esP l).length=(esP l).length/\PlOk (⟨l,vsP l,esP l,([] :List (List (List Int)))⟩:Pl)/\LvO (⟨l,vsP l,esP l,([] :List (List (List Int)))⟩:Pl) aC/\0<=((cyP (⟨l,vsP l,esP l,([] :List (List (List Int)))⟩:Pl) aC).length:Int)/\((cyP (⟨l,vsP l,esP l,([] :List (List (List Int)))⟩:Pl) aC).length:Int)=(cyP (⟨l,vsP l,esP l,([] :List (List (List Int)))⟩:Pl) aC).length/\((cyP (⟨l,vsP l,esP l,([] :List (List (List Int)))⟩:Pl) aC).length:Int)<=1000000/\(cyP (⟨l,vsP l,esP l,([] :List (List (List Int)))⟩:Pl) aC).length*8<=1000000000/\aG (2*((esP l).length:Int))/\0<=2*((esP l).length:Int)/\2*((esP l).length:Int)=2*(esP l).length/\2*((esP l).length:Int)<=1000000/\2*(esP l).length*8<=1000000000/\(0=(0:Int)/\bT (cyP (⟨l,vsP l,esP l,([] :List (List (List Int)))⟩:Pl) aC).length (0:Int)=bT (cyP (aA l) aC).length 0/\bT (2*(esP l).length) (0:Int)=bT (2*(aA l).es.length) 0/\[([] :List (List Int))] =[([] :List (List Int))]/\l=(aA l).sg/\vsP l=(aA l).vs/\(esP l).length=(aA l).es.length/\(1:Nat)=[([] :List (List Int))].length/\(0:Nat)<=(cyP (aA l) aC).length)/\
            (∀x_3:Nat,x_3<=(cyP (aA l) aC).length->((x_3:Int)<(cyP (⟨l,vsP l,esP l,([] :List (List (List Int)))⟩:Pl) aC).length->ix (x_3:Int) (cyP (⟨l,vsP l,esP l,([] :List (List (List Int)))⟩:Pl) aC).length/\ix (x_3:Int) (cyP (⟨l,vsP l,esP l,([] :List (List (List Int)))⟩:Pl) aC).length/\x_3<(ph1 (aA l) x_3).1.length/\(0=(0:Int)/\(ph1 (aA l) x_3).2.1=ofC (x_3:Int) (ph1 (aA l) x_3).2.1 (aJ (cyP (aA l) aC) x_3) 0/\(0:Nat)<=(aJ (cyP (aA l) aC) x_3).length)/\
              (∀x_4:Nat,x_4<=(aJ (cyP (aA l) aC) x_3).length->((x_4:Int)<(aJ (cyP (⟨l,vsP l,esP l,([] :List (List (List Int)))⟩:Pl) aC) x_3).length->ix (x_4:Int) (aJ (cyP (⟨l,vsP l,esP l,([] :List (List (List Int)))⟩:Pl) aC) x_3).length/\ix (aK (aJ (cyP (⟨l,vsP l,esP l,([] :List (List (List Int)))⟩:Pl) aC) x_3) x_4) (2*(esP l).length)/\(aK (aJ (cyP (⟨l,vsP l,esP l,([] :List (List (List Int)))⟩:Pl) aC) x_3) x_4).toNat<(ofC (x_3:Int) (ph1 (aA l) x_3).2.1 (aJ (cyP (aA l) aC) x_3) x_4).length/\aG ((x_4:Int)+1)/\(x_4:Int)+1=((x_4+1:Nat):Int)/\cY (ofC (x_3:Int) (ph1 (aA l) x_3).2.1 (aJ (cyP (aA l) aC) x_3) x_4) (aK (aJ (cyP (⟨l,vsP l,esP l,([] :List (List (List Int)))⟩:Pl) aC) x_3) x_4).toNat (x_3:Int)=ofC (x_3:Int) (ph1 (aA l) x_3).2.1 (aJ (cyP (aA l) aC) x_3) (x_4+1)/\x_4+1<=(aJ (cyP (aA l) aC) x_3).length/\(aJ (cyP (aA l) aC) x_3).length-(x_4+1)<(aJ (cyP (aA l) aC) x_3).length-x_4)/\
               (¬(x_4:Int)<(aJ (cyP (⟨l,vsP l,esP l,([] :List (List (List Int)))⟩:Pl) aC) x_3).length->((aA l).es.length=(esP l).length/\(ph1 (aA l) x_3).2.2.length=(ph1 (aA l) x_3).2.2.length/\PlOk (⟨(aA l).sg,(aA l).vs,esP l,(ph1 (aA l) x_3).2.2⟩:Pl)/\LvIn (⟨(aA l).sg,(aA l).vs,esP l,(ph1 (aA l) x_3).2.2⟩:Pl) (lvP (⟨l,vsP l,esP l,([] :List (List (List Int)))⟩:Pl) aC)/\(0:Nat)<(aJ (cyP (⟨l,vsP l,esP l,([] :List (List (List Int)))⟩:Pl) aC) x_3).length/\(aJ (cyP (⟨l,vsP l,esP l,([] :List (List (List Int)))⟩:Pl) aC) x_3).length<=1000000/\(∀h:Int,h∈aJ (cyP (⟨l,vsP l,esP l,([] :List (List (List Int)))⟩:Pl) aC) x_3->HIn (⟨(aA l).sg,(aA l).vs,esP l,(ph1 (aA l) x_3).2.2⟩:Pl) h)/\(0:Nat)<(aJ (lvP (⟨l,vsP l,esP l,([] :List (List (List Int)))⟩:Pl) aC) (bz (⟨(aA l).sg,(aA l).vs,esP l,(ph1 (aA l) x_3).2.2⟩:Pl) (aJ (cyP (⟨l,vsP l,esP l,([] :List (List (List Int)))⟩:Pl) aC) x_3)).toNat).length/\(!inP (⟨(aA l).sg,(aA l).vs,esP l,(ph1 (aA l) x_3).2.2⟩:Pl) (aJ (cyP (⟨l,vsP l,esP l,([] :List (List (List Int)))⟩:Pl) aC) x_3) (lvP (⟨l,vsP l,esP l,([] :List (List (List Int)))⟩:Pl) aC))=(!inP (aA l) (aJ (cyP (aA l) aC) x_3) (lvP (aA l) aC)))/\
                (∀y_2:Unit,((!inP (aA l) (aJ (cyP (aA l) aC) x_3) (lvP (aA l) aC))=true->(ix (x_3:Int) (cyP (⟨l,vsP l,esP l,([] :List (List (List Int)))⟩:Pl) aC).length/\x_3<(cY (ph1 (aA l) x_3).1 x_3 (-1)).length/\cY (cY (ph1 (aA l) x_3).1 x_3 (-1)) x_3 ((ph1 (aA l) x_3).2.2.length:Int)=cY (cY (ph1 (aA l) x_3).1 x_3 (-1)) x_3 ((ph1 (aA l) x_3).2.2.length:Int))/\
                  (∀y_3:Unit,((ph1 (aA l) x_3).2.2.length)=((ph1 (aA l) x_3).2.2).length/\((ph1 (aA l) x_3).2.2.length)+1<=1000000/\aG ((x_3:Int)+1)/\(x_3:Int)+1=((x_3+1:Nat):Int)/\cY (cY (ph1 (aA l) x_3).1 x_3 (-1)) x_3 ((ph1 (aA l) x_3).2.2.length:Int)=(ph1 (aA l) (x_3+1)).1/\ofC (x_3:Int) (ph1 (aA l) x_3).2.1 (aJ (cyP (aA l) aC) x_3) x_4=(ph1 (aA l) (x_3+1)).2.1/\((ph1 (aA l) x_3).2.2)++[[aJ (cyP (⟨l,vsP l,esP l,([] :List (List (List Int)))⟩:Pl) aC) x_3]] =(ph1 (aA l) (x_3+1)).2.2/\(aA l).sg=(aA l).sg/\(aA l).vs=(aA l).vs/\(aA l).es.length=(aA l).es.length/\((ph1 (aA l) x_3).2.2.length+1)=(ph1 (aA l) (x_3+1)).2.2.length/\x_3+1<=(cyP (aA l) aC).length/\(cyP (aA l) aC).length-(x_3+1)<(cyP (aA l) aC).length-x_3))/\
                 ((!inP (aA l) (aJ (cyP (aA l) aC) x_3) (lvP (aA l) aC))=false->aG ((x_3:Int)+1)/\(x_3:Int)+1=((x_3+1:Nat):Int)/\cY (ph1 (aA l) x_3).1 x_3 (-1)=(ph1 (aA l) (x_3+1)).1/\ofC (x_3:Int) (ph1 (aA l) x_3).2.1 (aJ (cyP (aA l) aC) x_3) x_4=(ph1 (aA l) (x_3+1)).2.1/\(ph1 (aA l) x_3).2.2=(ph1 (aA l) (x_3+1)).2.2/\(aA l).sg=(aA l).sg/\(aA l).vs=(aA l).vs/\(aA l).es.length=(aA l).es.length/\(ph1 (aA l) x_3).2.2.length=(ph1 (aA l) (x_3+1)).2.2.length/\x_3+1<=(cyP (aA l) aC).length/\(cyP (aA l) aC).length-(x_3+1)<(cyP (aA l) aC).length-x_3)))))/\
             (¬(x_3:Int)<(cyP (⟨l,vsP l,esP l,([] :List (List (List Int)))⟩:Pl) aC).length->(0=(0:Int)/\(ph1 (aA l) x_3).1=(ph1 (aA l) (cyP (aA l) aC).length).fst/\(ph1 (aA l) x_3).2.2=(ph1 (aA l) (cyP (aA l) aC).length).2.snd/\(0:Nat)<=(cyP (aA l) aC).length)/\
              (∀x_4:Nat,x_4<=(cyP (aA l) aC).length->((x_4:Int)<(cyP (⟨l,vsP l,esP l,([] :List (List (List Int)))⟩:Pl) aC).length->ix (x_4:Int) (cyP (⟨l,vsP l,esP l,([] :List (List (List Int)))⟩:Pl) aC).length/\(ix (x_4:Int) (cyP (⟨l,vsP l,esP l,([] :List (List (List Int)))⟩:Pl) aC).length/\x_4<(ph2 (aA l) x_4).1.length/\(0<aK (ph2 (aA l) x_4).1 x_4->ix (x_4:Int) (cyP (⟨l,vsP l,esP l,([] :List (List (List Int)))⟩:Pl) aC).length/\x_4<(ph2 (aA l) x_4).1.length/\ix (aK (ph2 (aA l) x_4).1 x_4) (ph1 (aA l) x_3).2.2.length/\(aK (ph2 (aA l) x_4).1 x_4).toNat<(ph2 (aA l) x_4).2.length/\(0<((cV (ph2 (aA l) x_4).2 (aK (ph2 (aA l) x_4).1 x_4).toNat ([] :List (List Int))).length:Int)->ix (x_4:Int) (cyP (⟨l,vsP l,esP l,([] :List (List (List Int)))⟩:Pl) aC).length/\x_4<(ph2 (aA l) x_4).1.length/\ix (aK (ph2 (aA l) x_4).1 x_4) (ph1 (aA l) x_3).2.2.length/\(aK (ph2 (aA l) x_4).1 x_4).toNat<(ph2 (aA l) x_4).2.length/\ix 0 (cV (ph2 (aA l) x_4).2 (aK (ph2 (aA l) x_4).1 x_4).toNat ([] :List (List Int))).length/\(aK (ph2 (aA l) x_4).1 x_4).toNat<(ph2 (aA l) x_4).2.length/\(0:Nat)<(cV (ph2 (aA l) x_4).2 (aK (ph2 (aA l) x_4).1 x_4).toNat ([] :List (List Int))).length/\ix 0 (aJ (cV (ph2 (aA l) x_4).2 (aK (ph2 (aA l) x_4).1 x_4).toNat ([] :List (List Int))) 0).length/\ix 0 (aJ (cyP (⟨l,vsP l,esP l,([] :List (List (List Int)))⟩:Pl) aC) x_4).length/\decide (aK (aJ (cV (ph2 (aA l) x_4).2 (aK (ph2 (aA l) x_4).1 x_4).toNat ([] :List (List Int))) 0) 0=aK (aJ (cyP (⟨l,vsP l,esP l,([] :List (List (List Int)))⟩:Pl) aC) x_4) 0)=ouP (ph2 (aA l) x_4).1 (ph2 (aA l) x_4).2 (aJ (cyP (aA l) aC) x_4) x_4)/\
                  (¬0<((cV (ph2 (aA l) x_4).2 (aK (ph2 (aA l) x_4).1 x_4).toNat ([] :List (List Int))).length:Int)->false=ouP (ph2 (aA l) x_4).1 (ph2 (aA l) x_4).2 (aJ (cyP (aA l) aC) x_4) x_4))/\
                 (¬0<aK (ph2 (aA l) x_4).1 x_4->false=ouP (ph2 (aA l) x_4).1 (ph2 (aA l) x_4).2 (aJ (cyP (aA l) aC) x_4) x_4))/\
                (∀y_2:Unit,(ix (x_4:Int) (cyP (⟨l,vsP l,esP l,([] :List (List (List Int)))⟩:Pl) aC).length/\x_4<(ph2 (aA l) x_4).1.length/\(aK (ph2 (aA l) x_4).1 x_4<0->ix (x_4:Int) (cyP (⟨l,vsP l,esP l,([] :List (List (List Int)))⟩:Pl) aC).length/\x_4<(ph2 (aA l) x_4).1.length/\ix (x_4:Int) (cyP (⟨l,vsP l,esP l,([] :List (List (List Int)))⟩:Pl) aC).length/\(aA l).es.length=(esP l).length/\(ph1 (aA l) x_3).2.2.length=(ph2 (aA l) x_4).2.length/\PlOk (⟨(aA l).sg,(aA l).vs,esP l,(ph2 (aA l) x_4).2⟩:Pl)/\(0:Nat)<(aJ (cyP (⟨l,vsP l,esP l,([] :List (List (List Int)))⟩:Pl) aC) x_4).length/\(aJ (cyP (⟨l,vsP l,esP l,([] :List (List (List Int)))⟩:Pl) aC) x_4).length<=1000000/\(∀h:Int,h∈aJ (cyP (⟨l,vsP l,esP l,([] :List (List (List Int)))⟩:Pl) aC) x_4->HIn (⟨(aA l).sg,(aA l).vs,esP l,(ph2 (aA l) x_4).2⟩:Pl) h)/\ix (bz (⟨(aA l).sg,(aA l).vs,esP l,(ph2 (aA l) x_4).2⟩:Pl) (aJ (cyP (⟨l,vsP l,esP l,([] :List (List (List Int)))⟩:Pl) aC) x_4)) (aA l).vs.length/\(aA l).es.length=(esP l).length/\(ph1 (aA l) x_3).2.2.length=(ph2 (aA l) x_4).2.length/\PlOk (⟨(aA l).sg,(aA l).vs,esP l,(ph2 (aA l) x_4).2⟩:Pl)/\QOk (aP (aA l).vs (bz (⟨(aA l).sg,(aA l).vs,esP l,(ph2 (aA l) x_4).2⟩:Pl) (aJ (cyP (⟨l,vsP l,esP l,([] :List (List (List Int)))⟩:Pl) aC) x_4)).toNat)/\(0<=bwP (⟨(aA l).sg,(aA l).vs,esP l,(ph2 (aA l) x_4).2⟩:Pl) (aP (aA l).vs (bz (⟨(aA l).sg,(aA l).vs,esP l,(ph2 (aA l) x_4).2⟩:Pl) (aJ (cyP (⟨l,vsP l,esP l,([] :List (List (List Int)))⟩:Pl) aC) x_4)).toNat)->ix (bwP (⟨(aA l).sg,(aA l).vs,esP l,(ph2 (aA l) x_4).2⟩:Pl) (aP (aA l).vs (bz (⟨(aA l).sg,(aA l).vs,esP l,(ph2 (aA l) x_4).2⟩:Pl) (aJ (cyP (⟨l,vsP l,esP l,([] :List (List (List Int)))⟩:Pl) aC) x_4)).toNat)) (2*(esP l).length)/\(bwP (⟨(aA l).sg,(aA l).vs,esP l,(ph2 (aA l) x_4).2⟩:Pl) (aP (aA l).vs (bz (⟨(aA l).sg,(aA l).vs,esP l,(ph2 (aA l) x_4).2⟩:Pl) (aJ (cyP (⟨l,vsP l,esP l,([] :List (List (List Int)))⟩:Pl) aC) x_4)).toNat)).toNat<(ph1 (aA l) x_3).2.1.length/\(cyP (⟨l,vsP l,esP l,([] :List (List (List Int)))⟩:Pl) aC).length=(cY (ph2 (aA l) x_4).1 x_4 0).length/\2*(esP l).length=(ph1 (aA l) x_3).2.1.length/\(cY (ph2 (aA l) x_4).1 x_4 0).length<=1000000/\(0<=aK (ph1 (aA l) x_3).2.1 (bwP (⟨(aA l).sg,(aA l).vs,esP l,(ph2 (aA l) x_4).2⟩:Pl) (aP (aA l).vs (bz (⟨(aA l).sg,(aA l).vs,esP l,(ph2 (aA l) x_4).2⟩:Pl) (aJ (cyP (⟨l,vsP l,esP l,([] :List (List (List Int)))⟩:Pl) aC) x_4)).toNat)).toNat/\aK (ph1 (aA l) x_3).2.1 (bwP (⟨(aA l).sg,(aA l).vs,esP l,(ph2 (aA l) x_4).2⟩:Pl) (aP (aA l).vs (bz (⟨(aA l).sg,(aA l).vs,esP l,(ph2 (aA l) x_4).2⟩:Pl) (aJ (cyP (⟨l,vsP l,esP l,([] :List (List (List Int)))⟩:Pl) aC) x_4)).toNat)).toNat<(cY (ph2 (aA l) x_4).1 x_4 0).length)/\0<=aK (cY (ph2 (aA l) x_4).1 x_4 0) (aK (ph1 (aA l) x_3).2.1 (bwP (⟨(aA l).sg,(aA l).vs,esP l,(ph2 (aA l) x_4).2⟩:Pl) (aP (aA l).vs (bz (⟨(aA l).sg,(aA l).vs,esP l,(ph2 (aA l) x_4).2⟩:Pl) (aJ (cyP (⟨l,vsP l,esP l,([] :List (List (List Int)))⟩:Pl) aC) x_4)).toNat)).toNat).toNat/\ix (x_4:Int) (cyP (⟨l,vsP l,esP l,([] :List (List (List Int)))⟩:Pl) aC).length/\x_4<(cY (ph2 (aA l) x_4).1 x_4 0).length/\cY (cY (ph2 (aA l) x_4).1 x_4 0) x_4 (aK (cY (ph2 (aA l) x_4).1 x_4 0) (aK (ph1 (aA l) x_3).2.1 (bwP (⟨(aA l).sg,(aA l).vs,esP l,(ph2 (aA l) x_4).2⟩:Pl) (aP (aA l).vs (bz (⟨(aA l).sg,(aA l).vs,esP l,(ph2 (aA l) x_4).2⟩:Pl) (aJ (cyP (⟨l,vsP l,esP l,([] :List (List (List Int)))⟩:Pl) aC) x_4)).toNat)).toNat).toNat)=fdP (aA l) (ph1 (aA l) (cyP (aA l) aC).length).2.1 (ph2 (aA l) x_4).1 (aJ (cyP (aA l) aC) x_4) x_4)/\
                   (¬0<=bwP (⟨(aA l).sg,(aA l).vs,esP l,(ph2 (aA l) x_4).2⟩:Pl) (aP (aA l).vs (bz (⟨(aA l).sg,(aA l).vs,esP l,(ph2 (aA l) x_4).2⟩:Pl) (aJ (cyP (⟨l,vsP l,esP l,([] :List (List (List Int)))⟩:Pl) aC) x_4)).toNat)->cY (ph2 (aA l) x_4).1 x_4 0=fdP (aA l) (ph1 (aA l) (cyP (aA l) aC).length).2.1 (ph2 (aA l) x_4).1 (aJ (cyP (aA l) aC) x_4) x_4))/\
                  (¬aK (ph2 (aA l) x_4).1 x_4<0->(ph2 (aA l) x_4).1=fdP (aA l) (ph1 (aA l) (cyP (aA l) aC).length).2.1 (ph2 (aA l) x_4).1 (aJ (cyP (aA l) aC) x_4) x_4))/\
                 (∀y_3:Unit,ix (x_4:Int) (cyP (⟨l,vsP l,esP l,([] :List (List (List Int)))⟩:Pl) aC).length/\x_4<(fdP (aA l) (ph1 (aA l) (cyP (aA l) aC).length).2.1 (ph2 (aA l) x_4).1 (aJ (cyP (aA l) aC) x_4) x_4).length/\((!ouP (ph2 (aA l) x_4).1 (ph2 (aA l) x_4).2 (aJ (cyP (aA l) aC) x_4) x_4)=true->ix (aK (fdP (aA l) (ph1 (aA l) (cyP (aA l) aC).length).2.1 (ph2 (aA l) x_4).1 (aJ (cyP (aA l) aC) x_4) x_4) x_4) (ph1 (aA l) x_3).2.2.length/\(aK (fdP (aA l) (ph1 (aA l) (cyP (aA l) aC).length).2.1 (ph2 (aA l) x_4).1 (aJ (cyP (aA l) aC) x_4) x_4) x_4).toNat<(ph2 (aA l) x_4).2.length/\(aK (fdP (aA l) (ph1 (aA l) (cyP (aA l) aC).length).2.1 (ph2 (aA l) x_4).1 (aJ (cyP (aA l) aC) x_4) x_4) x_4).toNat<(ph2 (aA l) x_4).2.length/\(cV (ph2 (aA l) x_4).2 (aK (fdP (aA l) (ph1 (aA l) (cyP (aA l) aC).length).2.1 (ph2 (aA l) x_4).1 (aJ (cyP (aA l) aC) x_4) x_4) x_4).toNat ([] :List (List Int))).length=(cV (ph2 (aA l) x_4).2 (aK (fdP (aA l) (ph1 (aA l) (cyP (aA l) aC).length).2.1 (ph2 (aA l) x_4).1 (aJ (cyP (aA l) aC) x_4) x_4) x_4).toNat ([] :List (List Int))).length/\(cV (ph2 (aA l) x_4).2 (aK (fdP (aA l) (ph1 (aA l) (cyP (aA l) aC).length).2.1 (ph2 (aA l) x_4).1 (aJ (cyP (aA l) aC) x_4) x_4) x_4).toNat ([] :List (List Int))).length+[aJ (cyP (⟨l,vsP l,esP l,([] :List (List (List Int)))⟩:Pl) aC) x_4].length<=1000000/\ix (aK (fdP (aA l) (ph1 (aA l) (cyP (aA l) aC).length).2.1 (ph2 (aA l) x_4).1 (aJ (cyP (aA l) aC) x_4) x_4) x_4) (ph1 (aA l) x_3).2.2.length/\(aK (fdP (aA l) (ph1 (aA l) (cyP (aA l) aC).length).2.1 (ph2 (aA l) x_4).1 (aJ (cyP (aA l) aC) x_4) x_4) x_4).toNat=(aK (fdP (aA l) (ph1 (aA l) (cyP (aA l) aC).length).2.1 (ph2 (aA l) x_4).1 (aJ (cyP (aA l) aC) x_4) x_4) x_4).toNat/\(aK (fdP (aA l) (ph1 (aA l) (cyP (aA l) aC).length).2.1 (ph2 (aA l) x_4).1 (aJ (cyP (aA l) aC) x_4) x_4) x_4).toNat<(ph2 (aA l) x_4).2.length/\aG ((x_4:Int)+1)/\(aK (fdP (aA l) (ph1 (aA l) (cyP (aA l) aC).length).2.1 (ph2 (aA l) x_4).1 (aJ (cyP (aA l) aC) x_4) x_4) x_4).toNat<(ph2 (aA l) x_4).2.length/\(cV (ph2 (aA l) x_4).2 (aK (fdP (aA l) (ph1 (aA l) (cyP (aA l) aC).length).2.1 (ph2 (aA l) x_4).1 (aJ (cyP (aA l) aC) x_4) x_4) x_4).toNat ([] :List (List Int))++[aJ (cyP (⟨l,vsP l,esP l,([] :List (List (List Int)))⟩:Pl) aC) x_4]).length=(cV (ph2 (aA l) x_4).2 (aK (fdP (aA l) (ph1 (aA l) (cyP (aA l) aC).length).2.1 (ph2 (aA l) x_4).1 (aJ (cyP (aA l) aC) x_4) x_4) x_4).toNat ([] :List (List Int))++[aJ (cyP (⟨l,vsP l,esP l,([] :List (List (List Int)))⟩:Pl) aC) x_4]).length/\(x_4:Int)+1=((x_4+1:Nat):Int)/\fdP (aA l) (ph1 (aA l) (cyP (aA l) aC).length).2.1 (ph2 (aA l) x_4).1 (aJ (cyP (aA l) aC) x_4) x_4=(ph2 (aA l) (x_4+1)).1/\cY (ph2 (aA l) x_4).2 (aK (fdP (aA l) (ph1 (aA l) (cyP (aA l) aC).length).2.1 (ph2 (aA l) x_4).1 (aJ (cyP (aA l) aC) x_4) x_4) x_4).toNat (cV (ph2 (aA l) x_4).2 (aK (fdP (aA l) (ph1 (aA l) (cyP (aA l) aC).length).2.1 (ph2 (aA l) x_4).1 (aJ (cyP (aA l) aC) x_4) x_4) x_4).toNat ([] :List (List Int))++[aJ (cyP (⟨l,vsP l,esP l,([] :List (List (List Int)))⟩:Pl) aC) x_4])=(ph2 (aA l) (x_4+1)).2/\x_4+1<=(cyP (aA l) aC).length/\(cyP (aA l) aC).length-(x_4+1)<(cyP (aA l) aC).length-x_4)/\
                  ((!ouP (ph2 (aA l) x_4).1 (ph2 (aA l) x_4).2 (aJ (cyP (aA l) aC) x_4) x_4)=false->aG ((x_4:Int)+1)/\(x_4:Int)+1=((x_4+1:Nat):Int)/\fdP (aA l) (ph1 (aA l) (cyP (aA l) aC).length).2.1 (ph2 (aA l) x_4).1 (aJ (cyP (aA l) aC) x_4) x_4=(ph2 (aA l) (x_4+1)).1/\(ph2 (aA l) x_4).2=(ph2 (aA l) (x_4+1)).2/\x_4+1<=(cyP (aA l) aC).length/\(cyP (aA l) aC).length-(x_4+1)<(cyP (aA l) aC).length-x_4))))/\
               (¬(x_4:Int)<(cyP (⟨l,vsP l,esP l,([] :List (List (List Int)))⟩:Pl) aC).length->(0=(0:Int)/\esP l=ph3 (aA l) (ph1 (aA l) (cyP (aA l) aC).length).2.1 (ph2 (aA l) (cyP (aA l) aC).length).1 0/\(0:Nat)<=(aA l).es.length)/\
                (∀x_5:Nat,x_5<=(aA l).es.length->((x_5:Int)<(aA l).es.length->aG (2*(x_5:Int))/\ix (2*(x_5:Int)) (2*(esP l).length)/\2*x_5<(ph1 (aA l) x_3).2.1.length/\ix (aK (ph1 (aA l) x_3).2.1 (2*x_5)) (cyP (⟨l,vsP l,esP l,([] :List (List (List Int)))⟩:Pl) aC).length/\(aK (ph1 (aA l) x_3).2.1 (2*x_5)).toNat<(ph2 (aA l) x_4).1.length/\aG (2*(x_5:Int))/\aG (2*(x_5:Int)+1)/\ix (2*(x_5:Int)+1) (2*(esP l).length)/\2*x_5+1<(ph1 (aA l) x_3).2.1.length/\ix (aK (ph1 (aA l) x_3).2.1 (2*x_5+1)) (cyP (⟨l,vsP l,esP l,([] :List (List (List Int)))⟩:Pl) aC).length/\(aK (ph1 (aA l) x_3).2.1 (2*x_5+1)).toNat<(ph2 (aA l) x_4).1.length/\ix (x_5:Int) (aA l).es.length/\x_5<(ph3 (aA l) (ph1 (aA l) (cyP (aA l) aC).length).2.1 (ph2 (aA l) (cyP (aA l) aC).length).1 x_5).length/\ix (x_5:Int) (aA l).es.length/\x_5<(cY (ph3 (aA l) (ph1 (aA l) (cyP (aA l) aC).length).2.1 (ph2 (aA l) (cyP (aA l) aC).length).1 x_5) x_5 (⟨(aX (ph3 (aA l) (ph1 (aA l) (cyP (aA l) aC).length).2.1 (ph2 (aA l) (cyP (aA l) aC).length).1 x_5) x_5).fr,(aX (ph3 (aA l) (ph1 (aA l) (cyP (aA l) aC).length).2.1 (ph2 (aA l) (cyP (aA l) aC).length).1 x_5) x_5).to,aK (ph2 (aA l) x_4).1 (aK (ph1 (aA l) x_3).2.1 (2*x_5)).toNat,(aX (ph3 (aA l) (ph1 (aA l) (cyP (aA l) aC).length).2.1 (ph2 (aA l) (cyP (aA l) aC).length).1 x_5) x_5).rt,(aX (ph3 (aA l) (ph1 (aA l) (cyP (aA l) aC).length).2.1 (ph2 (aA l) (cyP (aA l) aC).length).1 x_5) x_5).src⟩:Ed)).length/\aG ((x_5:Int)+1)/\(x_5:Int)+1=((x_5+1:Nat):Int)/\cY (cY (ph3 (aA l) (ph1 (aA l) (cyP (aA l) aC).length).2.1 (ph2 (aA l) (cyP (aA l) aC).length).1 x_5) x_5 (⟨(aX (ph3 (aA l) (ph1 (aA l) (cyP (aA l) aC).length).2.1 (ph2 (aA l) (cyP (aA l) aC).length).1 x_5) x_5).fr,(aX (ph3 (aA l) (ph1 (aA l) (cyP (aA l) aC).length).2.1 (ph2 (aA l) (cyP (aA l) aC).length).1 x_5) x_5).to,aK (ph2 (aA l) x_4).1 (aK (ph1 (aA l) x_3).2.1 (2*x_5)).toNat,(aX (ph3 (aA l) (ph1 (aA l) (cyP (aA l) aC).length).2.1 (ph2 (aA l) (cyP (aA l) aC).length).1 x_5) x_5).rt,(aX (ph3 (aA l) (ph1 (aA l) (cyP (aA l) aC).length).2.1 (ph2 (aA l) (cyP (aA l) aC).length).1 x_5) x_5).src⟩:Ed)) x_5 (⟨(aX (cY (ph3 (aA l) (ph1 (aA l) (cyP (aA l) aC).length).2.1 (ph2 (aA l) (cyP (aA l) aC).length).1 x_5) x_5 (⟨(aX (ph3 (aA l) (ph1 (aA l) (cyP (aA l) aC).length).2.1 (ph2 (aA l) (cyP (aA l) aC).length).1 x_5) x_5).fr,(aX (ph3 (aA l) (ph1 (aA l) (cyP (aA l) aC).length).2.1 (ph2 (aA l) (cyP (aA l) aC).length).1 x_5) x_5).to,aK (ph2 (aA l) x_4).1 (aK (ph1 (aA l) x_3).2.1 (2*x_5)).toNat,(aX (ph3 (aA l) (ph1 (aA l) (cyP (aA l) aC).length).2.1 (ph2 (aA l) (cyP (aA l) aC).length).1 x_5) x_5).rt,(aX (ph3 (aA l) (ph1 (aA l) (cyP (aA l) aC).length).2.1 (ph2 (aA l) (cyP (aA l) aC).length).1 x_5) x_5).src⟩:Ed)) x_5).fr,(aX (cY (ph3 (aA l) (ph1 (aA l) (cyP (aA l) aC).length).2.1 (ph2 (aA l) (cyP (aA l) aC).length).1 x_5) x_5 (⟨(aX (ph3 (aA l) (ph1 (aA l) (cyP (aA l) aC).length).2.1 (ph2 (aA l) (cyP (aA l) aC).length).1 x_5) x_5).fr,(aX (ph3 (aA l) (ph1 (aA l) (cyP (aA l) aC).length).2.1 (ph2 (aA l) (cyP (aA l) aC).length).1 x_5) x_5).to,aK (ph2 (aA l) x_4).1 (aK (ph1 (aA l) x_3).2.1 (2*x_5)).toNat,(aX (ph3 (aA l) (ph1 (aA l) (cyP (aA l) aC).length).2.1 (ph2 (aA l) (cyP (aA l) aC).length).1 x_5) x_5).rt,(aX (ph3 (aA l) (ph1 (aA l) (cyP (aA l) aC).length).2.1 (ph2 (aA l) (cyP (aA l) aC).length).1 x_5) x_5).src⟩:Ed)) x_5).to,(aX (cY (ph3 (aA l) (ph1 (aA l) (cyP (aA l) aC).length).2.1 (ph2 (aA l) (cyP (aA l) aC).length).1 x_5) x_5 (⟨(aX (ph3 (aA l) (ph1 (aA l) (cyP (aA l) aC).length).2.1 (ph2 (aA l) (cyP (aA l) aC).length).1 x_5) x_5).fr,(aX (ph3 (aA l) (ph1 (aA l) (cyP (aA l) aC).length).2.1 (ph2 (aA l) (cyP (aA l) aC).length).1 x_5) x_5).to,aK (ph2 (aA l) x_4).1 (aK (ph1 (aA l) x_3).2.1 (2*x_5)).toNat,(aX (ph3 (aA l) (ph1 (aA l) (cyP (aA l) aC).length).2.1 (ph2 (aA l) (cyP (aA l) aC).length).1 x_5) x_5).rt,(aX (ph3 (aA l) (ph1 (aA l) (cyP (aA l) aC).length).2.1 (ph2 (aA l) (cyP (aA l) aC).length).1 x_5) x_5).src⟩:Ed)) x_5).lf,aK (ph2 (aA l) x_4).1 (aK (ph1 (aA l) x_3).2.1 (2*x_5+1)).toNat,(aX (cY (ph3 (aA l) (ph1 (aA l) (cyP (aA l) aC).length).2.1 (ph2 (aA l) (cyP (aA l) aC).length).1 x_5) x_5 (⟨(aX (ph3 (aA l) (ph1 (aA l) (cyP (aA l) aC).length).2.1 (ph2 (aA l) (cyP (aA l) aC).length).1 x_5) x_5).fr,(aX (ph3 (aA l) (ph1 (aA l) (cyP (aA l) aC).length).2.1 (ph2 (aA l) (cyP (aA l) aC).length).1 x_5) x_5).to,aK (ph2 (aA l) x_4).1 (aK (ph1 (aA l) x_3).2.1 (2*x_5)).toNat,(aX (ph3 (aA l) (ph1 (aA l) (cyP (aA l) aC).length).2.1 (ph2 (aA l) (cyP (aA l) aC).length).1 x_5) x_5).rt,(aX (ph3 (aA l) (ph1 (aA l) (cyP (aA l) aC).length).2.1 (ph2 (aA l) (cyP (aA l) aC).length).1 x_5) x_5).src⟩:Ed)) x_5).src⟩:Ed)=ph3 (aA l) (ph1 (aA l) (cyP (aA l) aC).length).2.1 (ph2 (aA l) (cyP (aA l) aC).length).1 (x_5+1)/\x_5+1<=(aA l).es.length/\(aA l).es.length-(x_5+1)<(aA l).es.length-x_5)/\
                 (¬(x_5:Int)<(aA l).es.length->(aA l).es.length=(ph3 (aA l) (ph1 (aA l) (cyP (aA l) aC).length).2.1 (ph2 (aA l) (cyP (aA l) aC).length).1 x_5).length/\(ph1 (aA l) x_3).2.2.length=(ph2 (aA l) x_4).2.length/\(aA l).sg=(aU l).sg/\(aA l).vs=(aU l).vs/\ph3 (aA l) (ph1 (aA l) (cyP (aA l) aC).length).2.1 (ph2 (aA l) (cyP (aA l) aC).length).1 x_5=(aU l).es/\(ph2 (aA l) x_4).2=(aU l).fs/\0=eV l))))))))/\
          (∀i:Nat,∀q:Prod (Prod Nat Nat) (List Int),GetElem?.getElem? x_2.1 i=Option.some q->ix 0 2/\ix 1 2/\x_2.2.length=x_2.2.length/\x_2.2.length+[(⟨(q.1.1:Int),(q.1.2:Int),0,0,q.2⟩:Ed)].length<=1000000/\C8 x_2.1 i=C8 x_2.1 i/\l=l/\vsP l=vsP l/\(x_2.2++[(⟨(q.1.1:Int),(q.1.2:Int),0,0,q.2⟩:Ed)]).length=(x_2.2++[(⟨(q.1.1:Int),(q.1.2:Int),0,0,q.2⟩:Ed)]).length/\x_2.2++[(⟨(q.1.1:Int),(q.1.2:Int),0,0,q.2⟩:Ed)] =x_2.2++[(⟨(q.1.1:Int),(q.1.2:Int),0,0,q.2⟩:Ed)]/\List.Perm (x_2.2++[(⟨(q.1.1:Int),(q.1.2:Int),0,0,q.2⟩:Ed)] ++edM (C8 x_2.1 i)) (edM (cS l l.length))/\(C8 x_2.1 i).length<x_2.1.length))))))))))) (by kernel_rfl) (by
  change l.length<=1000/\((eV l=0->BdOk l))at hp;obtain⟨hl,hB⟩:=hp;refine⟨by omega,λh1=> ?_,λh1=>⟨by omega,λh2=> ?_,λh2=>⟨λh3=> ?_,λh3=> ?_⟩⟩⟩
  .have e:eV l=1:=by unfold eV;rw[if_pos h1]
   rw[AR (by rw[e];decide),e];exact⟨rfl,rfl,rfl,rfl,rfl⟩
  .have e:eV l=2:=by unfold eV;rw[if_neg (by rw[h1];decide),if_pos h2]
   rw[AR (by rw[e];decide),e];exact⟨rfl,rfl,rfl,rfl,rfl⟩
  .have e:eV l=9:=by unfold eV;rw[if_neg (by rw[h1];decide),if_neg (by rw[h2];decide),if_pos (by omega)]
   rw[AR (by rw[e];decide),e];exact⟨rfl,rfl,rfl,rfl,rfl⟩
  have e0:eV l=0:=by unfold eV;rw[if_neg (by rw[h1];decide),if_neg (by rw[h2];decide),if_neg (by omega)]
  have B:=hB e0;have eP:aU l=eR (aA l):=if_pos e0;have hlen:=B.len;refine⟨by omega,⟨rfl,rfl,rfl,rfl,rfl,rfl,ce _⟩,λx hx=>⟨λhlt=> ?_,λhge=> ?_⟩⟩
  .have hv:=vi l x;have hm:=Ao (a:=x) (n:=l.length) (by omega) hlen;have hp:=ry l x;rw[VL,Gp (Cl x),zx,zx];exact⟨by omega,by omega,B.raw x (by omega),rfl,by simp only[eM];omega,by unfold ix;omega,by omega,rfl,by omega,by unfold aG;omega,rfl,rfl,rfl,rfl,rfl,rfl,by omega,by omega⟩
  obtain rfl:x=l.length:=by omega
  have hv:=vi l l.length;have hm:=Ao (a:=l.length) (n:=l.length) hlen hlen;have hSl:(aZ (ltC aW) (vsK l l.length)).length=(vsK l l.length).length:=(fM _ _).length_eq;refine⟨rfl,by omega,λp hp=> ?_,⟨λh4=>⟨hSl.symm,rfl,(GB (by omega)).symm,rfl,rfl⟩,λh4=> ?_⟩,λ_=>⟨⟨rfl,rfl,ce _⟩,λi hi=>⟨λhlt=> ?_,λhge=> ?_⟩⟩⟩
  .obtain⟨i,h1,h2⟩:=zi hp;exact B.raw i h1 p (zB h2)
  .obtain⟨c1,c2⟩:=Le hSl (by omega) (show fA (aZ (ltC aW) (vsK l l.length))=vsP l from rfl) h4;refine⟨c1,λk hk=>⟨λhlt=> ?_,λhge=> ?_⟩⟩
   .obtain⟨a1,a2,a3,a4,a5,b,c⟩:=(c2 k hk).1 hlt;refine⟨a1,a2,a3,a4,a5,λhe=> ?_,c⟩;obtain⟨b1,b2,b3⟩:=b he;refine⟨b1,b2,λj hj=>⟨(b3 j hj).1,λhg=> ?_⟩⟩;obtain⟨d1,d2,d3,d4,d5⟩:=(b3 j hj).2 hg;rw[gR]at d4;exact⟨d1,d2,d3,d4,rfl,d5,rfl,rfl⟩
   .obtain⟨d1,d2⟩:=(c2 k hk).2 hge;exact⟨d1,rfl,d2,rfl,rfl⟩
  .have hpl:=ry l i;have hmem:∀j,j<(bC l i).length->POk (aP (bC l i) j):=λj hj=>B.raw i (by omega) _ (zB (by rw[mh hj];exact du hj))
   have hvl:(vsP l).length<=100000:=B.pl.lv;refine⟨⟨by unfold ix;omega,by rw[zx];omega,rfl,Gp (by omega)⟩,λ_=>⟨⟨rfl,rfl,rfl,ce _⟩,λj hj=>⟨λhlt2=>⟨by unfold ix;omega,by omega,hmem j (by omega),Xr B,⟨λhn=> ?_,λhn=>WV (λh=>hn (Fg.2 h))⟩,λ_=>⟨by unfold aG;omega,rfl,Sh,rfl,by omega,by omega⟩⟩,λhg=> ?_⟩⟩⟩
   .have hk:=ux (vs:=vsP l) (pts:=bC l i) (i:=(i:Int)) (pW l i) j;have hj1:=Fg.1 hn;have hnn:0<=fX (vsP l) (bC l i) j/\0<=(ptX (aP (bC l i) j) (vsP l):Int):=⟨hn,xy _⟩;refine⟨hnn,hk,λa q hq=> ?_,λhno=>⟨hnn,rfl,hno,hk,GS hj1⟩⟩;obtain⟨ha,e⟩:=nj.1 hq.1;have hr:=yY (vs:=vsP l) (pts:=bC l i) (i:=(i:Int)) (EI l i) j q (List.mem_of_getElem? hq.1);have hm2:=Ao (a:=i) (n:=l.length) (by omega) hlen;have eg:cV (dC (vsP l) (bC l i) (i:Int) (cS l i) j) a ((0,0),([] :List Int))=q:=by rw[b9,hq.1];rfl
    rw[eg];exact⟨hnn,rfl,ha,hq.2,rfl,by omega,hk,GS hj1⟩
   .obtain rfl:j=(bC l i).length:=by omega
    exact⟨by unfold aG;omega,rfl,rfl,by omega,by omega⟩
  obtain rfl:i=l.length:=by omega
  have hle:(esP l).length<=400000:=B.pl.le;have hel:(edM (cS l l.length)).length<=400000:=by rw[AJ];exact hle
  refine⟨⟨rfl,rfl,rfl,rfl,rfl,uH _⟩,λy hy=>⟨λhM=> ?_,λi q hq=> ?_⟩⟩
  rotate_left
  .have hlen2:=hy.length_eq;obtain⟨hi2,_⟩:=nj.1 hq;have hel2:(edM y.1).length=y.1.length:=dt _;rw[dj]at hlen2;refine⟨by unfold ix;omega,by unfold ix;omega,rfl,by simp only[eM];omega,rfl,rfl,rfl,rfl,rfl,(UG hq _).trans hy,?_⟩;rw[List.length_eraseIdx_of_lt hi2];omega
  have hperm:y.2.Perm (edM (cS l l.length)):=by rw[hM]at hy;have:y.2++edM [] =y.2:=jW _;rw[this]at hy;exact hy
  have hek:=HO (pW l l.length);refine⟨⟨rfl,by have:=hperm.length_eq;omega,EdK.perm hperm hek,rfl,rfl,by rw[hperm.length_eq,AJ],Us hperm hek⟩,λ_=> ?_⟩;clear hy hM hperm y hge hB;have P:=B.pl;have hPE:(⟨l,vsP l,esP l,([] :List (List (List Int)))⟩:Pl)=aA l:=rfl;rw[hPE];have hes:(esP l).length=(aA l).es.length:=rfl;obtain⟨hcy,hcm⟩:=wn P;refine⟨rfl,P,B.ord,rfl,P,B.ord,by omega,rfl,by omega,by omega,by unfold aG;omega,by omega,by omega,by omega,by omega,⟨rfl,rfl,rfl,rfl,rfl,rfl,rfl,rfl,ce _⟩,λk hk=>⟨λhlt=> ?_,λhge=> ?_⟩⟩
  .obtain⟨c1,c2,c3⟩:=hcm _ (oH (l:=cyP (aA l) aC) (i:=k) (by omega));obtain⟨m1,m2⟩:=mV (aA l) k;have I:=p6 P k (show k<=(cyP (aA l) aC).length by omega);have f1:=I.f1;have f2:=I.f2;have m1:(ph1 (aA l) k).1.length=(cyP (aA l) aC).length:=m1;refine⟨by unfold ix;omega,by unfold ix;omega,by omega,⟨rfl,rfl,ce _⟩,λj hj=>⟨λhlt2=> ?_,λhg=> ?_⟩⟩
   .have H:=c3 _ (iB (l:=aJ (cyP (aA l) aC) k) (i:=j) (by omega));have h1:=H.1;have h2:=H.2;exact⟨by unfold ix;omega,by unfold ix;omega,by rw[sQ];omega,by unfold aG;omega,rfl,rfl,by omega,by omega⟩
   .obtain rfl:j=(aJ (cyP (aA l) aC) k).length:=by omega
    refine⟨⟨rfl,rfl,P.fs _,(tD P aC).fs _,c1,by omega,c3,?_,?_⟩,λ_=>⟨λhin=> ?_,λhin=> ?_⟩⟩
    .have:=AA (aA l) (ph1 (aA l) k).2.2 (aJ (cyP (aA l) aC) k);have e:bz (⟨(aA l).sg,(aA l).vs,esP l,(ph1 (aA l) k).2.2⟩:Pl) (aJ (cyP (aA l) aC) k)=bz (aA l) (aJ (cyP (aA l) aC) k):=this;rw[e];exact YM P c1 c3
    .have e:inP (⟨(aA l).sg,(aA l).vs,esP l,(ph1 (aA l) k).2.2⟩:Pl) (aJ (cyP (aA l) aC) k) (lvP (aA l) aC)=inP (aA l) (aJ (cyP (aA l) aC) k) (lvP (aA l) aC):=YP (aA l) _ _ _;rw[e]
    .have hin:¬inP (aA l) (aJ (cyP (aA l) aC) k) (lvP (aA l) aC)=true:=by
      cases h:inP (aA l) (aJ (cyP (aA l) aC) k) (lvP (aA l) aC)with
      |true=>rw[h]at hin;cases hin
      |false=>exact rM
     have e:ph1 (aA l) (k+1)=_:=if_neg hin;rw[e];refine⟨⟨by unfold ix;omega,by rw[fB];omega,rfl⟩,λ_=>⟨rfl,by omega,by unfold aG;omega,rfl,rfl,rfl,rfl,rfl,rfl,rfl,?_,by omega,by omega⟩⟩;simp only[dj,eM]
    .have hin:inP (aA l) (aJ (cyP (aA l) aC) k) (lvP (aA l) aC)=true:=by
      cases h:inP (aA l) (aJ (cyP (aA l) aC) k) (lvP (aA l) aC)with
      |true=>rfl
      |false=>rw[h]at hin;cases hin
     have e:ph1 (aA l) (k+1)=_:=if_pos hin;rw[e];exact⟨by unfold aG;omega,rfl,rfl,rfl,rfl,rfl,rfl,rfl,rfl,by omega,by omega⟩
  obtain rfl:k=(cyP (aA l) aC).length:=by omega
  have I1:=p6 P _ (bD (nC (aA l)));have hf2:(ph1 (aA l) (cyP (aA l) aC).length).2.2.length<=(cyP (aA l) aC).length+1:=I1.f2;obtain⟨ml,mo⟩:=mV (aA l) (cyP (aA l) aC).length;have ml:(ph1 (aA l) (cyP (aA l) aC).length).1.length=(cyP (aA l) aC).length:=ml;refine⟨⟨rfl,rfl,rfl,ce _⟩,λk hk2=>⟨λhlt=> ?_,λhge2=> ?_⟩⟩
  .obtain⟨c1,c2,c3⟩:=hcm _ (oH (l:=cyP (aA l) aC) (i:=k) (by omega));have I:=oM B k (show k<=(cyP (aA l) aC).length by omega);have i1:(ph2 (aA l) k).1.length=(cyP (aA l) aC).length:=I.l1;have i2:(ph2 (aA l) k).2.length=(ph1 (aA l) (cyP (aA l) aC).length).2.2.length:=I.l2;have f1:1<=(ph1 (aA l) (cyP (aA l) aC).length).2.2.length:=I1.f1;have v0:aK (ph2 (aA l) k).1 k=aK (ph1 (aA l) (cyP (aA l) aC).length).1 k:=I.v2 k (bD _);have v1:0<aK (ph2 (aA l) k).1 k->aK (ph2 (aA l) k).1 k<((ph1 (aA l) (cyP (aA l) aC).length).2.2.length:Int):=by
    intro h;rcases I1.v1 k (show k<(cyP (aA l) aC).length by omega)with h3|h3
    .have:aK (ph1 (aA l) (cyP (aA l) aC).length).1 k= -1:=h3.1;omega
    .rw[v0];exact h3.2
   obtain⟨w1,w2⟩:=HI B (show k<(cyP (aA l) aC).length by omega) I;have w0:=w1 k (Cl k);have w0:0<=aK (fdP (aA l) (ph1 (aA l) (cyP (aA l) aC).length).2.1 (ph2 (aA l) k).1 (aJ (cyP (aA l) aC) k) k) k/\aK (fdP (aA l) (ph1 (aA l) (cyP (aA l) aC).length).2.1 (ph2 (aA l) k).1 (aJ (cyP (aA l) aC) k) k) k<((ph1 (aA l) (cyP (aA l) aC).length).2.2.length:Int):=w0;refine⟨by unfold ix;omega,⟨by unfold ix;omega,by omega,λh0=> ?_,λh0=> ?_⟩,λ_=>⟨⟨by unfold ix;omega,by omega,λh0=> ?_,λh0=> ?_⟩,λ_=>⟨by unfold ix;omega,by rw[AI];omega,λho=> ?_,λho=> ?_⟩⟩⟩
   .have hv:=v1 h0;have hr:=I.r _ (zD (l:=(ph2 (aA l) k).2) (i:=(aK (ph2 (aA l) k).1 k).toNat) (by omega));rw[Oj];refine⟨by unfold ix;omega,by omega,by unfold ix;omega,by omega,λh5=> ?_,λh5=> ?_⟩
    .have hrow:=hr.2 _ (oH (l:=ag (ph2 (aA l) k).2 (aK (ph2 (aA l) k).1 k).toNat) (i:=0) (by omega));refine⟨by unfold ix;omega,by omega,by unfold ix;omega,by omega,by unfold ix;omega,by omega,by omega,by unfold ix;omega,by unfold ix;omega,?_⟩;unfold ouP;rw[decide_eq_true h0,decide_eq_true (show 0<(ag (ph2 (aA l) k).2 (aK (ph2 (aA l) k).1 k).toNat).length by omega),jR,jR]
    .unfold ouP;rw[decide_eq_false (show¬0<(ag (ph2 (aA l) k).2 (aK (ph2 (aA l) k).1 k).toNat).length by omega),nr,Bool.and_false]
   .unfold ouP;rw[decide_eq_false h0,nr]
   .have hlow:=z8 P c1 c3;have e1:∀fs,bz (⟨(aA l).sg,(aA l).vs,esP l,fs⟩:Pl) (aJ (cyP (aA l) aC) k)=bz (aA l) (aJ (cyP (aA l) aC) k):=λfs=>AA (aA l) fs _;have e2:∀fs q,bwP (⟨(aA l).sg,(aA l).vs,esP l,fs⟩:Pl) q=bwP (aA l) q:=λfs q=>Ym (aA l) fs q;simp only[e1,e2];have hq:POk (aP (aA l).vs (bz (aA l) (aJ (cyP (aA l) aC) k)).toNat)/\(aP (aA l).vs (bz (aA l) (aJ (cyP (aA l) aC) k)).toNat).den<=33000000:=P.pt _ (by
     have hh:(bz (aA l) (aJ (cyP (aA l) aC) k)).toNat<(aA l).vs.length:=by omega
     rw[mh hh];exact du hh)
    refine⟨by unfold ix;omega,by omega,by unfold ix;omega,rfl,i2.symm,P.fs _,c1,by omega,c3,by unfold ix;omega,rfl,i2.symm,P.fs _,hq.1.q hq.2,λhb=> ?_,λhb=> ?_⟩
    .have hb:0<=bwQ (aA l) (aJ (cyP (aA l) aC) k):=hb;have S:=zC B (show k<(cyP (aA l) aC).length by omega) I h0 hb;have s1:=S.h.1;have s2:=S.h.2;have s3:=S.j;have s4:=S.lt;have s3:0<=aK (ph1 (aA l) (cyP (aA l) aC).length).2.1 (bwQ (aA l) (aJ (cyP (aA l) aC) k)).toNat:=s3;have s4:aK (ph1 (aA l) (cyP (aA l) aC).length).2.1 (bwQ (aA l) (aJ (cyP (aA l) aC) k)).toNat<k:=s4;show ix (bwQ (aA l) (aJ (cyP (aA l) aC) k)) _/\(bwQ (aA l) (aJ (cyP (aA l) aC) k)).toNat<_/\_/\_/\_/\(0<=aK _ (bwQ (aA l) (aJ (cyP (aA l) aC) k)).toNat/\aK _ (bwQ (aA l) (aJ (cyP (aA l) aC) k)).toNat<_)/\0<=aK _ (aK _ (bwQ (aA l) (aJ (cyP (aA l) aC) k)).toNat).toNat/\_;have hj:=I.v1 (aK (ph1 (aA l) (cyP (aA l) aC).length).2.1 (bwQ (aA l) (aJ (cyP (aA l) aC) k)).toNat).toNat (by omega);refine⟨by unfold ix;omega,by omega,by rw[fB];omega,by omega,by rw[fB];omega,⟨s3,by rw[fB];omega⟩,?_,by unfold ix;omega,by rw[fB];omega,?_⟩
     .rw[fC,if_neg (by omega)];exact hj.1
     .unfold fdP;rw[if_pos h0,if_pos hb];rfl
    .have hb:¬0<=bwQ (aA l) (aJ (cyP (aA l) aC) k):=hb;unfold fdP;rw[if_pos h0,if_neg hb]
   .unfold fdP;rw[if_neg h0]
   .have ho:¬ouP (ph2 (aA l) k).1 (ph2 (aA l) k).2 (aJ (cyP (aA l) aC) k) k=true:=by
     cases h:ouP (ph2 (aA l) k).1 (ph2 (aA l) k).2 (aJ (cyP (aA l) aC) k) k with
     |true=>rw[h]at ho;cases ho
     |false=>exact rM
    have e:ph2 (aA l) (k+1)=_:=if_neg ho;rw[e,Oj];have hr:=I.r _ (zD (l:=(ph2 (aA l) k).2) (i:=(aK (fdP (aA l) (ph1 (aA l) (cyP (aA l) aC).length).2.1 (ph2 (aA l) k).1 (aJ (cyP (aA l) aC) k) k) k).toNat) (by omega));exact⟨by unfold ix;omega,by omega,by omega,rfl,by simp only[eM];omega,by unfold ix;omega,rfl,by omega,by unfold aG;omega,by omega,rfl,rfl,rfl,rfl,by omega,by omega⟩
   .have ho:ouP (ph2 (aA l) k).1 (ph2 (aA l) k).2 (aJ (cyP (aA l) aC) k) k=true:=by
     cases h:ouP (ph2 (aA l) k).1 (ph2 (aA l) k).2 (aJ (cyP (aA l) aC) k) k with
     |true=>rfl
     |false=>rw[h]at ho;cases ho
    have e:ph2 (aA l) (k+1)=_:=if_pos ho;rw[e];exact⟨by unfold aG;omega,rfl,rfl,rfl,by omega,by omega⟩
  obtain rfl:k=(cyP (aA l) aC).length:=by omega
  have I2:=oM B _ (bD (nC (aA l)));have n1:(ph2 (aA l) (cyP (aA l) aC).length).1.length=(cyP (aA l) aC).length:=I2.l1;refine⟨⟨rfl,rfl,ce _⟩,λe he=>⟨λhlt=> ?_,λhg=> ?_⟩⟩
  .have hpos:=Yv (p:=aA l) (by omega);have o1:=I1.o _ (iB (l:=(ph1 (aA l) (nC (aA l))).2.1) (i:=2*e) (by show 2*e<(ph1 (aA l) (cyP (aA l) aC).length).2.1.length;omega));have o2:=I1.o _ (iB (l:=(ph1 (aA l) (nC (aA l))).2.1) (i:=2*e+1) (by show 2*e+1<(ph1 (aA l) (cyP (aA l) aC).length).2.1.length;omega));have o1:aK (ph1 (aA l) (cyP (aA l) aC).length).2.1 (2*e)=0\/0<=aK (ph1 (aA l) (cyP (aA l) aC).length).2.1 (2*e)/\aK (ph1 (aA l) (cyP (aA l) aC).length).2.1 (2*e)<((cyP (aA l) aC).length:Int):=o1;have o2:aK (ph1 (aA l) (cyP (aA l) aC).length).2.1 (2*e+1)=0\/0<=aK (ph1 (aA l) (cyP (aA l) aC).length).2.1 (2*e+1)/\aK (ph1 (aA l) (cyP (aA l) aC).length).2.1 (2*e+1)<((cyP (aA l) aC).length:Int):=o2;have l3:=sO (aA l) (ph1 (aA l) (cyP (aA l) aC).length).2.1 (ph2 (aA l) (cyP (aA l) aC).length).1 e;refine⟨by unfold aG;omega,by unfold ix;omega,by omega,by unfold ix;omega,by omega,by unfold aG;omega,by unfold aG;omega,by unfold ix;omega,by omega,by unfold ix;omega,by omega,by unfold ix;omega,by omega,by unfold ix;omega,by rw[fB];omega,by unfold aG;omega,rfl,?_,by omega,by omega⟩;exact Wr (by omega)
  .obtain rfl:e=(aA l).es.length:=by omega
   rw[eP];exact⟨(sO _ _ _ _).symm,I2.l2.symm,rfl,rfl,rfl,rfl,e0.symm⟩)
section
open Go.RowKit Go.Shelf
attribute [local go_sem] Oper.semAt_some
def RdH(n0:Nat)(w:World)(ah:Option Addr)(hs:List RV):Prop:=∀i,i<hs.length->∃b off,ah=some ⟨b,off,none⟩/\b<n0/\w.cell? ⟨b,off+i,none⟩=some (RV.enc (hs.getD i default))
def RdH.below{n0:Nat}{w w':World}{ah:Option Addr}{hs:List RV}(h:RdH n0 w ah hs)(hb:Below n0 w w'):RdH n0 w' ah hs:=by intro i hi;obtain⟨b,off,ha,hlt,h1⟩:=h i hi;exact⟨b,off,ha,hlt,(hb.cell (p:=⟨b,_,none⟩) hlt).trans h1⟩
def Kp2(n0 b:Nat)(W W':World):Prop:=Below n0 W W'/\W'.heap[b]? =W.heap[b]?
def Kp2.trans{n0 b:Nat}{A B C:World}(h:Kp2 n0 b A B)(k:Kp2 n0 b B C):Kp2 n0 b A C:=⟨h.1.trans k.1,k.2.trans h.2⟩
def Kp2.blk{n0 b:Nat}{W W':World}{t:TypeId}{cs:Array Value}(h:Kp2 n0 b W W')(hb:Blk W b t cs):Blk W' b t cs:=h.2.trans hb
def Ta(F:Fence)(n:Nat)(h179:F.fn 216)(hro:F.round=none)(hn:1<=n)(l b n0:Nat)(o:RV)(ah:Option Addr)(ch:Nat)(hs:List RV)(hhs:hs.length<=1000)(J Jx:List RV->World->Prop)
  (hY:∀pre x W,x∈o::hs->J pre W->pre.length<hs.length+1->YieldAt F (n-1) aH l #[RV.enc x] W λe W'=>
    (e= .returned (.bool true)/\J (pre++[x]) W'/\Kp2 n0 b W W')\/(e= .returned (.bool false)/\Jx (pre++[x]) W'))
  (W:World) (hB:Blk W b 81 #[RV.enc o,.slice ah hs.length ch]) (hH:RdH n0 W ah hs) (h0:J [] W):
  CallsIn F n aH 216 #[.func (.yield l) #[] #[],.pointer (some ⟨b,0,none⟩)] W λe W'=>(∃v,e= .returned v)/\
   ((∃ys,ys=o::hs/\J ys W')\/(∃pre,pre<+:o::hs/\Jx pre W')):=by
 obtain⟨fn,tmps,assign,body,hy,hR⟩:=hY [] o W eC h0 (by simp);dsimp only[RV.enc]at hy;have c0:=hB.cell 0;have c1:=hB.cell 1;simp[RV.enc]at c0 c1;refine callsIn_of_wp Tryz.func216 rfl h179 ?_ hro;simp only[Tryz.ntmps216,Cg,hZ,iH,Nat.reduceAdd,Nat.reduceSub,Q5,Q6,Q7,Q8,pK,mF]
 gi_wp2
 refine hR.mono ?_;rintro e W1 (⟨rfl,hJ1,hk1⟩|⟨rfl,hJx1⟩)
 .have hB1:=hk1.blk hB;have hH1:=hH.below hk1.1;clear c0 c1 hR hy;have c0:=hB1.cell 0;have c1:=hB1.cell 1;simp[RV.enc]at c0 c1
  gi_wp2
  gi_loopw [4,13] (λ_ i wr=>∃k:Nat,k<=hs.length/\i= .int .i64 k/\J (o::hs.take k) wr/\Kp2 n0 b W1 wr) (λ_ i _=>hs.length-(intOf i).toNat)
  case atStart=>exact⟨0,by omega,rfl,by grind,Below.refl _ _,rfl⟩
  case round=>
   obtain⟨k,hk,rfl,hJr,hkr⟩:=hrel;by_cases hlt:k<hs.length
   .obtain⟨bb,off,rfl,hbb,p0⟩:=hH1.below hkr.1 k hlt;have hblt:bb<wr.heap.size:=by
     rcases jT bb wr.heap.size with h|h
     .exact h
     .simp[World.cell?,Array.getElem?_eq_none h]at p0
    have htk:o::hs.take (k+1)=(o::hs.take k)++[hs.getD k default] :=by rw[List.take_add_one,b9,c8 hlt];simp
    obtain⟨fn,tmps,assign,body,hy,hR⟩:=hY (o::hs.take k) (hs.getD k default) wr (dR _ (by grind)) hJr (by simp;omega);rw[<-htk]at hR;dsimp only[RV.enc]at hy;unfold RV.enc at p0;clear htk;generalize hs.getD k default=z at hy p0
    gi_wp2
    refine hR.mono ?_;rintro e W3 (⟨rfl,hJ3,hk3⟩|⟨rfl,hJx3⟩)
    .gi_wp2
     go_roundw
     case rel=>exact⟨k+1,by omega,by go_num,hJ3,hkr.trans hk3⟩
     case measure=>simp[intOf];omega
    .gi_wp2
     refine bodyPost_ret (results_none rfl _ _ _) rfl ?_;grind
   .have hk2:k=hs.length:=by omega
    subst hk2;rw[iM]at hJr
    gi_wp2
    go_end0
    grind
 .gi_wp2
  refine bodyPost_ret (results_none rfl _ _ _) rfl ?_;grind
def RY(F:Fence)(n:Nat)(h179:F.fn 216)(hro:F.round=none)(hn:1<=n)(b n0:Nat)(o:RV)(ah:Option Addr)(ch:Nat)(hs:List RV)(hhs:hs.length<=1000)(w:World)(hn0:n0<=w.heap.size)(hB:Blk w b 81 #[RV.enc o,.slice ah hs.length ch])(hH:RdH n0 w ah hs):
  SeqStopsK F n aH 216 #[.pointer (some ⟨b,0,none⟩)] (λx:{x:RV//x∈o::hs}=> #[RV.enc x.1]) (Kp2 n0 b) (λys=>ys.map (·.1)=o::hs) (λpre=>pre.map (·.1)<+:o::hs) (hs.length+1) w:=λl J Jx W hW _ _ hY h0=>by
 refine(Ta F n h179 hro hn l b n0 o ah ch hs hhs (λpre W=>∃p:List {x:RV//x∈o::hs},p.map (·.1)=pre/\J p W) (λpre W=>∃p:List {x:RV//x∈o::hs},p.map (·.1)=pre/\Jx p W) ?_ W (hB.iT hW) (hH.below (hW.mono hn0)) ⟨[],rfl,h0⟩).mono ?_
 .rintro pre x W' hx ⟨p,rfl,hJ⟩ hl;obtain⟨fn,tmps,assign,body,hy,hR⟩:=hY p ⟨x,hx⟩ W' hJ (by grind);refine⟨fn,tmps,assign,body,hy,hR.mono ?_⟩;grind
 grind
def ZC{n0 b:Nat}{w:World}(hn:n0<=w.heap.size)(hb:b<w.heap.size)(W:World)(l:Nat)(o o':Obj)(hl:w.heap.size<=l)(h:W.heap[l]? =some o)(h1:o.isCells=false)(h2:o.isWalk=false):Kp2 n0 b W (W.putObj l o'):=
 ⟨belowK_b hn W l o o' hl h h1 h2,World.putObj_heap_other (by omega)⟩
def TZ(o:RV)(ah:Option Addr)(nh ch:Nat)(w:World):
  Calls aH 159 #[.agg #[RV.enc o,.slice ah nh ch]] w λe w'=>e= .returned (.func (.func 216) #[] #[.pointer (some ⟨w.heap.size,0,none⟩)])/\w'=w.alloc (.cells #[RV.enc o,.slice ah nh ch] 81):=by
 unfold RV.enc
 go_enter Tryz.func159,Tryz.ntmps159
 go_wp2
 go_ret
 simp_all
end
section
open Go.RowKit Go.Shelf
attribute [local go_sem] Oper.semAt_some
structure RdSh(w:World)(o:RV)(ah:Option Addr)(hs:List RV):Prop where
 h:RdH w.heap.size w ah hs
 v:∀x∈o::hs,RdV w x.a x.r/\Len x
 n:hs.length<=1000
def gE(o:RV)(hs:List RV):Shape:=⟨o.r,hs.map RV.r⟩
section
variable {F:Fence} {n:Nat} {P:Program} {fn:Func} {R:Ending->World->Prop} {a:Act} {w:World} {v:Value}
def SZ(hr:(results fn a.tmps).run P w= .ok v w)(hd:a.defers=[])(hR:R (.returned v) w):bodyPostM F n P fn R .ret a w:=by show LeavesInM F n P fn a.tmps R a.defers .returning w;rw[hd];exact⟨v,hr,hR⟩
def SY{D:Nat}(hd:a.defers=[{target:= .collected D,args:= #[]}])(hK:w.heap[D]? =some (.deferred (some [])))(hr:(results fn a.tmps).run P (w.putObj D (.deferred none))= .ok v (w.putObj D (.deferred none)))
  (hR:R (.returned v) (w.putObj D (.deferred none))):bodyPostM F n P fn R .ret a w:=by
 show LeavesInM F n P fn a.tmps R a.defers .returning w;rw[hd];exact⟨by simp,.inl ⟨_,_,rfl,run_takeDeferred hK,v,hr,hR⟩⟩
end
def mO{n0 D:Nat}{W:World}(hD:n0<=D)(hK:W.heap[D]? =some (.deferred (some []))):Below n0 W (W.putObj D (.deferred none)):=
 (Below.refl n0 W).grown (grownBy_putObj' W D _) (by grind) (by grind)
def R4{W W':World}(h:Below W.heap.size W W'):KeepsOthers W W':=
 ⟨h.size,λk _o hk _=>(h.block k (by grind)).trans hk⟩
def se{β:Type}{B g:Nat}{t:TypeId}{cs:β->Array Value}:OwnFrom B (λ(s:β) W=>Blk W g t (cs s)):=λs W W' row h hg hr=>by have h':W.heap[g]? =some (.cells (cs s) t (0,0)):=h;refine(hg.block g (by grind) ?_).trans h';intro e;obtain⟨_,o,ho,hc⟩:=hr g e.symm;rw[h']at ho;cases ho;cases hc
def IT{β:Type}{B:Nat}{p:β->Prop}:OwnFrom B (λ(s:β) (_:World)=>p s):=λ_ _ _ _ h _ _=>h
def WB{W:World}{D g:Nat}{t:TypeId}{cs:Array Value}(h:Blk W g t cs)(hK:W.heap[D]? =some (.deferred (some [])))(o':Obj):Blk (W.putObj D o') g t cs:=by have h':W.heap[g]? =some (.cells cs t (0,0)):=h;refine(World.putObj_heap_other ?_).trans h';grind
def mv{F:Fence}{n:Nat}{R:Ending->World->Prop}{W:World}{D s:Nat}{T:Array Value}{v:Bool}(hT:T.getD 2 undef= .pointer (some ⟨s,0,none⟩))(b2:Blk W s 4 #[.bool v])(hK:W.heap[D]? =some (.deferred (some [])))
  (hR:R (.returned (.bool v)) (W.putObj D (.deferred none))):bodyPostM F n aH Tryz.f97 R .ret {tmps:=T,defers:=[{target:= .collected D,args:= #[]}]} W:=by
 refine SY (v:= .bool v) rfl hK ?_ hR;have c2:=(WB b2 hK (.deferred none)).cell 0;rw[Array.getD_eq_getD_getElem?]at hT;simp[results,Tryz.f97,go_sem,hT,c2]
def Rp{s:Shape}(h:6<s.holes.length):iP s=false:=by unfold iP;grind
def jF(o:bF)(L:List bF)(i:Nat):Bool:=aB8 (aa L i) o 2&&fz (aa L i) o&&
 ((bN i).all λk=>fz (aa L i) (aa L k)&&aB8 (aa L i) (aa L k) 0&&aB8 (aa L k) (aa L i) 0)
def ow(L:List bF)(i k:Nat):Bool:=fz (aa L i) (aa L k)&&aB8 (aa L i) (aa L k) 0&&aB8 (aa L k) (aa L i) 0
def uk(s:Shape):iP s=(decide (s.holes.length<=6)&&(dF s).all dA&&decide (ii s<=80)&&((bN s.holes.length).all (jF s.outer s.holes))):=rfl
def Rq{s:Shape}{i:Nat}(hi:i<s.holes.length)(h:jF s.outer s.holes i=false):iP s=false:=by rw[uk];grind
def RG{s:Shape}(h:80<ii s):iP s=false:=by rw[uk,decide_eq_false (show¬ii s<=80 by omega)];simp
def Ro{s:Shape}{r:bF}(hr:r∈dF s)(h:dA r=false):iP s=false:=by rw[uk];grind
def SF{s:Shape}(h1:¬6<s.holes.length)(h2:∀r∈dF s,dA r=true)(h3:¬80<ii s)(h4:∀i,i<s.holes.length->jF s.outer s.holes i=true):iP s=true:=by rw[uk,decide_eq_true (by grind),decide_eq_true (by grind),dY.2 h2];grind
def T6{o:bF}{L:List bF}{i:Nat}(h1:aB8 (aa L i) o 2=true)(h2:fz (aa L i) o=true)(h3:∀k,k<i->ow L i k=true):jF o L i=true:=by unfold jF;rw[h1,h2];simp only[jR,dY,dZ];exact h3
def Sm{o:bF}{L:List bF}{i:Nat}(h1:aB8 (aa L i) o 2=false):jF o L i=false:=by unfold jF;rw[h1];simp
def Sl{o:bF}{L:List bF}{i:Nat}(h1:fz (aa L i) o=false):jF o L i=false:=by unfold jF;rw[h1];simp
def Sk{o:bF}{L:List bF}{i k:Nat}(hk:k<i)(h1:ow L i k=false):jF o L i=false:=by unfold jF;have:((bN i).all λk=>fz (aa L i) (aa L k)&&aB8 (aa L i) (aa L k) 0&&aB8 (aa L k) (aa L i) 0)=false:=List.all_eq_false.2 ⟨k,by grind,by simpa[ow]using h1⟩;grind
def VO(hs:List RV){k:Nat}(hk:k<hs.length):aa (hs.map RV.r) k=(hs.getD k default).r:=by unfold aa;grind
def Fl(hs:List RV){k:Nat}(hk:k<hs.length):hs.getD k default∈hs:=by grind
def RI(o:RV)(ah:Option Addr)(ch:Nat)(hs:List RV)(w:World)(H:RdSh w o ah hs)(hch:hs.length<=ch):
  Calls aH 97 #[.agg #[RV.enc o,.slice ah hs.length ch]] w λe w'=>e= .returned (.bool (iP (gE o hs)))/\Below w.heap.size w w':=by
 have hN:=H.n;by_cases c1:6<hs.length
 .have HV:Hid (iP (gE o hs)=false):=Lib.hid (Rp (by unfold gE;grind));refine(callsIn_wide (n:=9)).1 (callsIn_of_wp_marks Tryz.func97 rfl trivial ((wpIn_wide (n:=9)).2 ?_) rfl);simp only[Tryz.ntmps97,Cg,hZ,iH,Nat.reduceAdd,Nat.reduceSub,Q5,Q6,Q7,Q8,pK,mF]
  go_wp2_with fail
  have hBW:Below w.heap.size w (((w.alloc (.cells #[.slice o.a o.r.length o.c,.slice ah hs.length ch] 81)).alloc (.cells #[.bool false] 4))):=((Below.refl _ _).alloc (bD _) _).alloc (by simp) _;refine SZ (v:= .bool false) ?_ rfl ?_
  .simp[results,Tryz.f97,go_sem]
  .exact⟨by rw[HV.out],hBW⟩
 .have d1:decide ((6:Int)<hs.length)=false:=by grind
  refine(callsIn_wide (n:=9)).1 (callsIn_of_wp_marks Tryz.func97 rfl trivial ((wpIn_wide (n:=9)).2 ?_) rfl);simp only[Tryz.ntmps97,Cg,hZ,iH,Nat.reduceAdd,Nat.reduceSub,Q5,Q6,Q7,Q8,pK,mF];dsimp only[RV.enc]
  go_wp2_with fail
  refine(TZ o ah hs.length ch _).mono ?_;rintro e w1 ⟨rfl,rfl⟩
  go_wp2_with fail
  have B1:=(((Blk.new w 81 #[.slice o.a o.r.length o.c,.slice ah hs.length ch]).alloc (.cells #[.bool false] 4)).alloc (.cells #[.int .i64 0] 3)).alloc (.cells #[RV.enc o,.slice ah hs.length ch] 81);have B2:=((Blk.new (w.alloc (.cells #[.slice o.a o.r.length o.c,.slice ah hs.length ch] 81)) 4 #[.bool false]).alloc (.cells #[.int .i64 0] 3)).alloc (.cells #[RV.enc o,.slice ah hs.length ch] 81);have B3:=(Blk.new ((w.alloc (.cells #[.slice o.a o.r.length o.c,.slice ah hs.length ch] 81)).alloc (.cells #[.bool false] 4)) 3 #[.int .i64 0]).alloc (.cells #[RV.enc o,.slice ah hs.length ch] 81);have B4:=Blk.new (((w.alloc (.cells #[.slice o.a o.r.length o.c,.slice ah hs.length ch] 81)).alloc (.cells #[.bool false] 4)).alloc (.cells #[.int .i64 0] 3)) 81 #[RV.enc o,.slice ah hs.length ch];have hBW:Below w.heap.size w ((((w.alloc (.cells #[.slice o.a o.r.length o.c,.slice ah hs.length ch] 81)).alloc (.cells #[.bool false] 4)).alloc (.cells #[.int .i64 0] 3)).alloc (.cells #[RV.enc o,.slice ah hs.length ch] 81)):=((((Below.refl _ _).alloc (bD _) _).alloc (by simp) _).alloc (by simp;omega) _).alloc (by simp;omega) _;have hs0:w.heap.size+4=((((w.alloc (.cells #[.slice o.a o.r.length o.c,.slice ah hs.length ch] 81)).alloc (.cells #[.bool false] 4)).alloc (.cells #[.int .i64 0] 3)).alloc (.cells #[RV.enc o,.slice ah hs.length ch] 81)).heap.size:=by simp
  simp only[World.size_alloc]at B1 B2 B3 B4;generalize (((w.alloc (.cells #[.slice o.a o.r.length o.c,.slice ah hs.length ch] 81)).alloc (.cells #[.bool false] 4)).alloc (.cells #[.int .i64 0] 3)).alloc (.cells #[RV.enc o,.slice ah hs.length ch] 81)=W0 at B1 B2 B3 B4 hBW hs0|-;refine(wpIn_wide (n:=9)).1 ?_
  refine' wpIn_rangeFunc_ownF (F:=Fence.wide) (n:=9) rfl (by omega) (gf:=216) (lb:= #[.pointer (some ⟨w.heap.size+1+1+1,0,none⟩)]) rfl trivial (enters_of Tryz.func216 (by kernel_rfl) rfl)
   (RY Fence.wide 8 trivial rfl (by omega) (w.heap.size+1+1+1) w.heap.size o ah ch hs H.n W0 (by omega) B4 (H.h.below hBW)) Kp2.trans (ZC (by omega) (by omega)) (Below.refl _ _) (λ_=>rfl)
   (λpre W=>((Blk W w.heap.size 81 #[.slice o.a o.r.length o.c,.slice ah hs.length ch]/\(Blk W (w.heap.size+1) 4 #[.bool false]/\Blk W (w.heap.size+1+1+1) 81 #[RV.enc o,.slice ah hs.length ch]))/\Blk W (w.heap.size+1+1) 3 #[.int .i64 ((pre.map λx=>x.1.r.length).sum:Nat)])/\(((pre.map λx=>x.1.r.length).sum<=1000*pre.length/\∀x∈pre,dA x.1.r=true)/\Below w.heap.size w W))
   (λc pre W=>Blk W (w.heap.size+1) 4 #[.bool false]/\((c= .ret/\∃x∈pre,dA x.1.r=false)/\Below w.heap.size w W))
   (OwnFrom.and (OwnFrom.and (OwnFrom.and se (OwnFrom.and se se)) se) (OwnFrom.and IT (ownFrom_below (bD _) (by omega))))
   (λc=>OwnFrom.and se (OwnFrom.and IT (ownFrom_below (bD _) (by omega))))
   (by grind) _ ?assign ?body ?done ?stop
  case assign=>
   intro l x W K hK
   gi_wp2
   exact hK
  case body=>
   rintro l pre ⟨⟨xa,xc,xr⟩,hxm⟩ W ⟨⟨⟨b1,b2,b4⟩,b3⟩,⟨hsum,hval⟩,hb⟩ hlen;obtain⟨hxr,hxl⟩:=H.v _ hxm;have hxn:xr.length<=1000:=hxl.1;have HS:Hid (((pre++[(⟨⟨xa,xc,xr⟩,hxm⟩:{x:RV//x∈o::hs})]).map λx:{x:RV//x∈o::hs}=>x.1.r.length).sum=(pre.map λx=>x.1.r.length).sum+xr.length):=Lib.hid (by simp);obtain⟨S,hS⟩:∃S,S=(xp (λx:{x:RV//x∈o::hs}=>fe x.1.r) pre).sum:=⟨_,rfl⟩;rw[<-hS]at b3 hsum HS;clear hS;have c2:=b2.cell 0;have c3:=b3.cell 0;have f2:=b2.frozen 0;have f3:=b3.frozen 0;dsimp only[RV.enc]
   gi_wp2_with fail
   refine⟨trivial,(CallsIn.inRound l (callsIn_wide.2 (RQ xa xc xr _ (hxr.below (hb.setCell (p:=⟨w.heap.size+1+1,0,none⟩) (by simp;omega) _)) hxl))).mono ?_⟩;rintro e w1 ⟨rfl,hb1⟩;have hk:KeepsOthers W w1:=(KeepsOthers.setCell W _ _).trans (R4 hb1);have q2:=(b2.far (p:=⟨w.heap.size+1+1,0,none⟩) (by simp) (.int .i64 ((S:Int)+xr.length))).iT hb1;have q1:=(b1.far (p:=⟨w.heap.size+1+1,0,none⟩) (by simp;omega) (.int .i64 ((S:Int)+xr.length))).iT hb1;have q4:=(b4.far (p:=⟨w.heap.size+1+1,0,none⟩) (by simp) (.int .i64 ((S:Int)+xr.length))).iT hb1;have q3:=(b3.l5 0 (.int .i64 ((S:Int)+xr.length))).iT hb1;have hB1:Below w.heap.size W w1:=((Below.refl _ W).setCell (p:=⟨w.heap.size+1+1,0,none⟩) (by simp;omega) _).trans (hb1.mono (by have:=hb.size;simp_all));have hK:Kp2 w.heap.size (w.heap.size+1+1+1) W w1:=⟨hB1,Eq.trans q4 (Eq.symm b4)⟩;cases hv:dA xr with
   |true=>
    gi_wp2
    refine⟨hk,hK,⟨⟨q1,q2,q4⟩,?_⟩,⟨?_,?_⟩,hb.trans hB1⟩
    .rw[HS.out];grind
    .rw[HS.out];simp;omega
    grind
   |false=>
    have c2:=q2.cell 0;have f2:=q2.frozen 0
    gi_wp2
    refine⟨hk.trans (KeepsOthers.setCell _ _ _),by simpa using q2.l5 0 (.bool false),⟨rfl,⟨_,d7.2 (.inr eC),hv⟩⟩,(hb.trans hB1).setCell (p:=⟨w.heap.size+1,0,none⟩) (by simp) _⟩
  case stop=>
   rintro D c pre W hD hpre ⟨b2,⟨rfl,x,hx,hv⟩,hb⟩ hK;have HV:Hid (iP (gE o hs)=false):=Lib.hid (Ro (r:=x.1.r) (by unfold gE dF;grind) hv)
   gi_wp2
   exact mv rfl b2 hK ⟨by rw[HV.out],hb.trans (mO (by omega) hK)⟩
  case done=>
   rintro D xs W hD hxs ⟨⟨⟨b1,b2,b4⟩,b3⟩,⟨hsum,hval⟩,hb⟩ hK;have hN7:xs.length<=7:=by have:=congrArg fe hxs;simp at this;omega
   have HC:(xs.map λx=>x.1.r.length).sum=ii (gE o hs):=by
    have e:(xs.map λx=>x.1.r.length)=(xs.map (·.1)).map λx=>x.r.length:=by rw[gS];rfl
    rw[e,hxs];unfold ii dF gE;simp[Function.comp_def]
   have HA:Hid (∀r∈dF (gE o hs),dA r=true):=Lib.hid (by
    intro r hr;have hr2:r∈(o::hs).map RV.r:=by unfold dF gE at hr;simpa using hr
    grind)
   rw[HC]at b3 hsum;clear HC hval hxs b4 B1 B2 B3 B4;have c80':=Lib.hid (λh:80<ii (gE o hs)=>RG h);have HVA:=Lib.hid (λ(h:¬80<ii (gE o hs)) h4=>SF (s:=gE o hs) (by unfold gE;grind) HA.out h h4);generalize ii (gE o hs)=N at b3 hsum c80' HVA;have hNb:N<=7000:=by omega
   clear HA hsum hN7 xs;have c3:=b3.cell 0;have f2:=b2.frozen 0;have c2:=b2.cell 0;have d0:=b1.cell 0;have d1':=b1.cell 1;simp at c2 c3 d0 d1';have hne:D≠w.heap.size+1:=by omega
   have hKs:∀v,(W.setCell ⟨w.heap.size+1,0,none⟩ v).heap[D]? =some (.deferred (some [])):=λv=>(Below.heap_setCell W ⟨w.heap.size+1,0,none⟩ v D (by omega)).trans hK;by_cases c80:80<N
   .have d80:decide ((80:Int)<N)=true:=by grind
    have HV:=Lib.hid (c80'.out c80)
    go_wp2
    exact mv rfl (by simpa using b2.l5 0 (.bool false)) (hKs _) ⟨by rw[HV.out],(hb.setCell (p:=⟨w.heap.size+1,0,none⟩) (by simp) _).trans (mO (by omega) (hKs _))⟩
   .have d80:decide ((80:Int)<N)=false:=by grind
    replace HVA:=Lib.hid (HVA.out c80);clear c80' c80 hNb b3
    go_wp2_with fail
    have hDl:D<W.heap.size:=by grind
    have hKX:∀wx,Below W.heap.size W wx->(wx.setCell ⟨w.heap.size+1,0,none⟩ (.bool false)).heap[D]? =some (.deferred (some [])):=λwx h=>(Below.heap_setCell wx ⟨w.heap.size+1,0,none⟩ _ D (by omega)).trans ((h.block D hDl).trans hK);have hKT:∀wx,Below W.heap.size W wx->(wx.setCell ⟨w.heap.size+1,0,none⟩ (.bool true)).heap[D]? =some (.deferred (some [])):=λwx h=>(Below.heap_setCell wx ⟨w.heap.size+1,0,none⟩ _ D (by omega)).trans ((h.block D hDl).trans hK);have ho:=H.v o (by grind);have hol:(gE o hs).outer=o.r:=rfl;have hhl:(gE o hs).holes=hs.map RV.r:=rfl;have hlen:(gE o hs).holes.length=hs.length:=by rw[hhl,dt]
    have HNO:=Lib.hid (λi (hi:i<hs.length) h=>Rq (s:=gE o hs) (i:=i) (by omega) h);rw[hol,hhl]at HNO;rw[hol,hhl,dt]at HVA;have HM:=Lib.hid (λk (hk:k<hs.length)=>VO hs hk);clear hol hhl hlen hKs f2 c2 c3 d0 d1' hBW;have HC:=Lib.hid (λ(wx:World) (h:Below W.heap.size W wx)=>(show wx.cell? ⟨w.heap.size,0,none⟩=some (.slice o.a o.r.length o.c)/\wx.cell? ⟨w.heap.size,1,none⟩=some (.slice ah hs.length ch)/\wx.cell? ⟨w.heap.size+1,0,none⟩=some (.bool false)/\wx.frozen? ⟨w.heap.size+1,0,none⟩=false from
     ⟨by simpa using(b1.iT h).cell 0,by simpa using(b1.iT h).cell 1,by simpa using(b2.iT h).cell 0,(b2.iT h).frozen 0⟩))
    go_loopw [5,6,8,28] (λ_ _ _ i wr=>∃k:Nat,k<=hs.length/\i= .int .i64 k/\Hid (∀i,i<k->jF o.r (hs.map RV.r) i=true)/\Below W.heap.size W wr) (λ_ _ _ i _=>hs.length-(intOf i).toNat)
    case atStart=>exact⟨0,by omega,rfl,Lib.hid (by grind),Below.refl _ _⟩
    case round=>
     obtain⟨k,hk,rfl,HT,hbr⟩:=hrel;by_cases hlt:k<hs.length
     .obtain⟨bb,off,rfl,hbb,p0⟩:=H.h k hlt;have hbw:=hb.trans (hbr.mono hb.size);replace p0:=(hbw.cell (p:=⟨bb,_,none⟩) hbb).trans p0;have hx:=H.v _ (dR _ (Fl hs hlt));have HMk:=HM.out k hlt;obtain⟨d0,d1',e1,e2⟩:=HC.out _ hbr;have hbbr:bb<wr.heap.size:=Qi hbb hbw.size;obtain⟨⟨xa,xc,xr⟩,hz⟩:∃z,z=hs.getD k default:=⟨_,rfl⟩;rw[<-hz]at p0 hx HMk;dsimp only[RV.enc]at p0 hx HMk;clear hz;have HNK:=Lib.hid (HNO.out k hlt);cases h1:aB8 xr o.r 2 with
      |false=>
       have HV:=Lib.hid (HNK.out (Sm (by grind)))
       go_wp2_with fail
       refine(oW xa xc xr o.a o.c o.r 2 _ (ho.1.below hbw) ho.2 (hx.1.below hbw) hx.2).mono ?_;rintro e w1 ⟨rfl,hb1⟩;have hbX:=hbr.trans (hb1.mono hbr.size);obtain⟨d0,d1',e1,e2⟩:=HC.out _ hbX
       go_wp2
       exact mv rfl (by simpa using(b2.iT hbX).l5 0 (.bool false)) (hKX _ hbX) ⟨by rw[HV.out],((hb.trans (hbX.mono hb.size)).setCell (p:=⟨w.heap.size+1,0,none⟩) (by simp) _).trans (mO (by omega) (hKX _ hbX))⟩
      |true=>
       go_wp2_with fail
       refine(oW xa xc xr o.a o.c o.r 2 _ (ho.1.below hbw) ho.2 (hx.1.below hbw) hx.2).mono ?_;rintro e w1 ⟨rfl,hb1⟩;rw[h1];have hbY:=hbr.trans (hb1.mono hbr.size);have hbv:=hbw.trans (hb1.mono hbw.size);clear d0 d1' e1 e2 hb1 p0 hbr hbw;obtain⟨d0,d1',e1,e2⟩:=HC.out _ hbY;cases h2:fz xr o.r with
       |false=>
        have HV:=Lib.hid (HNK.out (Sl (by simp_all)))
        go_wp2_with fail
        refine(vH xa xc xr o.a o.c o.r _ (hx.1.below hbv) (ho.1.below hbv) hx.2 ho.2).mono ?_;rintro e w2 ⟨rfl,hb2⟩;have hbX:=hbY.trans (hb2.mono hbY.size);obtain⟨d0,d1',e1,e2⟩:=HC.out _ hbX
        go_wp2
        exact mv rfl (by simpa using(b2.iT hbX).l5 0 (.bool false)) (hKX _ hbX) ⟨by rw[HV.out],((hb.trans (hbX.mono hb.size)).setCell (p:=⟨w.heap.size+1,0,none⟩) (by simp) _).trans (mO (by omega) (hKX _ hbX))⟩
       |true=>
        go_wp2_with fail
        refine(vH xa xc xr o.a o.c o.r _ (hx.1.below hbv) (ho.1.below hbv) hx.2 ho.2).mono ?_;rintro e w2 ⟨rfl,hb2⟩;rw[h2];have hbX:=hbY.trans (hb2.mono hbY.size);clear d0 d1' e1 e2 hb2 hbY hbv hbbr;obtain⟨d0,d1',e1,e2⟩:=HC.out _ hbX;have hkc:k<=ch:=by omega
        go_wp2_with fail
        clear d0 d1' e1 e2 HNO;have hbv2:=hb.trans (hbX.mono hb.size)
        go_loopw [8,50] (λ_ i wr=>∃q:Nat,q<=k/\i= .int .i64 q/\Hid (∀i,i<q->ow (hs.map RV.r) k i=true)/\Below W.heap.size W wr) (λ_ i _=>k-(intOf i).toNat)
        case atStart=>exact⟨0,by omega,rfl,Lib.hid (λi hi=>by omega),hbX⟩
        case round=>
         obtain⟨q,hq,rfl,HQ,hbq⟩:=hrel;by_cases hlq:q<k
         .have hqs:q<hs.length:=by omega
          obtain⟨bb',off',he,hbb',p0⟩:=H.h q hqs;simp only[Option.some.injEq,Addr.mk.injEq,and_true]at he;obtain⟨rfl,rfl⟩:=he;have hbw:=hb.trans (hbq.mono hb.size);replace p0:=(hbw.cell (p:=⟨bb,_,none⟩) hbb).trans p0;have hy:=H.v _ (dR _ (Fl hs hqs));have HMq:=HM.out q hqs;have hbbr:bb<wr.heap.size:=Qi hbb hbw.size;obtain⟨⟨ya,yc,yr⟩,hz⟩:∃z,z=hs.getD q default:=⟨_,rfl⟩;rw[<-hz]at p0 hy HMq;dsimp only[RV.enc]at p0 hy HMq;clear hz hbb';have HNQ:=Lib.hid (λh=>HNK.out (Sk hlq h));have HP:Hid (ow (hs.map RV.r) k q=(fz xr yr&&aB8 xr yr 0&&aB8 yr xr 0)):=Lib.hid (by unfold ow;rw[HMk,HMq]);cases h3:fz xr yr with
          |false=>
           have HV:=Lib.hid (HNQ.out (by rw[HP.out,h3];rfl))
           go_wp2_with fail
           refine(vH xa xc xr ya yc yr _ (hx.1.below hbw) (hy.1.below hbw) hx.2 hy.2).mono ?_;rintro e w3 ⟨rfl,hbw3⟩;have hbz:=hbq.trans (hbw3.mono hbq.size);obtain⟨d0,d1',e1,e2⟩:=HC.out _ hbz
           go_wp2
           exact mv rfl (by simpa using(b2.iT hbz).l5 0 (.bool false)) (hKX _ hbz) ⟨by rw[HV.out],((hb.trans (hbz.mono hb.size)).setCell (p:=⟨w.heap.size+1,0,none⟩) (by simp) _).trans (mO (by omega) (hKX _ hbz))⟩
          |true=>
           go_wp2_with fail
           refine(vH xa xc xr ya yc yr _ (hx.1.below hbw) (hy.1.below hbw) hx.2 hy.2).mono ?_;rintro e w3 ⟨rfl,hbw3⟩;have hbz:=hbq.trans (hbw3.mono hbq.size);have hbv3:=hbw.trans (hbw3.mono hbw.size);cases h4:aB8 xr yr 0 with
           |false=>
            have HV:=Lib.hid (HNQ.out (by rw[HP.out,h3,h4];rfl))
            go_wp2_with fail
            refine(oW xa xc xr ya yc yr 0 _ (hy.1.below hbv3) hy.2 (hx.1.below hbv3) hx.2).mono ?_;rintro e w4 ⟨rfl,hbw4⟩;have hbz4:=hbz.trans (hbw4.mono hbz.size);obtain⟨d0,d1',e1,e2⟩:=HC.out _ hbz4
            go_wp2
            exact mv rfl (by simpa using(b2.iT hbz4).l5 0 (.bool false)) (hKX _ hbz4) ⟨by rw[HV.out],((hb.trans (hbz4.mono hb.size)).setCell (p:=⟨w.heap.size+1,0,none⟩) (by simp) _).trans (mO (by omega) (hKX _ hbz4))⟩
           |true=>
            go_wp2_with fail
            refine(oW xa xc xr ya yc yr 0 _ (hy.1.below hbv3) hy.2 (hx.1.below hbv3) hx.2).mono ?_;rintro e w4 ⟨rfl,hbw4⟩;have hbz4:=hbz.trans (hbw4.mono hbz.size);have hbv4:=hbv3.trans (hbw4.mono hbv3.size);cases h5:aB8 yr xr 0 with
            |false=>
             have HV:=Lib.hid (HNQ.out (by rw[HP.out,h3,h4,h5];rfl))
             go_wp2_with fail
             refine(oW ya yc yr xa xc xr 0 _ (hx.1.below hbv4) hx.2 (hy.1.below hbv4) hy.2).mono ?_;rintro e w5 ⟨rfl,hbw5⟩;have hbz5:=hbz4.trans (hbw5.mono hbz4.size);obtain⟨d0,d1',e1,e2⟩:=HC.out _ hbz5
             go_wp2
             exact mv rfl (by simpa using(b2.iT hbz5).l5 0 (.bool false)) (hKX _ hbz5) ⟨by rw[HV.out],((hb.trans (hbz5.mono hb.size)).setCell (p:=⟨w.heap.size+1,0,none⟩) (by simp) _).trans (mO (by omega) (hKX _ hbz5))⟩
            |true=>
             have HQ2:Hid (∀i,i<q+1->ow (hs.map RV.r) k i=true):=Lib.hid (λi hi=>by
              by_cases e:i=q
              .subst e;rw[HP.out,h3,h4,h5];rfl
              .exact HQ.out i (by omega))
             go_wp2_with fail
             refine(oW ya yc yr xa xc xr 0 _ (hx.1.below hbv4) hx.2 (hy.1.below hbv4) hy.2).mono ?_;rintro e w5 ⟨rfl,hbw5⟩;have hbz5:=hbz4.trans (hbw5.mono hbz4.size)
             go_wp2
             go_roundw
             case rel=>exact⟨q+1,by omega,by go_num,HQ2,hbz5⟩
             case measure=>simp[intOf];omega
         .have HT2:Hid (∀i,i<k+1->jF o.r (hs.map RV.r) i=true):=Lib.hid (λi hi=>by
           by_cases e:i=k
           .subst e;exact T6 (by simp_all) (by simp_all) (λj hj=>HQ.out j (by omega))
           .exact HT.out i (by omega))
          go_wp2
          go_roundw
          case rel=>exact⟨k+1,by omega,by go_num,HT2,hbq⟩
          case measure=>simp[intOf];omega
     .have HV:=Lib.hid (HVA.out (λi hi=>HT.out i (by omega)));obtain⟨d0,d1',e1,e2⟩:=HC.out _ hbr
      go_wp2
      exact mv rfl (by simpa using(b2.iT hbr).l5 0 (.bool true)) (hKT _ hbr) ⟨by rw[HV.out],((hb.trans (hbr.mono hb.size)).setCell (p:=⟨w.heap.size+1,0,none⟩) (by simp) _).trans (mO (by omega) (hKT _ hbr))⟩
end
section
variable {C:bH} {w:World}
def cc.rdV(hC:∀b o v,C b o v->w.cell? ⟨b,o,none⟩=some v){r:List V}{b o:Nat}(h:cc C (gz r) b o):RdV w (some ⟨b,o,none⟩) r:=by
 intro i hi;have h1:=wM.at r i hi;have g0:(gz r)[i*2]? =some (.int .i64 r[i].x):=by have:=congrArg (λl=>l[0]?) h1;simpa[pG,uI]using this
 have g1:(gz r)[i*2+1]? =some (.int .i64 r[i].y):=by have:=congrArg (λl=>l[1]?) h1;simpa[pG,uI]using this
 obtain⟨v0,a1,_,a3⟩:=cc.get _ _ _ h _ _ g0;obtain⟨v1,b1,_,b3⟩:=cc.get _ _ _ h _ _ g1;unfold a8 at a3 b3;subst a3 b3;have en:Geo.nth r i=r[i] :=by unfold Geo.nth;rw[b9,c8 hi];rfl
 refine⟨b,o,rfl,ft w ⟨b,_,none⟩ (hC _ _ _ a1),?_,?_⟩
 .grind
 grind
def FE(hC:∀b o v,C b o v->w.cell? ⟨b,o,none⟩=some v){r:List V}{v:Value}(h:a8 C (qQ r) v):∃a c,v= .slice a r.length c/\RdV w a r/\r.length<=c/\(a=none->c=0):=by
 unfold qQ a8 at h;obtain⟨a,c,rfl,h1,h2,h3⟩:=h;refine⟨a,c,rfl,?_,h1,λe=>(h2 e).1⟩;cases a with
 |none=>
  have:r=[] :=by have:=congrArg fe (h2 rfl).2;rw[wM.length]at this;exact iZ.1 (by grind)
  subst this;intro i hi;simp at hi
 |some ad=>
  obtain⟨b,o,sp⟩:=ad;obtain⟨h4,h5⟩:=h3 _ rfl;dsimp only at h4 h5;rcases nZ r.length with hr0|hr0
  .intro i hi;omega
  .have h4:=h4 hr0;subst h4;exact h5.rdV hC
def DW(hC:∀b o v,C b o v->w.cell? ⟨b,o,none⟩=some v):∀(l:List bF) (b o:Nat),cc C (l.map qQ) b o->∃hs:List RV,hs.map RV.r=l/\(∀i,i<hs.length->b<w.heap.size/\w.cell? ⟨b,o+i,none⟩=some (RV.enc (hs.getD i default)))/\∀x∈hs,RdV w x.a x.r/\x.r.length<=x.c/\(x.a=none->x.c=0)
 |[],b,o,_=>⟨[],rfl,(λi h=>by simp at h),λx h=>by cases h⟩
 |r::l,b,o,h=>by
  rw[cO]at h;unfold cc at h;obtain⟨⟨v,h1,_,h2⟩,h3⟩:=h;obtain⟨a,c,rfl,h4,h5⟩:=FE hC h2;obtain⟨hs,g1,g2,g3⟩:=DW hC l b (o+1) h3;refine⟨⟨a,c,r⟩::hs,by simp[g1],?_,?_⟩
  .intro i hi;cases i with
   |zero=>exact⟨ft w ⟨b,_,none⟩ (hC _ _ _ h1),by simpa[RV.enc]using hC _ _ _ h1⟩
   |succ i=>
    grind
  grind
def TY(hC:∀b o v,C b o v->w.cell? ⟨b,o,none⟩=some v){l:List bF}{v:Value}(h:a8 C (Ak l) v):
  ∃ah ch,∃hs:List RV,v= .slice ah hs.length ch/\hs.length<=ch/\hs.map RV.r=l/\RdH w.heap.size w ah hs/\∀x∈hs,RdV w x.a x.r/\x.r.length<=x.c/\(x.a=none->x.c=0):=by
 unfold Ak a8 at h;obtain⟨a,c,rfl,h1,h2,h3⟩:=h;cases a with
 |none=>
  have:l=[] :=by simpa using(h2 rfl).2
  subst this;exact⟨none,c,[],rfl,ce _,rfl,(λi hi=>by simp at hi),λx hx=>by cases hx⟩
 |some ad=>
  obtain⟨b,o,sp⟩:=ad;obtain⟨h4,h5⟩:=h3 _ rfl;dsimp only at h4 h5;rcases nZ l.length with hl0|hl0
  .have:l=[] :=iZ.1 hl0;subst this;exact⟨_,c,[],rfl,ce _,rfl,(λi hi=>by simp at hi),λx hx=>by cases hx⟩
  have h4:=h4 hl0;subst h4;obtain⟨hs,g1,g2,g3⟩:=DW hC l b o h5;have hl:hs.length=l.length:=by rw[<-g1];simp
  exact⟨_,c,hs,by rw[hl],by omega,g1,λi hi=>⟨b,o,rfl,(g2 i hi).1,(g2 i hi).2⟩,g3⟩
def TO(hC:∀b o v,C b o v->w.cell? ⟨b,o,none⟩=some v){s:Shape}{v:Value}(hf:Fit s)(h:a8 C (sr s) v):
  ∃o ah ch hs,v= .agg #[RV.enc o,.slice ah hs.length ch]/\RdSh w o ah hs/\hs.length<=ch/\(∀x∈o::hs,x.r.length<=x.c)/\gE o hs=s:=by
 unfold sr a8 at h;obtain⟨vs,rfl,h1,_⟩:=h;unfold bL at h1;obtain⟨v1,r1,rfl,h2,h3⟩:=h1;unfold bL at h3;obtain⟨v2,r2,rfl,h4,h5⟩:=h3;unfold bL at h5;subst h5;obtain⟨a,c,rfl,g1,g2⟩:=FE hC h2;obtain⟨ah,ch,hs,rfl,k1,k2,k3,k4⟩:=TY hC h4;have hl:hs.length=s.holes.length:=by rw[<-k2];simp
 refine⟨⟨a,c,s.outer⟩,ah,ch,hs,rfl,⟨k3,?_,by rw[hl];have:=hf.2.1;omega⟩,k1,?_,by unfold gE;rw[k2]⟩
 .intro x hx;rcases bh.1 hx with rfl|hx
  .exact⟨g1,hf.1,g2.1,g2.2⟩
  .exact⟨(k4 x hx).1,hf.2.2 _ (by grind),(k4 x hx).2.1,(k4 x hx).2.2⟩
 grind
end
def RJ(s:Shape)(hf:Fit s):Sat aH true 97 [sr s] (.bool (iP s)):=by refine⟨by kernel_rfl,λC w vs hC h=> ?_⟩;unfold bL at h;obtain⟨v,r,rfl,h1,h2⟩:=h;unfold bL at h2;subst h2;obtain⟨o,ah,ch,hs,rfl,H,hch,_,rfl⟩:=TO hC hf h1;refine(RI o ah ch hs w H hch).mono ?_;rintro e w' ⟨rfl,hb⟩;exact⟨_,rfl,by unfold a8;rfl,hb⟩
def On{α:Type}(fr:Bool)(A:Arl α)(pre:α->List Prop)(res:α->SV):Con:=⟨α,A.dec,pre,.val fr res⟩
def Xa{f:FuncId}{fr:Bool}{α:Type}{A:Arl α}{pre:α->List Prop}{res:α->SV}(B:α->List PV)(q:α->PV)(hB:∀x,avs (A.enc x)=(B x).map .p)(hq:∀x,(res x).av= .p (q x))(h:∀x,kS (pre x)->Sat aH fr f (B x) (q x)):(On fr A pre res).Ok aH f:=by intro s x hd hp;exact⟨B x,q x,(A.ok s x hd).trans (hB x),hq x,h x (fN.2 hp)⟩
def Zn(l:List bF):LT.R.enc l=l.map qQ:=by
 unfold LT.enc;induction l with
 |nil=>rfl
 |cons r l ih=>rw[List.flatMap_cons,ih];rfl
def Yb(s:Shape):avs ((a1 aSh).enc s)=[sr s].map .p:=by show [SV.av (.agg [.lst .V s.outer,.lst .R s.holes])] =_;show [dn [.p (.sl s.outer.length (gz s.outer)),.p (.sl s.holes.length (LT.R.enc s.holes))]] =_;rw[Zn];rfl
def c55:Con:=On true (a1 aSh) (λs=>[Fit s]) (λs=> .bool (iP s))
def k55:c55.Ok aH 97:=Xa (λs=>[sr s]) (λs=> .bool (iP s)) Yb (λ_=>rfl) λs h=>RJ s h
noncomputable section
def awL:List S:=[⟨⟨0,0⟩,⟨2,0⟩⟩,⟨⟨2,0⟩,⟨2,2⟩⟩,⟨⟨2,2⟩,⟨0,2⟩⟩,⟨⟨0,2⟩,⟨0,0⟩⟩,⟨⟨0,0⟩,⟨2,2⟩⟩,⟨⟨0,2⟩,⟨2,0⟩⟩]
def awP:Pl:=⟨awL,[⟨0,0,1⟩,⟨2,0,1⟩,⟨1,1,1⟩,⟨0,2,1⟩,⟨2,2,1⟩],
 [⟨0,1,1,0,[0]⟩,⟨0,2,2,1,[4]⟩,⟨0,3,0,2,[3]⟩,⟨1,2,1,3,[5]⟩,⟨1,4,3,0,[1]⟩,⟨2,3,2,4,[5]⟩,⟨2,4,4,3,[4]⟩,⟨3,4,0,4,[2]⟩],
 [[[1,4,14,9]],[[0,6,3]],[[2,10,5]],[[7,8,13]],[[11,12,15]]]⟩
def QP:eV awL=0:=by kernel_rfl
def aBS:aU awL=awP:=by kernel_rfl
def Zv:BdOk awL:=AT (by decide) QP
def Zx:cyP awP (pmF awP 1)=[[0,6,3]] :=by kernel_rfl
def awS:Shape:=⟨[⟨0,0⟩,⟨2,0⟩,⟨1,1⟩],[]⟩
def aBR:iP awS=true:=by kernel_rfl
def Zu:PlOk awP where
 ls:=by decide
 lv:=by decide
 le:=by decide
 fr:=by decide
 src:=by decide
 bd:=by unfold bd;decide
 pt:=λv hv=>by
  have:∀v∈awP.vs,(c9 v&&dW v 2000&&decide (v.den<=33000000))=true:=by decide+kernel
  have:=this v hv;simp only[cB,decide_eq_true_eq]at this;exact⟨⟨this.1.1,this.1.2⟩,this.2⟩
def Zw:LvO awP aC:=by
 have h1:∀v:Fin 5,∀x∈lvR awP aC v 16,∀y∈lvR awP aC v 16,∀z∈lvR awP aC v 16,ltC (cfH awP) x y=true->ltC (cfH awP) y z=true->ltC (cfH awP) x z=true:=by decide+kernel
 have h2:∀v:Fin 5,∀x∈lvR awP aC v 16,∀y∈lvR awP aC v 16,ltC (cfH awP) x y=true->ltC (cfH awP) y x=false:=by decide+kernel
 have h3:∀v:Fin 5,∀x∈lvR awP aC v 16,∀y∈lvR awP aC v 16,ltC (cfH awP) x y=false->ltC (cfH awP) y x=false->x=y:=by decide+kernel
 exact λv hv=>⟨h1 ⟨v,hv⟩,h2 ⟨v,hv⟩,h3 ⟨v,hv⟩⟩
def MN:EC:=EC.at (a1 (aL .S)).dec (λl=>decide (l=awL)) false (.tup [.agg [.lst .S awP.sg,.lst .T awP.vs,.lst .E awP.es,.lst .F awP.fs],.int .i64 0])
def WL:MN.c.Ok aH 13:=wi Od (λx h=>of_decide_eq_true h) (fN.1 ⟨(by decide:awL.length<=1000),λ_=>Zv⟩) (by show SV.av (.tup [.agg [.lst .S (aU awL).sg,.lst .T (aU awL).vs,.lst .E (aU awL).es,.lst .F (aU awL).fs],.int .i64 (eV awL)])=_;rw[aBS,QP])
def MG:EC:=EC.at (ac aPl (a1 CR)).dec (λx=>decide (x.1=awP)&&(decide (x.2.1=awP)&&decide (x.2.2.1=1))) true (.lst .Q [[0,6,3]])
def WE:MG.c.Ok aH 92:=wi (x0:=(awP,(awP,1,()))) OY (λx h=>by
 obtain⟨a,b,c,d⟩:=x;simp only[cB,decide_eq_true_eq]at h;obtain⟨rfl,rfl,rfl⟩:=h;rfl) (fN.1 ⟨Zu,rfl,Zw⟩) (by
 show SV.av (.lst .Q (cyP awP (pmF awP 1)))=_;rw[Zx])
def ME:EC:=EC.at (a1 aSh).dec (λs=>decide (s.outer=awS.outer)&&decide (s.holes=awS.holes)) true (.lit true)
def WD:ME.c.Ok aH 97:=wi (x0:=awS) k55 (λx h=>by
 obtain⟨a,b⟩:=x;simp only[cB,decide_eq_true_eq]at h;obtain⟨rfl,rfl⟩:=h;rfl) (fN.1 (show Fit awS from⟨by decide,by decide,by decide⟩)) (by
 show AV.p (.bool (iP awS))=_;rw[aBR];rfl)
def JF:EC:=EC.at (a1 (aL .V)).dec (λs=>decide (s=awS.outer)) false (.lst .V awS.outer)
def Zy:nA awS.outer=awS.outer:=by kernel_rfl
def Ua:JF.c.Ok aH 163:=wi (x0:=awS.outer) Oe (λx h=>of_decide_eq_true h) (fN.1 (show awS.outer.length<=1000 by decide)) (by show SV.av (.lst .V (nA awS.outer))=_;rw[Zy])
end
end Go.Proofs.YtdnhebjljnfjaaaGreat
