/- What the statement stands on: contracts of functions, plain laws. Part 6 of 7, no condition of its own. (K2 K3 K4 K5 K6 K7 K8 K9 K10 J1 K11 K12 E16 J2 J3 J4 J5 K42 J6 J7 J8 K18 K41 N0 N00 Shelf J9 J10 J12 K13 K14 K26) -/
import Derived.Test.YtdaeofhdgabhjaaGreatCQ5
import Derived.Lib.AppendZerosOnto
import Derived.OrdersIn
import Derived.RangeFuncCalls
import Derived.TacticsIn
import Derived.RangeFuncNested
import Derived.RangeFuncBound
import Derived.RangeFuncLeaves
import Derived.RangeFuncFrom
import Derived.Shelf.Abstract
import Derived.OwnWalkIn
import Derived.TacticsInMore
import Derived.LoopNIn
import Derived.LoopIn
import Derived.Deep.DeepCutAuto
import Derived.Calls
set_option linter.all false
set_option maxRecDepth 100000
set_option maxHeartbeats 8000000
open List renaming range->bV,range_succ->rQ,map_append->dR,sum_append->yt,all_eq_true->bf,getElem_of_mem->jm,mem_range->cF,getElem_map->jR,take_add_one->rW,getElem?_eq_getElem->fA,foldl_append->C3,ext_getElem->tW,mem_cons->aj,all_eq_false->y9,any_eq_true->lj,any_eq_false->Iy,length->fh,length_map->db,mem_map->bR,length_eq_zero_iff->mc,take->bD,take_succ_eq_append_getElem->kw,take_of_length_le->ip,any->fo,mem_cons_self->bo,mem_cons_of_mem->bk,flatten->ft,flatten_append->wJ,flatten_singleton->So,take_append_drop->tX,length_append->gi,drop->iA,getElem_mem->mg,all->tj,flatMap_cons->fG,length_cons->gu,length_nil->mV,getElem?_append_right->kW,getElem?_eq_some_iff->rV,getElem?_map->gS,map_flatMap->Iz,size_toArray->rU,push_toArray->wP,append_toArray->wQ,nil_append->rX,cons_append->jn,getD_eq_getElem?_getD->dw,map->dX,mem_append->bi,map_map->di,flatMap_map->Ia,foldl_cons->CY,map_cons->cv,getElem?_take->o5,getElem?_drop->vo,mem_of_getElem?->Io,pairwise_map->i8
open Nat renaming mod_lt->bw,gcd->cD,gcd_comm->Ix,le_refl->bX,add_assoc->rP,le_trans->cO,mul_le_mul->wC,beq->bF,le_antisymm->ti,eq_zero_or_pos->qN,zero_add->jo,zero_le->jS,lt_of_lt_of_le->wA,reduceAdd->wL,reduceSub->wM,le_of_eq->C6
open And renaming intro->cM
open Int renaming natAbs->dY,tmod->c5,natAbs_tmod->Iw,tdiv->fU
open Decidable renaming of_not_not->th,not_not->Sa
open Bool renaming and_eq_true->bn,or_eq_true->jl,eq_iff_iff->fg,true_and->kC,eq_false_iff->o7
open Go.IntKind renaming i64->iq
open Go.Proofs.Tryz renaming prog->ak,underlying3->pF,func179->C4,underlying24->C5
open Option renaming map_eq_some_iff->ll,map_some->eE,getD_some->ku,some.injEq->fm
open Go.Region renaming wanted->iS,binds->gv
open Go.Oper renaming semAt_some->zC
open Array renaming replicate->nW,getD_eq_getD_getElem?->gG,getElem?_eq_some_iff->wK,replicate_succ->wN,replicate_zero->wO
open Go.Act renaming put->mZ
open Go.Value renaming int->cY,ownBlock->Co
open Go.World renaming cell?_of_block->jA,ownsRow_nil->Im,block_lt_of_cell?->jp
open Go.Sem renaming run->fz
open Go.Result renaming ok->zD
open Go.Sort renaming grow->C7
open Function renaming comp->Cb
open Go.RowKit
open Go.Proofs.YtdaeofhdgabhjaaGreat.Geo
open Go.Proofs.YtdaeofhdgabhjaaGreat.Geo renaming nth->aEv,sub->aEy,fE->aEB,bK->aEC,V->aEw,rowP->aED
namespace Go.Proofs.YtdaeofhdgabhjaaGreat
def eg(r:aE)(k:Nat):List S:=(bV k).map (bO r)
def Zw(r:aE)(k:Nat):eg r k++[(⟨aEv r k,aEv r ((k+1) % r.length)⟩:S)] =eg r (k+1):=by unfold eg;rw[rQ,dR];rfl
def aAY(r:aE)(k:Nat):(eg r k).length=k:=by unfold eg;simp
def ar(r:aE)(k:Nat):Int:=((bV k).map λi=>cross (aEv r i) (nxt r i)).sum
def BC(r:aE)(k:Nat):ar r (k+1)=ar r k+cross (aEv r k) (aEv r ((k+1) % r.length)):=by unfold ar;rw[rQ,dR,yt];simp[nxt]
def mx{r:aE}(h:near r=true){i:Nat}(hi:i<r.length){M:Int}(hM:2000<=M:=by decide):bd M (aEv r i):=qE (uU h i hi) hM
def ZY{r:aE}{i:Nat}(hi:i<r.length)(h:(!ao (aEv r i) 2000)=true):near r=false:=by
 cases hn:near r with
 |false=>rfl
 |true=>have:=uU hn i hi;grind
def X6{r:aE}(h:aM (λi=>ao (aEv r i) 2000=true) r.length):near r=true:=by unfold near;rw[bf];intro v hv;obtain⟨j,hj,rfl⟩:=jm hv;rw[<-nth_eq hj];exact h j hj
def vN{r:aE}(h:near r=true):∀k:Nat,k<=r.length-> -8000000*(k:Int)<=ar r k/\ar r k<=8000000*k
 |0,_=>by simp[ar]
 |k+1,hk=>by
  have ih:=vN h k (by omega);have:=ms (mx h (i:=k) (by omega) (M:=2000)) (mx h (i:=(k+1) % r.length) (bw _ (by omega)) (M:=2000));rw[BC];unfold cross;omega
noncomputable def aEt:Con:=con (a1 (aL .V)) (λr=>[r.length<=100000]) (λr=> .lst .S (aH r))
def aC5:aEt.Okz 102:=bJ t32 (λr=>[lp 5 4 r.length bh [900] (λk=>[(3,.own 900 .S (eg r k).length)]) (λk=>[(900,.row 46 .S (eg r k))])]
  ) (λ_=>⟨_,rfl⟩) λr hp=>az (aC (r.length:Int) λG=>aC ([] :List S) λI=>(G<2->aH r=I)/\
 (¬G<2->(0=(0:Int)/\(eg r 0).length=0/\eg r 0=I/\(0:Nat)<=r.length)/\
  (∀x:Nat,aC (x+1) λA=>aC (eg r x) λB=>aC (x:Int) λC=>aC (⟨(aEv r x),(aEv r (A % r.length))⟩:S) λH=>x<=r.length->(C<r.length->ix C r.length/\aJ (C+1)/\G≠0/\ix ((A % r.length:Nat):Int) r.length/\B.length=B.length/\B.length+[H].length<=1000000/\aJ (C+1)/\C+1=((x+1:Nat):Int)/\(eg r x++[H]).length=(eg r A).length/\eg r x++[H] =eg r A/\x+1<=r.length/\r.length-A<r.length-x)/\
   (¬C<r.length->B.length=B.length/\eg r x=aH r)))) (by kernel_rfl) (by
  change r.length<=100000 at hp;have e0:eg r 0=[] :=rfl;have es:=Zw r;have el:=aAY r;have ee:aH r=if r.length<2 then []else eg r r.length:=rfl
  repeat' first|with_reducible apply cM|with_reducible intro
  all_goals repeat with_reducible cases‹_/\_›
  all_goals first|assumption|rfl|exact trivial|exact nb ‹_› |exact nb' ‹_› |omega|exact i5 (by omega)|(unfold ix;omega)|(unfold aJ;omega)|exact ir _|exact cT ‹_› ‹_› |(refine cT ‹_› ?_;simp_all;done)|grind)
noncomputable def Rs:=t32.adk aC5
noncomputable def aDR:Con:=con (a1 (aL .V)) (λr=>[r.length<=100000]) (λr=> .bool (near r))
def R7:aDR.Okz 160:=bJ Rs (λr=>[cnt 2 3 r.length (aM λi=>ao (aEv r i) 2000=true)]
  ) (λ_=>⟨_,rfl⟩) λr hp=>az ((0=(0:Int)/\(0:Nat)<=r.length/\aM (λi=>ao (aEv r i) 2000=true) 0)/\
 (∀x:Nat,aC (x:Int) λA=>aC (!ao (aEv r x) 2000) λB=>x<=r.length/\aM (λi=>ao (aEv r i) 2000=true) x->(A<r.length->ix A r.length/\(0:Int)<=2000/\(2000:Int)<=1000000000000/\(B=true->false=near r)/\
   (B=false->aJ (A+1)/\A+1=((x+1:Nat):Int)/\x+1<=r.length/\aM (λi=>ao (aEv r i) 2000=true) (x+1)/\r.length-(x+1)<r.length-x))/\
  (¬A<r.length->true=near r))) (by kernel_rfl) (by
  change r.length<=100000 at hp;have e1:= @ZY r;have e2:= @X6 r
  repeat' first|with_reducible apply cM|with_reducible intro
  all_goals repeat with_reducible cases‹_/\_›
  all_goals first|assumption|rfl|exact trivial|exact nb ‹_› |exact nb' ‹_› |omega|exact i5 (by omega)|(unfold ix;omega)|(unfold aJ;omega)|exact ir _|exact cT ‹_› ‹_› |(refine cT ‹_› ?_;simp_all;done)|exact(e2 (by rw[show r.length=_ from(by omega)];assumption)).symm|grind)
noncomputable def RB:=Rs.adk R7
noncomputable def aEk:Con:=con (a1 (aL .V)) (λr=>[near r=true,r.length<=100000]) (λr=> .iqz (area r))
def aCX:aEk.Okz 113:=bJ RB (λr=>[lp 3 4 r.length bh [] (λk=>[(3,.iqz (ar r k))]) bh]
  ) (λ_=>⟨_,rfl⟩) λr hp=>az ((0=(0:Int)/\0=ar r 0/\(0:Nat)<=r.length)/\
 (∀x:Nat,aC (x+1) λA=>aC (x:Int) λB=>aC (aEv r x) λC=>aC (aEv r (A % r.length)) λE=>x<=r.length->(B<r.length->ix B r.length/\aJ (B+1)/\(r.length:Int)≠0/\ix ((A % r.length:Nat):Int) r.length/\bd 2000000000 C/\bd 2000000000 E/\aJ (ar r x+cross C E)/\aJ (B+1)/\B+1=((x+1:Nat):Int)/\ar r x+cross C E=ar r A/\x+1<=r.length/\r.length-A<r.length-x)/\
  (¬B<r.length->ar r x=area r))) (by kernel_rfl) (by
  change near r=true/\r.length<=100000 at hp;have e0:ar r r.length=area r:=rfl;have es:=BC r;have eb:∀x,x<r.length->aJ (ar r x+cross (aEv r x) (aEv r ((x+1) % r.length))):=λx h=>by rw[<-es];exact bW (by have:=vN hp.1 (x+1) (by omega);omega)
  have en:=λi hi=> @mx r hp.1 i hi 2000000000
  repeat' first|with_reducible apply cM|with_reducible intro
  all_goals repeat with_reducible cases‹_/\_›
  all_goals first|assumption|rfl|exact trivial|exact nb ‹_› |exact nb' ‹_› |omega|exact i5 (by omega)|(unfold ix;omega)|(unfold aJ;omega)|exact ir _|exact cT ‹_› ‹_› |(refine cT ‹_› ?_;simp_all;done)|exact eb _ (by omega)|exact en _ (by omega) (by decide)|exact en _ (bw _ (by omega)) (by decide)|(rw[es])|grind)
noncomputable def Rk:=RB.adk aCX
noncomputable def aDr:Con:=con (a1 aI) (λn=>[-9000000000000000000<=n,n<=9000000000000000000]) (λn=> .iqz (n.natAbs:Int)
 )
def aB4:aDr.Okz 201:=bJ Rk bh (λ_=>⟨_,rfl⟩) λn hp=>az ((0<=n->n=dY n)/\
 (¬0<=n->aJ (0-n)/\0-n=dY n)) (by kernel_rfl) (by
  change-9000000000000000000<=n/\n<=9000000000000000000 at hp
  repeat' first|with_reducible apply cM|with_reducible intro
  all_goals repeat with_reducible cases‹_/\_›
  all_goals first|assumption|rfl|exact trivial|exact nb ‹_› |exact nb' ‹_› |omega|exact i5 (by omega)|(unfold ix;omega)|(unfold aJ;omega)|exact ir _|exact cT ‹_› ‹_› |(refine cT ‹_› ?_;simp_all;done)|grind)
noncomputable def Qk:=Rk.adk aB4
noncomputable def aDs:Con:=con (ac aI (a1 aI)) (λ(a,b)=>[0<=a,0<=b]) (λ(a,b)=> .iqz ((cD a.natAbs b.natAbs:Nat):Int))
def aB5:aDs.Okz 200:=bJ Qk (λ(a,b)=>[(1,.mk (Int×Int) (λF _=>SF F 0 1) [] (λp=>[0<=p.1,0<=p.2,cD p.1.natAbs p.2.natAbs=cD a.natAbs b.natAbs]) (λp=>[(0,.iqz p.1),(1,.iqz p.2)]) bh (λp=>p.2.natAbs) bh)]
  ) (λ(_,_)=>⟨_,rfl⟩) λ(a,b) hp=>az (aC (dY a) λA=>aC (dY b) λB=>(a=a/\b=b/\0<=a/\0<=b/\cD A B=cD A B)/\
 (∀x:Prod Int Int,aC (c5 x.1 x.2) λC=>0<=x.1/\0<=x.2/\cD (dY x.1) (dY x.2)=cD A B->(¬x.2=0->x.2≠0/\x.2=x.2/\c5 x.1 x.2=c5 x.1 x.2/\0<=x.2/\0<=c5 x.1 x.2/\cD (dY x.snd) (dY C)=cD A B/\dY C<dY x.2)/\
  (¬(¬x.2=0)->x.1=cD A B))) (by kernel_rfl) (by
  change 0<=a/\0<=b at hp;have e1:∀x y:Int,0<=x->0<=y->cD y.natAbs (c5 x y).natAbs=cD x.natAbs y.natAbs:=λx y _ _=>by rw[Iw,Ix,<-Nat.gcd_rec,Ix]
  have e2:∀x y:Int,0<=x->¬y=0->(c5 x y).natAbs<y.natAbs:=λx y _ h=>by rw[Iw];exact bw _ (by omega)
  have e3:∀x y:Int,0<=x->0<=c5 x y:=λx y h=>Int.tmod_nonneg _ h
  repeat' first|with_reducible apply cM|with_reducible intro
  all_goals repeat with_reducible cases‹_/\_›
  all_goals first|assumption|rfl|exact trivial|exact nb ‹_› |exact nb' ‹_› |omega|exact i5 (by omega)|(unfold ix;omega)|(unfold aJ;omega)|exact ir _|exact cT ‹_› ‹_› |(refine cT ‹_› ?_;simp_all;done)|exact e3 _ _ ‹_› |exact e2 _ _ (by assumption) ‹_› |(rw[e1 _ _ (by assumption) (by assumption)];assumption)|(have h0:=th ‹¬¬_›;simp_all;omega)|grind)
noncomputable def Ql:=Qk.adk aB5
def PtB(p:Pt):Prop:=(1<=p.den/\p.den<=134217728)/\(-600000000000<=p.x/\p.x<=600000000000)/\(-600000000000<=p.y/\p.y<=600000000000)
def PtB.of{p:Pt}(h:c6 p=true):PtB p:=by unfold c6 iX ao at h;simp only[bn,decide_eq_true_eq]at h;unfold PtB;omega
def PtB.off{p:Pt}(hp:PtB p){v:V}(hv:bd 10000 v):(-1400000000000<=v.x*p.den/\v.x*p.den<=1400000000000)/\(-1400000000000<=v.y*p.den/\v.y*p.den<=1400000000000):=by have h1:=gm (x:=v.x) (y:=p.den) (A:=10000) (B:=134217728) (by unfold bd at hv;omega) (by unfold PtB at hp;omega);have h2:=gm (x:=v.y) (y:=p.den) (A:=10000) (B:=134217728) (by unfold bd at hv;omega) (by unfold PtB at hp;omega);omega
noncomputable def aDQ:Con:=con (a1 aT) (λ_=>[]) (λp=> .bool (c6 p))
def aCu:aDQ.Okz 162:=bJ Ql (λp=>[jb 2 42 (!iX p 4000)]
  ) (λ_=>⟨_,rfl⟩) λp _=>az (aC (-4000*p.den) λA=>aC (!iX p 4000) λB=>aC (dY p.x:Int) λC=>aC (dY p.y:Int) λD=>aC (cD (dY C) (dY D):Int) λE=>((p.den<1->true=B)/\
  (¬p.den<1->(134217728<p.den->true=B)/\
   (¬134217728<p.den->aJ A/\(p.x< -4000*p.den->true=B)/\
    (¬p.x< -4000*p.den->aJ (4000*p.den)/\(4000*p.den<p.x->true=B)/\
     (¬4000*p.den<p.x->aJ A/\(p.y< -4000*p.den->true=B)/\
      (¬p.y< -4000*p.den->aJ (4000*p.den)/\decide (4000*p.den<p.y)=B))))))/\
 (∀y:Unit,(B=true->false=c6 p)/\
  (B=false-> -9000000000000000000<=p.x/\p.x<=9000000000000000000/\ -9000000000000000000<=p.y/\p.y<=9000000000000000000/\0<=C/\0<=D/\0<=E/\0<=p.den/\decide ((cD (dY E) (dY p.den):Int)=1)=c6 p))) (by kernel_rfl) (by
  unfold c6 iX ao;simp only[Int.natAbs_natCast]
  repeat' first|with_reducible apply cM|with_reducible intro
  all_goals repeat with_reducible cases‹_/\_›
  all_goals first|assumption|rfl|exact trivial|exact nb ‹_› |exact nb' ‹_› |omega|exact i5 (by omega)|(unfold ix;omega)|(unfold aJ;omega)|exact ir _|exact cT ‹_› ‹_› |(refine cT ‹_› ?_;simp_all;done)|grind)
noncomputable def RA:=Ql.adk aCu
noncomputable def aDM:Con:=con (ac aV (ac aV (a1 aT))) (λ(a,b,p)=>[bd 10000 a,bd 10000 b,PtB p]) (λ(a,b,p)=> .iqz (sgn (fK ⟨a,b⟩ p))
 )
def aCq:aDM.Okz 166:=bJ RA (λ(_,_,_)=>[]) (λ(_,_,_)=>⟨_,rfl⟩) λ(a,b,p) hp=>az (aC (aEy b a) λA=>aC (p.y-a.y*p.den) λB=>aC (p.x-a.x*p.den) λC=>aC (A.x*B-A.y*C) λD=>bd 1000000000 b/\bd 1000000000 a/\aJ (a.y*p.den)/\aJ B/\aJ (A.x*B)/\aJ (a.x*p.den)/\aJ C/\aJ (A.y*C)/\aJ D/\sgn D=sgn (fK (⟨a,b⟩:S) p)) (by kernel_rfl) (by change bd 10000 a/\bd 10000 b/\PtB p at hp;have h1:=hp.2.2.off hp.1;have h2:=iZ hp.2.1 hp.1;have h3:=hp.2.2;unfold PtB at h3;have m1:=gm (A:=20000) (B:=2000000000000) h2.1 (y:=p.y-a.y*p.den) (by omega);have m2:=gm (A:=20000) (B:=2000000000000) h2.2 (y:=p.x-a.x*p.den) (by omega);exact⟨hp.2.1.mono,hp.1.mono,bW (by omega),bW (by omega),bW (by omega),bW (by omega),bW (by omega),bW (by omega),bW (by omega),rfl⟩)
noncomputable def Q6:=RA.adk aCq
def inR(s:S)(p:Pt):Bool:=decide (min s.a.x s.b.x*p.den<=p.x)&&decide (p.x<=max s.a.x s.b.x*p.den)&&decide (min s.a.y s.b.y*p.den<=p.y)&&decide (p.y<=max s.a.y s.b.y*p.den)
noncomputable def aDN:Con:=con (ac aS (a1 aT)) (λ(s,p)=>[bd 10000 s.a,bd 10000 s.b,PtB p]) (λ(s,p)=> .bool (onR s p))
def aCr:aDN.Okz 165:=bJ Q6 (λ(s,p)=>[jb 2 5 (inR s p)]
  ) (λ(_,_)=>⟨_,rfl⟩) λ(s,p) hp=>az ((aJ (Min.min s.a.x s.b.x*p.den)/\(Min.min s.a.x s.b.x*p.den<=p.x->aJ (Max.max s.a.x s.b.x*p.den)/\(p.x<=Max.max s.a.x s.b.x*p.den->aJ (Min.min s.a.y s.b.y*p.den)/\(Min.min s.a.y s.b.y*p.den<=p.y->aJ (Max.max s.a.y s.b.y*p.den)/\decide (p.y<=Max.max s.a.y s.b.y*p.den)=inR s p)/\
    (¬Min.min s.a.y s.b.y*p.den<=p.y->false=inR s p))/\
   (¬p.x<=Max.max s.a.x s.b.x*p.den->false=inR s p))/\
  (¬Min.min s.a.x s.b.x*p.den<=p.x->false=inR s p))/\
 (∀y:Unit,(inR s p=true->bd 10000 s.a/\bd 10000 s.b/\PtB p/\decide (sgn (fK s p)=0)=onR s p)/\
  (inR s p=false->false=onR s p))) (by kernel_rfl) (by
  change bd 10000 s.a/\bd 10000 s.b/\PtB p at hp;have h1:=hp.2.2.off (v:=⟨min s.a.x s.b.x,min s.a.y s.b.y⟩) (by unfold bd at*;grind);have h2:=hp.2.2.off (v:=⟨max s.a.x s.b.x,max s.a.y s.b.y⟩) (by unfold bd at*;grind);dsimp only at h1 h2;have e:onR s p=(inR s p&&sgn (fK s p)==0):=rfl;unfold inR at*
  repeat' first|with_reducible apply cM|with_reducible intro
  all_goals repeat with_reducible cases‹_/\_›
  all_goals first|assumption|rfl|exact trivial|exact nb ‹_› |exact nb' ‹_› |omega|exact i5 (by omega)|(unfold ix;omega)|(unfold aJ;omega)|exact ir _|exact cT ‹_› ‹_› |(refine cT ‹_› ?_;simp_all;done)|grind)
noncomputable def Q7:=Q6.adk aCr
def kl(r:aE)(i k:Nat):Bool:=if k=i+1\/(i=0/\k=r.length-1)then cZ (bO r i) (bO r k)==1 else cZ (bO r i) (bO r k)==0
def Jr(r:aE):dq r=true↔3<=r.length/\r.length<=40/\near r=true/\(∀i,i<r.length->turn (aEv r i) (aEv r ((i+1) % r.length)) (aEv r ((i+2) % r.length))≠0)/\(∀i k,i<k->k<r.length->kl r i k=true)/\0<area r:=by
 unfold dq;simp only[bn,decide_eq_true_eq,bf,cF,bne_iff_ne,jl];constructor
 .rintro⟨⟨⟨⟨⟨h1,h2⟩,h3⟩,h4⟩,h5⟩,h6⟩;refine⟨h1,h2,h3,h4,λi k hik hk=> ?_,h6⟩;rcases h5 i (by omega) k hk with h|h
  .omega
  .exact h
 .rintro⟨h1,h2,h3,h4,h5,h6⟩;refine⟨⟨⟨⟨⟨h1,h2⟩,h3⟩,h4⟩,λi hi k hk=> ?_⟩,h6⟩;by_cases h:k<=i
  .exact .inl h
  .exact .inr (h5 i k (by omega) hk)
def wU(r:aE)(h:2<=r.length):(aH r).length=r.length:=by unfold aH;grind
def w7{r:aE}{i:Nat}(h:2<=r.length)(hi:i<r.length):bB (aH r) i=bO r i:=by rw[jH (by rw[wU r h];exact hi)];simp only[aH,if_neg (show¬r.length<2 by omega),jR,List.getElem_range]
def br(p:Pt)(l:List S):Bool:=l.foldl (λb s=>b !=jg s p) false
def WD{p:Pt}{l:List S}{k:Nat}(h:k<l.length):br p (l.take (k+1))=(br p (l.take k) !=jg (bB l k) p):=by unfold br;rw[rW,fA h,C3,jH h];rfl
def MG{p:Pt}:∀{l:List S} {k:Nat} (ins:Bool),k<l.length->(∀j,j<k->onR (bB l j) p=false)->onR (bB l k) p=true->mF p l ins=1
 |[],k,ins,h,_,_=>by simp at h
 |s::l,0,ins,h,_,h2=>by
  unfold mF;rw[show onR s p=true from h2];rfl
 |s::l,k+1,ins,h,h1,h2=>by
  unfold mF;rw[show onR s p=false from h1 0 (by omega)];exact MG (l:=l) (k:=k) _ (by simpa using h) (λj hj=>h1 (j+1) (by omega)) h2
def Kn{p:Pt}:∀{l:List S} (ins:Bool),(∀j,j<l.length->onR (bB l j) p=false)->mF p l ins=if l.foldl (λb s=>b !=jg s p) ins=true then 2 else 0
 |[],ins,_=>rfl
 |s::l,ins,h1=>by
  unfold mF;rw[show onR s p=false from h1 0 (by simp)];exact Kn (l:=l) _ (λj hj=>h1 (j+1) (by grind))
def pr(r:aE)(p:Pt)(k:Nat):Bool:=br p ((aH r).take k)
def Om{r:aE}(h:dq r=true){j:Nat}(hj:j<(aH r).length):bd 2000 (bB (aH r) j).a/\bd 2000 (bB (aH r) j).b:=by obtain⟨h1,h2,h3,_⟩:=(Jr r).1 h;rw[wU r (by omega)]at hj;rw[w7 (by omega) hj];exact⟨mx h3 hj,mx h3 (bw _ (by omega))⟩
def nxR(r:aE)(i k:Nat):Bool:=decide (k=i+1\/(i=0/\k=r.length-1))
abbrev nE(r:aE)(i:Nat):S:=bB (aH r) i
def upR(e:S)(p:Pt):Bool:=decide (e.a.y*p.den<=p.y)&&decide (p.y<e.b.y*p.den)
def dnR(e:S)(p:Pt):Bool:=decide (e.b.y*p.den<=p.y)&&decide (p.y<e.a.y*p.den)
def tp(r:aE)(i:Nat):Prop:=turn (aEv r i) (aEv r ((i+1) % r.length)) (aEv r ((i+2) % r.length))≠0
noncomputable def c91:Con:=con (a1 (aL .V)) (λr=>[r.length<=100000]) (λr=> .bool (dq r))
def k91:c91.Okz 91:=bJ Q7 (λr=>[jP 4 [3<=r.length,r.length<=40,near r=true],cnt 5 4 r.length (aM (tp r)),cnt 11 6 r.length (aM λi=>∀k,i<k->k<r.length->kl r i k=true) λi=>[(14,.mk Nat (λF _=>nH F 7) [] (λk=>[i<k,k<=r.length,∀j,i<j->j<k->kl r i j=true]) (λk=>[(7,.iqz (k:Int))]) bh (λk=>r.length-k) λk=>[jb 17 8 (nxR r i k),jb 19 97 (!kl r i k)])]]
  ) (λ_=>⟨_,rfl⟩) λr hp=>az (aC (aH r) λF=>aC (r.length:Int) λO=>((O<3->false=dq r)/\
  (¬O<3->(40<O->false=dq r)/\
   (¬40<O->r.length<=100000/\((!near r)=true->false=dq r)/\
    ((!near r)=false->(3:Nat)<=r.length/\r.length<=40/\near r=true))))/\
 (∀y:Unit,(3:Nat)<=r.length/\r.length<=40/\near r=true->(0=(0:Int)/\(0:Nat)<=r.length/\aM (tp r) 0)/\
  (∀x:Nat,aC (x+1) λA=>aC (x:Int) λC=>aC (aEv r x) λI=>aC (aEv r (A % r.length)) λK=>aC (aEv r ((x+2) % r.length)) λM=>x<=r.length/\aM (tp r) x->(C<r.length->ix C r.length/\aJ (C+1)/\O≠0/\ix ((A % r.length:Nat):Int) r.length/\aJ (C+2)/\O≠0/\ix (((x+2) % r.length:Nat):Int) r.length/\bd 1000000000 I/\bd 1000000000 K/\bd 1000000000 M/\(turn I K M=0->false=dq r)/\
    (¬turn I K M=0->aJ (C+1)/\C+1=((x+1:Nat):Int)/\x+1<=r.length/\aM (tp r) A/\r.length-A<r.length-x))/\
   (¬C<r.length->r.length<=100000/\(0=(0:Int)/\(0:Nat)<=r.length/\aM (λi=>∀k:Nat,i<k->k<r.length->kl r i k=true) 0)/\
    (∀x_1:Nat,aC (x_1:Int) λD=>aC (bB F x_1) λG=>aC (x_1+1:Nat) λN=>x_1<=r.length/\aM (λi=>∀k:Nat,i<k->k<r.length->kl r i k=true) x_1->(D<r.length->aJ (D+1)/\(D+1=(N:Int)/\x_1<x_1+1/\x_1+1<=r.length/\(∀j:Nat,x_1<j->j<x_1+1->kl r x_1 j=true))/\
      (∀x_2:Nat,aC (x_2:Int) λE=>aC (bB F x_2) λH=>aC (!nxR r x_1 x_2) λP=>aC (!kl r x_1 x_2) λQ=>x_1<x_2/\x_2<=r.length/\(∀j:Nat,x_1<j->j<x_2->kl r x_1 j=true)->(E<r.length->(aJ (D+1)/\(E=x_1+1->true=nxR r x_1 x_2)/\
         (¬E=x_1+1->(D=0->aJ (O-1)/\decide (E=r.length-1)=nxR r x_1 x_2)/\
          (¬D=0->false=nxR r x_1 x_2)))/\
        (∀y_1:Unit,ix D F.length/\ix E F.length/\((nxR r x_1 x_2=true->(¬cZ G H=1->true=Q)/\
           (¬(¬cZ G H=1)->(P=true->decide (¬cZ G H=0)=Q)/\
            (P=false->false=Q)))/\
          (nxR r x_1 x_2=false->(P=true->decide (¬cZ G H=0)=Q)/\
           (P=false->false=Q)))/\
         (∀y_2:Unit,(Q=true->false=dq r)/\
          (Q=false->aJ (E+1)/\E+1=((x_2+1:Nat):Int)/\x_1<x_2+1/\x_2+1<=r.length/\(∀j:Nat,x_1<j->j<x_2+1->kl r x_1 j=true)/\r.length-(x_2+1)<r.length-x_2))))/\
       (¬E<r.length->aJ (D+1)/\D+1=(N:Int)/\x_1+1<=r.length/\aM (λi=>∀k:Nat,i<k->k<r.length->kl r i k=true) (x_1+1)/\r.length-(x_1+1)<r.length-x_1)))/\
     (¬D<r.length->near r=true/\r.length<=100000/\decide (0<area r)=dq r)))))) (by kernel_rfl) (by
  change r.length<=100000 at hp;have iff:=Jr r;have hf:(dq r=true->False)->false=dq r:=λh=>by grind
  have el:3<=r.length->(aH r).length=r.length:=λh=>wU r (by omega);have en:near r=true->∀i,i<r.length->bd 1000000000 (aEv r i):=λh i hi=>mx h hi;have hp':3<=r.length->∀i k,i<k->k<r.length->kl r i k=if nxR r i k=true then cZ (bB (aH r) i) (bB (aH r) k)==1 else cZ (bB (aH r) i) (bB (aH r) k)==0:=λh i k h1 h2=>by unfold kl nxR;rw[w7 (by omega) (by omega),w7 (by omega) (by omega)];grind
  have hE:3<=r.length->r.length<=40->near r=true->∀x y:Nat,¬(x:Int)<r.length->¬(y:Int)<r.length->aM (tp r) x->aM (λi=>∀k:Nat,i<k->k<r.length->kl r i k=true) y->decide (0<area r)=dq r:=λh1 h2 h3 x y hx hy h4 h5=>by rw[fg,iff,decide_eq_true_eq];exact⟨λh=>⟨h1,h2,h3,λi hi=>h4 i (by omega),λi k hi hk=>h5 i (by omega) k hi hk,h⟩,λh=>h.2.2.2.2.2⟩
  repeat' first|with_reducible apply cM|with_reducible intro
  all_goals repeat with_reducible cases‹_/\_›
  all_goals first|assumption|rfl|exact trivial|exact nb ‹_› |exact nb' ‹_› |omega|exact i5 (by omega)|(unfold ix;omega)|(unfold aJ;omega)|exact ir _|exact cT ‹_› ‹_› |(refine cT ‹_› ?_;simp_all;done)|exact en ‹_› _ (by omega)|exact en ‹_› _ (bw _ (by omega))|(rw[el ‹_›];exact eW (by omega))|exact hE ‹_› ‹_› ‹_› _ _ ‹_› ‹_› ‹_› ‹_› |(refine hf λh=> ?_;have h:=iff.1 h;first|omega|(exact h.2.2.2.1 _ (by omega) ‹_=0›)|(have h2:=h.2.2.2.2.1 _ _ ‹_› (by omega);simp_all;done)|(simp_all;done))|(refine cT ‹_› ?_;grind)|(unfold nxR;exact(decide_eq_true (by omega)).symm)|(unfold nxR;exact(decide_eq_false (by omega)).symm)|(unfold nxR;exact decide_eq_decide.2 (by omega))|(rw[hp' ‹_› _ _ ‹_› (by omega),‹nxR _ _ _=_›];grind)|(intro j h1 h2;omega)|grind)
noncomputable def t91:=Q7.adk k91
noncomputable def aEs:Con:=con (ac (aL .V) (a1 aT)) (λ(r,_)=>[r.length<=100000]) (λ(r,p)=> .iqz (dd r p))
def aC4:aEs.Okz 103:=bJ t91 (λ(r,p)=>[jP 3 [dq r=true,c6 p=true],lp 6 7 (aH r).length (λk=>[aM (λj=>onR (nE r j) p=false) k]) [] (λk=>[(6,.bool (pr r p k))]) bh λk=>[(10012,.mk Unit (λ_ _=>some ()) [] bh (λ_=>[(10,.bool (upR (nE r k) p)),(11,.bool (dnR (nE r k) p))]) bh (λ_=>0) λ_=>[]),jb 13 97 (jg (nE r k) p)]]
  ) (λ(_,_)=>⟨_,rfl⟩) λ(r,p) hp=>az (aC (aH r) λD=>aC (!dq r) λH=>aC (!c6 p) λI=>(r.length<=100000/\(H=true->0=dd r p)/\
  (H=false->(I=true->0=dd r p)/\
   (I=false->dq r=true/\c6 p=true)))/\
 (∀y:Unit,dq r=true/\c6 p=true->r.length<=100000/\(0=(0:Int)/\false=pr r p 0/\(0:Nat)<=D.length/\aM (λj=>onR (nE r j) p=false) 0)/\
  (∀x:Nat,aC (x+1) λA=>aC (nE r x) λB=>aC (x:Int) λC=>aC (fK B p) λE=>aC (B.a.y*p.den) λF=>aC (B.b.y*p.den) λG=>aC ((x+1:Nat):Int) λJ=>x<=D.length/\aM (λj=>onR (nE r j) p=false) x->(C<D.length->ix C D.length/\bd 10000 B.a/\bd 10000 B.b/\PtB p/\(onR B p=true->1=dd r p)/\
    (onR B p=false->ix C D.length/\ix C D.length/\(aJ F/\(B.a.y*p.den<=p.y->aJ G/\aJ G/\(B.b.y*p.den<=p.y->aJ F/\decide (p.y<B.b.y*p.den)=upR B p/\decide (p.y<B.a.y*p.den)=dnR B p)/\
       (¬B.b.y*p.den<=p.y->decide (p.y<B.b.y*p.den)=upR B p/\false=dnR B p))/\
      (¬B.a.y*p.den<=p.y->aJ G/\(B.b.y*p.den<=p.y->aJ F/\false=upR B p/\decide (p.y<B.a.y*p.den)=dnR B p)/\
       (¬B.b.y*p.den<=p.y->false=upR B p/\false=dnR B p)))/\
     (∀y_1:Unit,((upR B p=true->bd 10000 B.a/\bd 10000 B.b/\PtB p/\(0<sgn E->true=jg B p)/\
        (¬0<sgn E->(dnR B p=true->bd 10000 B.a/\bd 10000 B.b/\PtB p/\decide (sgn E<0)=jg B p)/\
         (dnR B p=false->false=jg B p)))/\
       (upR B p=false->(dnR B p=true->bd 10000 B.a/\bd 10000 B.b/\PtB p/\decide (sgn E<0)=jg B p)/\
        (dnR B p=false->false=jg B p)))/\
      (∀y_2:Unit,(jg B p=true->aJ (C+1)/\C+1=J/\(!pr r p x)=pr r p A/\x+1<=D.length/\aM (λj=>onR (nE r j) p=false) A/\D.length-A<D.length-x)/\
       (jg B p=false->aJ (C+1)/\C+1=J/\pr r p x=pr r p A/\x+1<=D.length/\aM (λj=>onR (nE r j) p=false) A/\D.length-A<D.length-x)))))/\
   (¬C<D.length->(pr r p x=true->2=dd r p)/\
    (pr r p x=false->0=dd r p))))) (by kernel_rfl) (by
  change r.length<=100000 at hp;have e0:pr r p 0=false:=rfl;have es:∀k,k<(aH r).length->pr r p (k+1)=(pr r p k !=jg (nE r k) p):=λk h=>WD h;have eh:∀e,jg e p=(upR e p&&decide (0<sgn (fK e p))||dnR e p&&decide (sgn (fK e p)<0)):=λe=>rfl;have hw0:dq r=false\/c6 p=false->0=dd r p:=λh=>by unfold dd;grind
  have hw:dq r=true->c6 p=true->dd r p=mF p (aH r) false:=λh1 h2=>by unfold dd;simp[h1,h2]
  have eb:dq r=true->∀j,j<(aH r).length->bd 2000 (nE r j).a/\bd 2000 (nE r j).b:=λh j hj=>Om h hj;have el:(aH r).length<=100000:=by unfold aH;split<;>simp<;>omega
  have ey:dq r=true->c6 p=true->∀j,j<(aH r).length->aJ ((nE r j).a.y*p.den)/\aJ ((nE r j).b.y*p.den):=λh1 h2 j hj=>⟨bW (by have:=(PtB.of h2).off (eb h1 j hj).1.mono;omega),bW (by have:=(PtB.of h2).off (eb h1 j hj).2.mono;omega)⟩;have s1:∀j,j<(aH r).length->aM (λj=>onR (nE r j) p=false) j->onR (nE r j) p=true->mF p (aH r) false=1:=λj h1 h2 h3=>MG false h1 h2 h3;have s2:∀k:Nat,¬(k:Int)<(aH r).length->k<=(aH r).length->aM (λj=>onR (nE r j) p=false) k->mF p (aH r) false=if pr r p k=true then 2 else 0:=λk h1 h2 h=>by
   obtain rfl:k=(aH r).length:=by omega
   rw[Kn false h];unfold pr br;grind
  repeat' first|with_reducible apply cM|with_reducible intro
  all_goals repeat with_reducible cases‹_/\_›
  all_goals first|assumption|rfl|exact trivial|exact nb ‹_› |exact nb' ‹_› |omega|exact i5 (by omega)|(unfold ix;omega)|(unfold aJ;omega)|exact ir _|exact cT ‹_› ‹_› |(refine cT ‹_› ?_;simp_all;done)|exact(eb ‹_› _ (by omega)).1.mono|exact(eb ‹_› _ (by omega)).2.mono|exact(ey ‹_› ‹_› _ (by omega)).1|exact(ey ‹_› ‹_› _ (by omega)).2|exact PtB.of ‹_› |exact hw0 (.inl (nb' ‹_›))|exact hw0 (.inr (nb' ‹_›))|(rw[hw ‹_› ‹_›,s1 _ (by omega) ‹_› ‹_›])|(rw[hw ‹_› ‹_›,s2 _ ‹_› ‹_› ‹_›,‹pr _ _ _=_›];rfl)|(rw[es _ (by omega),‹jg _ _=_›];simp;done)|(rw[eh,‹upR _ _=_›,‹dnR _ _=_›];grind)|(rw[eh,‹upR _ _=_›];simp_all;done)|(unfold upR;simp_all;done)|(unfold dnR;simp_all;done)|grind)
noncomputable def Rr:=t91.adk aC4
noncomputable def c36:Con:=con (ac (aL .V) (a1 aV)) (λ(r,_)=>[r.length<=100000]) (λ(r,v)=> .iqz (kf r v)
 )
def k36:c36.Okz 36:=bJ Rr (λ(_,_)=>[]) (λ(_,_)=>⟨_,rfl⟩) λ(r,v) hp=>az (aC (!ao v 8000) λA=>(0:Int)<=8000/\(8000:Int)<=1000000000000/\(A=true->0=kf r v)/\
 (A=false->r.length<=100000/\dd r (fD v)=kf r v)) (by kernel_rfl) (by change r.length<=100000 at hp;unfold kf;grind)
noncomputable def t36:=Rr.adk k36
def uB(r:aE):∀k,eO r k<=k
 |0=>bX _
 |k+1=>by unfold eO;have:=uB r k;grind
def Di{r:aE}{k:Nat}(h:0<k):eO r k<k:=Geo.Di r k h
def ZB{a b:aE}{k:Nat}(h:¬aEv a k=aEv b k):false=(a==b):=by grind
def Xn{a b:aE}(hl:(a.length:Int)=b.length){k:Nat}(hk:¬(k:Int)<a.length)(h:aM (λj=>aEv a j=aEv b j) k):true=(a==b):=by symm;rw[beq_iff_eq];refine tW (by omega) λj h1 h2=> ?_;rw[<-nth_eq h1,<-nth_eq h2];exact h j (by omega)
noncomputable def c23:Con:=con (ac (aL .V) (a1 (aL .V))) (λ(a,_)=>[a.length<=1000000]) (λ(a,b)=> .bool (a==b))
def k23:c23.Okz 23:=bJ t36 (λ(a,b)=>[cnt 4 5 a.length (aM λj=>aEv a j=aEv b j)]
  ) (λ(_,_)=>⟨_,rfl⟩) λ(a,b) hp=>az (aC (a==b) λA=>aC (a.length:Int) λC=>(¬C=b.length->false=A)/\
 (¬(¬C=b.length)->(0=(0:Int)/\(0:Nat)<=a.length/\aM (λj=>aEv a j=aEv b j) 0)/\
  (∀x:Nat,aC (x:Int) λB=>x<=a.length/\aM (λj=>aEv a j=aEv b j) x->(B<a.length->ix B a.length/\ix B b.length/\(¬(aEv a x)=(aEv b x)->false=A)/\
    (¬(¬(aEv a x)=(aEv b x))->aJ (B+1)/\B+1=((x+1:Nat):Int)/\x+1<=a.length/\aM (λj=>aEv a j=aEv b j) (x+1)/\a.length-(x+1)<a.length-x))/\
   (¬B<a.length->true=A)))) (by kernel_rfl) (by
  change a.length<=1000000 at hp
  with_reducible ((repeat' first|apply cM|intro);all_goals repeat cases‹_/\_›)
  all_goals first|rfl|exact ZB ‹¬aEv a _=_› |exact Xn (by omega) ‹_› ‹_› |grind)
noncomputable def t23:=t36.adk k23
noncomputable def c76:Con:=con (ac (aL .V) (a1 (aL .V))) (λ(a,_)=>[a.length<=1000000]) (λ(a,b)=> .bool (a==b)
 )
def k76:c76.Okz 76:=bJ t23 (λ(_,_)=>[]) (λ(_,_)=>⟨_,rfl⟩) λ(a,b) hp=>az (a.length<=1000000/\(a==b)=(a==b)) (by kernel_rfl) (by change a.length<=1000000 at hp;grind)
noncomputable def t76:=t23.adk k76
def Fit(s:Shape):Prop:=s.outer.length<=1000/\s.holes.length<=900/\∀r∈s.holes,r.length<=1000
def Fit.rings{s:Shape}(hf:Fit s):∀r∈aD s,r.length<=1000:=by
 intro r hr;unfold aD at hr;rcases aj.1 hr with rfl|hr
 .exact hf.1
 .exact hf.2.2 r hr
def Fit.ring{s:Shape}(hf:Fit s){k:Nat}(hk:k<(aD s).length):(aA (aD s) k).length<=1000:=hf.rings _ (iD hk)
def Fit.hole{s:Shape}(hf:Fit s){k:Nat}(hk:k<s.holes.length):(aA s.holes k).length<=1000:=hf.2.2 _ (iD hk)
def Aa(r:aE):(aH r).length<=r.length:=by unfold aH;grind
def iY(a b:aE)(al:Bool):Bool:=if al=true then pI a b else kz a b
def U3{a b:aE}{al:Bool}{j:Nat}(hj:j<a.length)(h:(kf b (aEv a j)==2)≠al):iY a b al= !al:=by
 unfold iY pI kz;cases al with
 |true=>rw[if_pos rfl];exact y9.2 ⟨_,eC hj,by simpa using h⟩
 |false=>rw[if_neg (by simp)];exact lj.2 ⟨_,eC hj,by simpa using h⟩
def UC{a b:aE}{al:Bool}(h:∀j,j<a.length->(kf b (aEv a j)==2)=al):iY a b al=al:=by
 unfold iY pI kz;cases al with
 |true=>
  rw[if_pos rfl];refine bf.2 λx hx=> ?_;obtain⟨j,hj,rfl⟩:=jm hx;rw[<-nth_eq hj];exact h j hj
 |false=>
  rw[if_neg (by simp)];refine Iy.2 λx hx=> ?_;obtain⟨j,hj,rfl⟩:=jm hx;rw[<-nth_eq hj,h j hj];simp
def jw(s:Shape)(i:Nat):Bool:=dq (aA s.holes i)&& !iO (aA s.holes i) s.outer&&pI (aA s.holes i) s.outer
def iz(s:Shape)(i k:Nat):Bool:= !iO (aA s.holes i) (aA s.holes k)&& !kz (aA s.holes i) (aA s.holes k)&& !kz (aA s.holes k) (aA s.holes i)
def jc(s:Shape)(k:Nat):Nat:=s.outer.length+((s.holes.take k).map fh).sum
def DX(s:Shape):jc s 0=s.outer.length:=by simp[jc]
def DY{s:Shape}{k:Nat}(h:k<s.holes.length):jc s (k+1)=jc s k+(aA s.holes k).length:=by unfold jc;rw[rW,fA h,dR,yt,lF h,<-rP];rfl
def KY(s:Shape):jc s s.holes.length=gH s:=by unfold jc gH aD;grind
def Wp{s:Shape}(hf:Fit s)(k:Nat)(hk:k<=s.holes.length):jc s k<=1000*(k+1):=by
 induction k with
 |zero=>have:=hf.1;rw[DX];omega
 |succ k ih=>
  rw[DY (by omega)];have h1:=ih (by omega);have h2:=hf.2.2 _ (iD (show k<s.holes.length by omega));omega
def zN(s:Shape):bI s=true↔s.holes.length<=6/\dq s.outer=true/\(∀i,i<s.holes.length->jw s i=true/\∀k,k<i->iz s i k=true)/\gH s<=80:=by unfold bI;simp only[bn,decide_eq_true_eq,bf,cF];unfold jw iz;grind
def X9{a b:aE}{i j:Nat}(h:¬cZ (bB (aH a) i) (bB (aH b) j)=0)(hi:i<(aH a).length)(hj:j<(aH b).length):true=iO a b:=by unfold iO;symm;exact lj.2 ⟨_,Me hi,lj.2 ⟨_,Me hj,by simpa using h⟩⟩
def CK(a b:aE)(i:Nat):Prop:=∀j,j<(aH b).length->cZ (bB (aH a) i) (bB (aH b) j)=0
def X8{a b:aE}{k:Nat}(hk:¬(k:Int)<(aH a).length)(h:aM (CK a b) k):false=iO a b:=by unfold iO;symm;refine Iy.2 λx hx=> ?_;obtain⟨i,hi,rfl⟩:=jm hx;rw[<-jH hi,Bool.not_eq_true];refine Iy.2 λy hy=> ?_;obtain⟨j,hj,rfl⟩:=jm hy;rw[<-jH hj,h i (by omega) j hj];decide
def ZU{a b:aE}{i k:Nat}(hk:¬(k:Int)<(aH b).length)(h:aM (λj=>cZ (bB (aH a) i) (bB (aH b) j)=0) k):CK a b i:=λj hj=>h j (by omega)
noncomputable def aEf:Con:=con (ac (aL .V) (a1 (aL .V))) (λ(a,b)=>[a.length<=100000,b.length<=100000]) (λ(a,b)=> .bool (iO a b))
def aCR:aEf.Okz 128:=bJ t76 (λ(a,b)=>[cnt 3 7 (aH a).length (aM (CK a b)) λi=>[cnt 6 8 (aH b).length (aM λj=>cZ (bB (aH a) i) (bB (aH b) j)=0)]]
  ) (λ(_,_)=>⟨_,rfl⟩) λ(a,b) hp=>az (aC (CK a b) λB=>aC (aH a) λD=>aC (aH b) λF=>a.length<=100000/\b.length<=100000/\(0=(0:Int)/\(0:Nat)<=D.length/\aM B 0)/\
 (∀x:Nat,aC (x:Int) λA=>aC (bB D x) λE=>x<=D.length/\aM B x->(A<D.length->(0=(0:Int)/\(0:Nat)<=F.length/\aM (λj=>cZ E (bB F j)=0) 0)/\
   (∀x_1:Nat,aC (x_1:Int) λC=>x_1<=F.length/\aM (λj=>cZ E (bB F j)=0) x_1->(C<F.length->ix A D.length/\ix C F.length/\(¬cZ E (bB F x_1)=0->true=iO a b)/\
     (¬(¬cZ E (bB F x_1)=0)->aJ (C+1)/\C+1=((x_1+1:Nat):Int)/\x_1+1<=F.length/\aM (λj=>cZ E (bB F j)=0) (x_1+1)/\F.length-(x_1+1)<F.length-x_1))/\
    (¬C<F.length->aJ (A+1)/\A+1=((x+1:Nat):Int)/\x+1<=D.length/\aM B (x+1)/\D.length-(x+1)<D.length-x)))/\
  (¬A<D.length->false=iO a b))) (by kernel_rfl) (by
  change a.length<=100000/\b.length<=100000 at hp;have ha:=Aa a;have hb:=Aa b
  repeat' first|with_reducible apply cM|with_reducible intro
  all_goals repeat with_reducible cases‹_/\_›
  all_goals first|assumption|rfl|exact trivial|exact nb ‹_› |exact nb' ‹_› |omega|exact i5 (by omega)|(unfold ix;omega)|(unfold aJ;omega)|exact ir _|exact cT ‹_› ‹_› |(refine cT ‹_› ?_;simp_all;done)|exact X9 ‹¬cZ _ _=0› (by omega) (by omega)|exact X8 ‹_› ‹_› |exact cT ‹_› (ZU ‹_› ‹_›)|(refine cT ‹_› ?_;exact th ‹¬¬_›)|grind)
noncomputable def Rb:=t76.adk aCR
def inQ(a b:aE)(al:Bool)(j:Nat):Prop:=(kf b (aEv a j)==2)=al
noncomputable def aEe:Con:=con (ac (aL .V) (ac (aL .V) (a1 aB))) (λ(a,b,_)=>[a.length<=100000,b.length<=100000]) (λ(a,b,al)=> .bool (iY a b al))
def aCQ:aEe.Okz 129:=bJ Rb (λ(a,b,al)=>[cnt 2 7 a.length (aM (inQ a b al))]
  ) (λ(_,_,_)=>⟨_,rfl⟩) λ(a,b,al) hp=>az (aC (inQ a b al) λB=>(0=(0:Int)/\(0:Nat)<=a.length/\aM B 0)/\
 (∀x:Nat,aC (x:Int) λA=>aC (decide (kf b (aEv a x)=2) !=al) λC=>x<=a.length/\aM B x->(A<a.length->ix A a.length/\b.length<=100000/\(C=true->(!al)=iY a b al)/\
   (C=false->aJ (A+1)/\A+1=((x+1:Nat):Int)/\x+1<=a.length/\aM B (x+1)/\a.length-(x+1)<a.length-x))/\
  (¬A<a.length->al=iY a b al))) (by kernel_rfl) (by
  change a.length<=100000/\b.length<=100000 at hp;have c1:∀j:Nat,(decide (kf b (aEv a j)=2) !=al)=true->j<a.length->(!al)=iY a b al:=λj h hj=>(U3 hj (bne_iff_ne.1 h)).symm;have c2:∀j:Nat,(decide (kf b (aEv a j)=2) !=al)=false->inQ a b al j:=λj h=>bne_eq_false_iff_eq.1 h;have e2:∀k:Nat,¬(k:Int)<a.length->aM (inQ a b al) k->iY a b al=al:=λk h1 h2=>UC λj hj=>h2 j (by omega)
  repeat' first|with_reducible apply cM|with_reducible intro
  all_goals repeat with_reducible cases‹_/\_›
  all_goals first|assumption|rfl|exact trivial|exact nb ‹_› |exact nb' ‹_› |omega|exact i5 (by omega)|(unfold ix;omega)|(unfold aJ;omega)|exact ir _|exact cT ‹_› ‹_› |(refine cT ‹_› ?_;simp_all;done)|exact(e2 _ ‹_› ‹_›).symm|grind|exact cT ‹_› (c2 _ ‹_›)|grind)
noncomputable def Ra:=Rb.adk aCQ
noncomputable def c58:Con:=con (a1 aSh) (λs=>[Fit s]) (λs=> .bool (bI s))
def k58:c58.Okz 58:=bJ Ra (λs=>[jP 3 [s.holes.length<=6,dq s.outer=true],lp 5 4 s.holes.length (λk=>[aM (λi=>jw s i=true/\∀k,k<i->iz s i k=true) k]) [] (λk=>[(3,.iqz (jc s k:Int))]) bh λi=>[jP 11 [jw s i=true],cnt 12 6 i (aM λk=>iz s i k=true)]]
  ) (λ_=>⟨_,rfl⟩) λs hp=>az (aC (!dq s.outer) λF=>aC (s.holes.length:Int) λH=>((6<H->false=bI s)/\
  (¬6<H->s.outer.length<=100000/\(F=true->false=bI s)/\
   (F=false->s.holes.length<=6/\dq s.outer=true)))/\
 (∀y:Unit,s.holes.length<=6/\dq s.outer=true->(0=(0:Int)/\(s.outer.length:Int)=jc s 0/\(0:Nat)<=s.holes.length/\aM (λi=>jw s i=true/\(∀k:Nat,k<i->iz s i k=true)) 0)/\
  (∀x:Nat,aC (x:Int) λA=>aC (jc s x:Int) λC=>aC (aA s.holes x) λD=>aC (!dq D) λE=>aC (!iY D s.outer true) λI=>x<=s.holes.length/\aM (λi=>jw s i=true/\(∀k:Nat,k<i->iz s i k=true)) x->(A<s.holes.length->ix A s.holes.length/\aJ (C+D.length)/\(D.length<=100000/\(E=true->false=bI s)/\
     (E=false->D.length<=100000/\s.outer.length<=100000/\(iO D s.outer=true->false=bI s)/\
      (iO D s.outer=false->D.length<=100000/\s.outer.length<=100000/\(I=true->false=bI s)/\
       (I=false->jw s x=true))))/\
    (∀y_1:Unit,jw s x=true->(0=(0:Int)/\(0:Nat)<=x/\aM (λk=>iz s x k=true) 0)/\
     (∀x_1:Nat,aC (x_1:Int) λB=>aC (aA s.holes x_1) λG=>x_1<=x/\aM (λk=>iz s x k=true) x_1->(B<x->ix B s.holes.length/\D.length<=100000/\G.length<=100000/\(iO D G=true->false=bI s)/\
       (iO D G=false->ix B s.holes.length/\D.length<=100000/\G.length<=100000/\(iY D G false=true->false=bI s)/\
        (iY D G false=false->ix B s.holes.length/\G.length<=100000/\D.length<=100000/\(iY G D false=true->false=bI s)/\
         (iY G D false=false->aJ (B+1)/\B+1=((x_1+1:Nat):Int)/\x_1+1<=x/\aM (λk=>iz s x k=true) (x_1+1)/\x-(x_1+1)<x-x_1))))/\
      (¬B<x->aJ (A+1)/\A+1=((x+1:Nat):Int)/\C+D.length=jc s (x+1)/\x+1<=s.holes.length/\aM (λi=>jw s i=true/\(∀k:Nat,k<i->iz s i k=true)) (x+1)/\s.holes.length-(x+1)<s.holes.length-x))))/\
   (¬A<s.holes.length->decide (C<=80)=bI s)))) (by kernel_rfl) (by
  change Fit s at hp;have hf:(bI s=true->False)->false=bI s:=λh=>by grind
  have n1:∀i,jw s i=false->i<s.holes.length->false=bI s:=λi h hi=>hf λhv=>by rw[(((zN s).1 hv).2.2.1 i hi).1]at h;cases h
  have n2:∀i k,iz s i k=false->k<i->i<s.holes.length->false=bI s:=λi k h hk hi=>hf λhv=>by rw[(((zN s).1 hv).2.2.1 i hi).2 k hk]at h;cases h
  have a1:∀i,(!dq (aA s.holes i))=true->i<s.holes.length->false=bI s:=λi h=>n1 i (by unfold jw;grind);have a2:∀i,iO (aA s.holes i) s.outer=true->i<s.holes.length->false=bI s:=λi h=>n1 i (by unfold jw;rw[h];simp);have a3:∀i,(!iY (aA s.holes i) s.outer true)=true->i<s.holes.length->false=bI s:=λi h=>n1 i (by unfold jw;rw[show pI (aA s.holes i) s.outer=false from nb' h];simp);have a4:∀i,(!dq (aA s.holes i))=false->iO (aA s.holes i) s.outer=false->(!iY (aA s.holes i) s.outer true)=false->jw s i=true:=λi h1 h2 h3=>by unfold jw;rw[nb h1,h2,show pI (aA s.holes i) s.outer=true from nb h3];rfl
  have b1:∀i k,iO (aA s.holes i) (aA s.holes k)=true->k<i->i<s.holes.length->false=bI s:=λi k h=>n2 i k (by unfold iz;rw[h];rfl);have b2:∀i k,iY (aA s.holes i) (aA s.holes k) false=true->k<i->i<s.holes.length->false=bI s:=λi k h=>n2 i k (by unfold iz;rw[show kz (aA s.holes i) (aA s.holes k)=true from h];simp);have b3:∀i k,iY (aA s.holes k) (aA s.holes i) false=true->k<i->i<s.holes.length->false=bI s:=λi k h=>n2 i k (by unfold iz;rw[show kz (aA s.holes k) (aA s.holes i)=true from h];simp);have b4:∀i k,iO (aA s.holes i) (aA s.holes k)=false->iY (aA s.holes i) (aA s.holes k) false=false->iY (aA s.holes k) (aA s.holes i) false=false->iz s i k=true:=λi k h1 h2 h3=>by unfold iz;rw[h1,show kz (aA s.holes i) (aA s.holes k)=false from h2,show kz (aA s.holes k) (aA s.holes i)=false from h3];rfl
  have b5:∀i k:Nat,¬(k:Int)<i->aM (λk=>iz s i k=true) k->∀k,k<i->iz s i k=true:=λi k h1 h2 j hj=>h2 j (by omega);have e0:=DX s;have es:∀k,k<s.holes.length->(jc s k:Int)+(aA s.holes k).length=jc s (k+1):=λk h=>by rw[DY h];rfl
  have el:∀k,k<s.holes.length->aJ ((jc s k:Int)+(aA s.holes k).length):=λk h=>by rw[es k h];exact bW (by have:=Wp hp (k+1) (by omega);have:=hp.2.1;omega)
  have ef:s.holes.length<=6->dq s.outer=true->∀k:Nat,¬(k:Int)<s.holes.length->k<=s.holes.length->aM (λi=>jw s i=true/\∀k,k<i->iz s i k=true) k->decide ((jc s k:Int)<=80)=bI s:=λh1 h2 k h3 h4 h5=>by
   obtain rfl:k=s.holes.length:=by omega
   rw[KY,fg,zN,decide_eq_true_eq];exact⟨λh=>⟨h1,h2,h5,by omega⟩,λh=>by omega⟩
  have ho:=hp.1;have hh:= @Fit.hole s hp
  repeat' first|with_reducible apply cM|with_reducible intro
  all_goals repeat with_reducible cases‹_/\_›
  all_goals first|assumption|rfl|exact trivial|exact nb ‹_› |exact nb' ‹_› |omega|exact i5 (by omega)|(unfold ix;omega)|(unfold aJ;omega)|exact ir _|exact cT ‹_› ‹_› |(refine cT ‹_› ?_;simp_all;done)|exact cO (hh (by omega)) (by decide)|exact el _ (by omega)|exact es _ (by omega)|exact ef ‹_› ‹_› _ ‹_› ‹_› ‹_› |exact a1 _ ‹_› (by omega)|exact a2 _ ‹_› (by omega)|exact a3 _ ‹_› (by omega)|exact a4 _ ‹_› ‹_› ‹_› |exact b1 _ _ ‹_› (by omega) (by omega)|exact b2 _ _ ‹_› (by omega) (by omega)|exact b3 _ _ ‹_› (by omega) (by omega)|exact cT ‹_› (b4 _ _ ‹_› ‹_› ‹_›)|exact cT ‹_› ⟨‹_›,b5 _ _ ‹_› ‹_›⟩|exact hf λh=>by have h:=(zN s).1 h;first|omega|grind|grind)
noncomputable def t58:=Ra.adk k58
def LR{p:Pt}{l:List aE}{w:Int}{k:Nat}(hk:k<l.length)(h:∀j,j<k->dd (aA l j) p≠2/\dd (aA l j) p≠1):lK p l w=if dd (aA l k) p=2 then 0 else if dd (aA l k) p=1 then 1 else lK p (l.drop (k+1)) w:=by
 induction l generalizing k with
 |nil=>simp at hk
 |cons r l ih=>
  cases k with
  |zero=>rfl
  |succ k=>
   have h0:=h 0 (by omega);have e:aA (r::l) 0=r:=rfl;rw[e]at h0;have e1:lK p (r::l) w=(if dd r p=2 then 0 else if dd r p=1 then 1 else lK p l w):=rfl;rw[e1,if_neg h0.1,if_neg h0.2];exact ih (k:=k) (by grind) (λj hj=>h (j+1) (by omega))
def U7{p:Pt}{l:List aE}{w:Int}(h:∀j,j<l.length->dd (aA l j) p≠2/\dd (aA l j) p≠1):lK p l w=w:=by
 induction l with
 |nil=>rfl
 |cons r l ih=>
  have h0:=h 0 (by simp);have e:aA (r::l) 0=r:=rfl;rw[e]at h0;unfold lK;rw[if_neg h0.1,if_neg h0.2];exact ih (λj hj=>h (j+1) (by grind))
def xz(s:Shape)(i:Nat):List aE:=q9 ((s.holes.take i).map c7)
def JU(s:Shape)(i:Nat):(xz s i).Perm ((s.holes.take i).map c7):=l0 _
def TH(s:Shape)(i:Nat):(xz s i).length<=s.holes.length:=by rw[(JU s i).length_eq,db,List.length_take];omega
def Ud{s:Shape}{i:Nat}{r:aE}(h:r∈xz s i):∃q∈s.holes,r=c7 q:=by have:=(JU s i).mem_iff.1 h;grind
def hQ(s:Shape)(p:Pt)(j:Nat):Prop:=dd (aA s.holes j) p≠2/\dd (aA s.holes j) p≠1
noncomputable def c73:Con:=con (ac aSh (a1 aT)) (λ(s,_)=>[Fit s]) (λ(s,p)=> .iqz (eL s p))
def k73:c73.Okz 73:=bJ t58 (λ(s,p)=>[cnt 5 6 s.holes.length (aM (hQ s p))]
  ) (λ(_,_)=>⟨_,rfl⟩) λ(s,p) hp=>az (aC (hQ s p) λA=>aC (!bI s) λC=>Fit s/\(C=true->0=eL s p)/\
 (C=false->s.outer.length<=100000/\(0=(0:Int)/\(0:Nat)<=s.holes.length/\aM A 0)/\
  (∀x:Nat,aC (x:Int) λB=>aC (aA s.holes x) λD=>x<=s.holes.length/\aM A x->(B<s.holes.length->ix B s.holes.length/\D.length<=100000/\(dd D p=2->0=eL s p)/\
    (¬dd D p=2->(dd D p=1->1=eL s p)/\
     (¬dd D p=1->aJ (B+1)/\B+1=((x+1:Nat):Int)/\x+1<=s.holes.length/\aM A (x+1)/\s.holes.length-(x+1)<s.holes.length-x)))/\
   (¬B<s.holes.length->dd s.outer p=eL s p)))) (by kernel_rfl) (by
  change Fit s at hp;have h0:(!bI s)=true->0=eL s p:=λh=>by unfold eL;rw[if_pos h]
  have h1:(!bI s)=false->eL s p=lK p s.holes (dd s.outer p):=λh=>by unfold eL;grind
  have c1:∀k,aM (hQ s p) k->dd (aA s.holes k) p=2->(!bI s)=false->k<s.holes.length->0=eL s p:=λk h h2 h3 hk=>by rw[h1 h3,LR hk h,if_pos h2]
  have c2:∀k,aM (hQ s p) k->¬dd (aA s.holes k) p=2->dd (aA s.holes k) p=1->(!bI s)=false->k<s.holes.length->1=eL s p:=λk h h2 h3 h4 hk=>by rw[h1 h4,LR hk h,if_neg h2,if_pos h3]
  have c3:∀k:Nat,¬(k:Int)<s.holes.length->aM (hQ s p) k->(!bI s)=false->dd s.outer p=eL s p:=λk hk h h2=>by rw[h1 h2,U7 λj hj=>h j (by omega)]
  have ho:=hp.1;have hl:=hp.2.1;have hh:= @Fit.hole s hp
  repeat' first|with_reducible apply cM|with_reducible intro
  all_goals repeat with_reducible cases‹_/\_›
  all_goals first|assumption|rfl|exact trivial|exact nb ‹_› |exact nb' ‹_› |omega|exact i5 (by omega)|(unfold ix;omega)|(unfold aJ;omega)|exact ir _|exact cT ‹_› ‹_› |(refine cT ‹_› ?_;simp_all;done)|exact cO (hh (by omega)) (by decide)|exact h0 ‹_› |exact c1 _ ‹_› ‹_› ‹_› (by omega)|exact c2 _ ‹_› ‹_› ‹_› ‹_› (by omega)|exact c3 _ ‹_› ‹_› ‹_› |exact cT ‹_› ⟨‹_›,‹_›⟩|grind)
noncomputable def t73:=t58.adk k73
def Ka:∀{a b:aE} {k:Nat},(∀j,j<k->cE (aEv a j) (aEv b j)=0)->cE (aEv a k) (aEv b k)≠0->k<a.length->k<b.length->dA a b=cE (aEv a k) (aEv b k)
 |[],_,k,_,_,h,_=>by simp at h
 |_::_,[],k,_,_,_,h=>by simp at h
 |x::a,y::b,0,_,h,_,_=>by
  have e:cE x y≠0:=h;unfold dA;rw[if_pos e];rfl
 |x::a,y::b,k+1,h3,h4,h1,h2=>by
  have e:cE x y=0:=h3 0 (by omega);unfold dA;rw[if_neg (λhne=>hne e)];exact Ka (a:=a) (b:=b) (k:=k) (λj hj=>h3 (j+1) (by omega)) h4 (by grind) (by grind)
def DZ:∀{a b:aE} {k:Nat},k<=a.length->k<=b.length->(k=a.length\/k=b.length)->(∀j,j<k->cE (aEv a j) (aEv b j)=0)->dA a b=sgn ((a.length:Int)-(b.length:Int))
 |[],[],_,_,_,_,_=>rfl
 |[],y::b,k,_,_,_,_=>by unfold dA sgn;grind
 |x::a,[],k,_,_,_,_=>by unfold dA sgn;grind
 |x::a,y::b,0,_,_,h,_=>by simp at h
 |x::a,y::b,k+1,h1,h2,h3,h4=>by
  have e:cE x y=0:=h4 0 (by omega);unfold dA;rw[if_neg (λhne=>hne e)];rw[DZ (a:=a) (b:=b) (k:=k) (by grind) (by grind) (by grind) (λj hj=>h4 (j+1) (by omega))];grind
def Ww(s:Shape):eP s=⟨c7 s.outer,xz s s.holes.length⟩:=by unfold eP xz;grind
def LZ{s:Shape}(hf:Fit s):Fit (eP s):=by
 rw[Ww];refine⟨by dsimp only;rw[lv];exact hf.1,?_,λr hr=> ?_⟩
 .have:=TH s s.holes.length;have:=hf.2.1;grind
 .obtain⟨q,hq,rfl⟩:=Ud hr;rw[lv];exact hf.2.2 q hq
def vOf(s:Shape):List V:=if bI s=true then bz (eP s)else []
def eOf(s:Shape):Int:=if bI s=true then 0 else 11
def Ek{s:Shape}(h:VS s):(bz (eP s)).length<=80:=by have h1:=(ri s).length_eq;have h2:=h.corners;unfold gH at h2;rw[h1];unfold bz;grind
def Yp{s:Shape}(h:VS s):∀x∈bz (eP s),ao x 2000=true:=by intro x hx;have hx:=(ri s).subset hx;unfold bz at hx;obtain⟨r,hr,hxr⟩:=List.mem_flatten.1 hx;have hn:=(h.ring hr).near;unfold near at hn;grind
def vsR{s:Shape}(hv:bI s=true):VS s:=(lz s).1 (by rw[jW];exact hv)
def aAT(c:Bool)(out:List S)(d:S)(k:Nat):Bool:=c&&(out.take k).all λe=>cZ e d !=2
def JW(s:Shape)(v:List V)(acc:List S)(i:Nat):∀m,(qH s v acc i m).length<=acc.length+m
 |0=>by simp[qH]
 |m+1=>by
  have h:=JW s v acc i m;unfold qH vA;grind
def JG(s:Shape)(v:List V):∀i,(oM s v i).length<=i*v.length
 |0=>by simp[oM]
 |i+1=>by
  have h1:=JG s v i;have h2:=JW s v (oM s v i) i (v.length-(i+1));unfold oM;grind
def dOf(s:Shape):List S:=if bI s=true then nL s (vOf s)else []
def dJ(s:Shape)(v:List V)(i j:Nat):List S:=qH s v (oM s v i) i (j-(i+1))
def dW(s:Shape)(v:List V)(i j:Nat)(k:Nat):Bool:=aAT (pk s ⟨aEv v i,aEv v j⟩) (dJ s v i j) ⟨aEv v i,aEv v j⟩ k
def pf(s:Shape):(vOf s).length<=80:=by
 unfold vOf;split
 .exact Ek (vsR ‹_›)
 .simp
def BE{s:Shape}{i:Nat}(h:i<(vOf s).length){M:Int}(hM:2000<=M:=by decide):bd M (aEv (vOf s) i):=by
 by_cases hv:bI s=true
 .have e:vOf s=bz (eP s):=if_pos hv;rw[e]at h|-;exact qE (Yp (vsR hv) _ (eC h)) hM
 .have e:vOf s=[] :=if_neg hv;grind
def aAZ{s:Shape}(h:¬eOf s=0):dOf s=[]/\vOf s=[] :=by
 unfold eOf at h;split at h
 .omega
 .exact⟨if_neg ‹_›,if_neg ‹_›⟩
def Oo{s:Shape}(h:¬¬eOf s=0):bI s=true:=by unfold eOf at h;grind
section
section
variable (s:Shape) (v:List V) (T:Geo.Tab)
end
def Th(s:Shape)(v:List V)(h:v.length<=80):(nL s v).length<=6400:=by have h1:=JG s v v.length;have h2:v.length*v.length<=80*80:=wC h h;unfold nL;omega
section
variable {s:Shape} {v:List V} {T:Geo.Tab} {i j k:Nat}
end
def tri(a b c:V):aE:=if turn a b c<0 then [a,c,b]else [a,b,c]
def sO{s:Shape}(h:bI s=true):vOf s=bz (eP s):=if_pos h
def GI{s:Shape}(h:bI s=true):dOf s=nL s (vOf s):=if_pos h
def Zy(s:Shape):(dOf s).length<=6400:=by
 unfold dOf;split
 .exact Th s _ (pf s)
 .simp
end
def X5{a b:List aE}(hl:a.length=b.length)(h:∀j,j<a.length->aA a j=aA b j):a=b:=tW hl λi h1 h2=>by rw[<-lF h1,<-lF h2];exact h i h1
def j9(s:Shape):Nat->Int
 |0=>s.outer.length
 |k+1=>iq.wrap (j9 s k+((aA s.holes k).length:Int))
def KB:∀{l:List Nat} {x:Nat},x∈l->x<=l.sum
 |y::l,x,h=>by
  rcases aj.1 h with rfl|h
  .simp
  .have:=KB h;simp;omega
def jM(s:Shape):Bool:=decide (j9 s s.holes.length<=20)&&decide ((s.holes.length:Int)<=3)
def mN(s:Shape):Prop:=s.outer.length<=1000000000000000000/\s.holes.length<=1000000000000000000/\∀r∈s.holes,r.length<=1000000000000000000
def KS{s:Shape}(hB:mN s):∀k,k<=s.holes.length->k<=3->j9 s k=(jc s k:Int)/\j9 s k<=1000000000000000000*((k:Int)+1)
 |0,_,_=>by have:=hB.1;rw[DX];exact⟨rfl,by show(s.outer.length:Int)<=_;omega⟩
 |k+1,h1,h2=>by
  obtain⟨g1,g2⟩:=KS hB k (by omega) (by omega);have h3:=hB.2.2 _ (iD (show k<s.holes.length by omega));have h4:j9 s (k+1)=iq.wrap (j9 s k+((aA s.holes k).length:Int)):=rfl;rw[h4,IntWalk.i64_in _ (by omega),DY (by omega)];omega
def M3{s:Shape}(hB:mN s)(h:jM s=true):Fit s:=by
 unfold jM at h;simp only[BI]at h;have h1:=(KS hB s.holes.length (bX _) (by omega)).1;rw[h1,KY]at h;have h2:gH s<=20:=by omega
 unfold gH at h2;have h3:∀r∈aD s,r.length<=20:=λr hr=>cO (KB (bR.2 ⟨r,hr,rfl⟩)) h2;exact⟨by have:=h3 s.outer (by simp[aD]);omega,by omega,λr hr=>by have:=h3 r (by simp[aD,hr]);omega⟩
noncomputable def c25:Con:=con (ac (aL .R) (a1 (aL .R))) (λ(a,_)=>[a.length<=1000000,(∀r∈a,r.length<=100000)]) (λ(a,b)=> .bool (a==b))
def k25:c25.Okz 25:=bJ t73 (λ(a,b)=>[cnt 4 5 a.length (aM λj=>aA a j=aA b j)]
  ) (λ(_,_)=>⟨_,rfl⟩) λ(a,b) hp=>az (aC (a==b) λA=>aC (a.length:Int) λC=>(¬C=b.length->false=A)/\
 (¬(¬C=b.length)->(0=(0:Int)/\(0:Nat)<=a.length/\aM (λj=>aA a j=aA b j) 0)/\
  (∀x:Nat,aC (x:Int) λB=>aC (!aA a x==aA b x) λD=>x<=a.length/\aM (λj=>aA a j=aA b j) x->(B<a.length->ix B a.length/\ix B b.length/\(aA a x).length<=1000000/\(D=true->false=A)/\
    (D=false->aJ (B+1)/\B+1=((x+1:Nat):Int)/\x+1<=a.length/\aM (λj=>aA a j=aA b j) (x+1)/\a.length-(x+1)<a.length-x))/\
   (¬B<a.length->true=A)))) (by kernel_rfl) (by
  change a.length<=1000000/\((∀r∈a,r.length<=100000))at hp;have h0:∀x,x<a.length->(aA a x).length<=1000000:=λx h=>cO (hp.2 _ (iD h)) (by decide);have h1:¬(a.length:Int)=b.length->false=(a==b):=λh=>by grind
  have h2:∀{x},(!aA a x==aA b x)=true->false=(a==b):=λh=>by grind
  have h3:∀x:Nat,¬(x:Int)<a.length->aM (λj=>aA a j=aA b j) x->¬¬(a.length:Int)=b.length->true=(a==b):=λx h1 h2 h3=>by symm;rw[beq_iff_eq];exact X5 (by omega) λj hj=>h2 j (by omega)
  have h4:∀{x},(!aA a x==aA b x)=false->aA a x=aA b x:=λh=>by simpa using h
  with_reducible ((repeat' first|apply cM|intro);all_goals repeat cases‹_/\_›)
  all_goals grind)
noncomputable def t25:=t73.adk k25
noncomputable def c16:Con:=con (a1 aSh) (λs=>[mN s]) (λs=> .bool (jM s))
def k16:c16.Okz 16:=yK (qC t25.o) (raw:=λr i=>bF r 5&&bF i 7) (λs=>[lp 3 4 s.holes.length (λ_=>[]) [] (λk=>[(3,.int .i64 (j9 s k))]) (λ_=>[])]
  ) (λ_=>⟨_,rfl⟩) λs hp=>az ((0=(0:Int)/\(s.outer.length:Int)=j9 s 0/\(0:Nat)<=s.holes.length)/\
 (∀x:Nat,aC (x:Int) λA=>x<=s.holes.length->(A<s.holes.length->ix A s.holes.length/\aJ (A+1)/\A+1=((x+1:Nat):Int)/\IntKind.wrap iq (j9 s x+(aA s.holes x).length)=j9 s (x+1)/\x+1<=s.holes.length/\s.holes.length-(x+1)<s.holes.length-x)/\
  (¬A<s.holes.length->(j9 s x<=20->decide ((s.holes.length:Int)<=3)=jM s)/\
   (¬j9 s x<=20->false=jM s)))) (by kernel_rfl) (by
  change mN s at hp;have hh:=hp.2.1;have e1:∀k:Nat,¬(k:Int)<s.holes.length->k<=s.holes.length->j9 s k=j9 s s.holes.length:=λk h1 h2=>by grind
  have e2:∀k:Nat,j9 s k<=20->¬(k:Int)<s.holes.length->k<=s.holes.length->decide ((s.holes.length:Int)<=3)=jM s:=λk h h1 h2=>by unfold jM;grind
  have e3:∀k:Nat,¬j9 s k<=20->¬(k:Int)<s.holes.length->k<=s.holes.length->false=jM s:=λk h h1 h2=>by unfold jM;grind
  with_reducible ((repeat' first|apply cM|intro);all_goals repeat cases‹_/\_›)
  all_goals first|rfl|exact e2 _ ‹_› ‹_› ‹_› |grind)
noncomputable def t16:=t25.adk k16
noncomputable def aDy:Con:=con (a1 aI) (λ_=>[]) (λ_=> .bool false
 )
def aCb:aDy.Okz 184:=bJ t16 bh (λ_=>⟨_,rfl⟩) λx _=>az (decide (¬x=x)=false) (by kernel_rfl) (by grind)
noncomputable def Qr:=t16.adk aCb
noncomputable def aD8:Con:=con (ac aI (a1 aI)) (λ(_,_)=>[]) (λ(x,y)=> .iqz (aEB x y)
 )
def aCK:aD8.Okz 137:=bJ Qr (λ(_,_)=>[]) (λ(_,_)=>⟨_,rfl⟩) λ(x,y) _=>az ((false=true->(false=true->0=aEB x y)/\
  (false=false-> -1=aEB x y))/\
 (false=false->(false=true->1=aEB x y)/\
  (false=false->(x<y-> -1=aEB x y)/\
   (¬x<y->(y<x->1=aEB x y)/\
    (¬y<x->0=aEB x y))))) (by kernel_rfl) (by
  unfold aEB;grind)
noncomputable def RU:=Qr.adk aCK
def orU(l:List Int)(k:Nat):Prop:=∀j,j<k->co l j=0
def orL:List Int->Int
 |[] =>0
 |x::l=>if x=0 then orL l else x
def PJ:∀{l:List Int} {k:Nat},¬co l k=0->orU l k->k<l.length->co l k=orL l
 |[],k,_,_,h=>by simp at h
 |x::l,0,h,_,_=>by
  have h:¬x=0:=h;show x=orL (x::l);unfold orL;rw[if_neg h]
 |x::l,k+1,h,h2,h3=>by
  have h0:x=0:=h2 0 (by omega);show co l k=orL (x::l);unfold orL;rw[if_pos h0];exact PJ h (λj hj=>h2 (j+1) (by omega)) (by grind)
def OF:∀{l:List Int},orU l l.length->0=orL l
 |[],_=>rfl
 |x::l,h=>by
  have h0:x=0:=h 0 (by simp);unfold orL;rw[if_pos h0];exact OF λj hj=>h (j+1) (by grind)
noncomputable def aD1:Con:=con (a1 (aL .I)) (λl=>[l.length<=1000]) (λl=> .iqz (orL l))
def aCD:aD1.Okz 148:=bJ RU (λl=>[cnt 3 8 l.length (orU l)]
  ) (λ_=>⟨_,rfl⟩) λl hp=>az ((0=(0:Int)/\(0:Nat)<=l.length/\orU l 0)/\
 (∀x:Nat,aC (x:Int) λA=>x<=l.length/\orU l x->(A<l.length->ix A l.length/\(¬co l x=0->co l x=orL l)/\
   (¬(¬co l x=0)->aJ (A+1)/\A+1=((x+1:Nat):Int)/\x+1<=l.length/\orU l (x+1)/\l.length-(x+1)<l.length-x))/\
  (¬A<l.length->0=orL l))) (by kernel_rfl) (by
  change l.length<=1000 at hp
  with_reducible ((repeat' first|apply cM|intro);all_goals repeat cases‹_/\_›)
  all_goals first|assumption|rfl|exact trivial|exact nb ‹_› |exact nb' ‹_› |omega|exact i5 (by omega)|(unfold ix;omega)|(unfold aJ;omega)|exact ir _|exact cT ‹_› ‹_› |(refine cT ‹_› ?_;simp_all;done)|exact PJ ‹_› ‹_› (by omega)|(obtain rfl:_=l.length:=ti ‹_› (by omega);exact OF ‹_›)|(refine cT ‹_› ?_;exact th ‹¬¬_›)|grind)
noncomputable def RN:=RU.adk aCD
noncomputable def c78:Con:=con (ac aV (a1 aV)) (λ(_,_)=>[]) (λ(a,b)=> .iqz (cE a b)
 )
def k78:c78.Okz 78:=bJ RN (λ(_,_)=>[]) (λ(_,_)=>⟨_,rfl⟩) λ(a,b) _=>az ([aEB a.y b.y,aEB a.x b.x].length<=1000/\orL [aEB a.y b.y,aEB a.x b.x] =cE a b) (by kernel_rfl) (by refine⟨by simp,?_⟩;unfold cE;simp only[orL];grind)
noncomputable def t78:=RN.adk k78
noncomputable def aDh:Con:=con (ac aV (a1 aV)) (λ(_,_)=>[]) (λ(a,b)=> .bool (bg a b)
 )
def aBU:aDh.Okz 220:=bJ t78 (λ(_,_)=>[]) (λ(_,_)=>⟨_,rfl⟩) λ(a,b) _=>az (decide (cE a b<0)=bg a b) (by kernel_rfl) (by unfold bg cE aEB;grind)
noncomputable def Qb:=t78.adk aBU
noncomputable def aEl:Con:=con (ac aV (a1 aV)) (λ(a,b)=>[bd 2000000000 a,bd 2000000000 b]) (λ(a,b)=> .iqz (cross a b)
 )
def aCY:aEl.Okz 111:=bJ Qb (λ(_,_)=>[]) (λ(_,_)=>⟨_,rfl⟩) λ(a,b) hp=>az (aJ (a.x*b.y)/\aJ (a.y*b.x)/\aJ (a.x*b.y-a.y*b.x)/\a.x*b.y-a.y*b.x=cross a b) (by kernel_rfl) (by change bd 2000000000 a/\bd 2000000000 b at hp;have:=ms hp.1 hp.2;exact⟨bW (by omega),bW (by omega),bW (by omega),rfl⟩)
noncomputable def Rl:=Qb.adk aCY
noncomputable def aD7:Con:=con (ac aV (a1 aV)) (λ(a,b)=>[bd 1000000000 a,bd 1000000000 b]) (λ(a,b)=>aV.enc (aEy a b)
 )
def aCJ:aD7.Okz 138:=bJ Rl (λ(_,_)=>[]) (λ(_,_)=>⟨_,rfl⟩) λ(a,b) hp=>az (aJ (a.x-b.x)/\aJ (a.y-b.y)/\a.x-b.x=(aEy a b).x/\a.y-b.y=(aEy a b).y) (by kernel_rfl) (by change bd 1000000000 a/\bd 1000000000 b at hp;unfold bd at hp;exact⟨bW (by omega),bW (by omega),rfl,rfl⟩)
noncomputable def RT:=Rl.adk aCJ
noncomputable def c63:Con:=con (ac aV (ac aV (a1 aV))) (λ(a,b,c)=>[bd 1000000000 a,bd 1000000000 b,bd 1000000000 c]) (λ(a,b,c)=> .iqz (turn a b c)
 )
def k63:c63.Okz 63:=bJ RT (λ(_,_,_)=>[]) (λ(_,_,_)=>⟨_,rfl⟩) λ(a,b,c) hp=>az (bd 1000000000 b/\bd 1000000000 a/\bd 1000000000 c/\bd 1000000000 a/\bd 2000000000 (aEy b a)/\bd 2000000000 (aEy c a)/\aEB (cross (aEy b a) (aEy c a)) 0=turn a b c) (by kernel_rfl) (by
 change bd 1000000000 a/\bd 1000000000 b/\bd 1000000000 c at hp;have e:∀n,aEB n 0=sgn n:=λn=>by unfold aEB sgn;grind
 exact⟨hp.2.1,hp.1,hp.2.2,hp.1,iZ hp.2.1 hp.1,iZ hp.2.2 hp.1,e _⟩)
noncomputable def t63:=RT.adk k63
noncomputable def aD6:Con:=con (ac aV (a1 aI)) (λ(_,m)=>[0<=m,m<=9000000000000000000]) (λ(a,m)=> .bool (ao a m)
 )
def aCI:aD6.Okz 139:=bJ t63 (λ(_,_)=>[]) (λ(_,_)=>⟨_,rfl⟩) λ(a,m) hp=>az (aJ (0-m)/\(0-m<=a.x->(a.x<=m->aJ (0-m)/\(0-m<=a.y->decide (a.y<=m)=ao a m)/\
   (¬0-m<=a.y->false=ao a m))/\
  (¬a.x<=m->false=ao a m))/\
 (¬0-m<=a.x->false=ao a m)) (by kernel_rfl) (by change 0<=m/\m<=9000000000000000000 at hp;unfold ao;have:= @aJ;grind[aJ])
noncomputable def RS:=t63.adk aCI
noncomputable def aD4:Con:=con (a1 aV) (λ_=>[]) (λa=>aT.enc (fD a)
 )
def aCG:aD4.Okz 141:=bJ RS bh (λ_=>⟨_,rfl⟩) λa _=>az (aC (fD a) λA=>a.x=A.x/\a.y=A.y/\1=A.den) (by kernel_rfl) (by exact⟨rfl,rfl,rfl⟩)
noncomputable def RQ:=RS.adk aCG
def qL(b:S)(p:V):Bool:=decide (b.a.x<=p.x)&&decide (p.x<=b.b.x)&&decide (b.a.y<=p.y)&&decide (p.y<=b.b.y)
def bU(l:List V):Nat->S
 |0=>⟨aEv l 0,aEv l 0⟩
 |k+1=>⟨⟨min (bU l k).a.x (aEv l k).x,min (bU l k).a.y (aEv l k).y⟩,⟨max (bU l k).b.x (aEv l k).x,max (bU l k).b.y (aEv l k).y⟩⟩
noncomputable def aDc:Con:=con (ac aS (a1 aV)) (λ(_,_)=>[]) (λ(b,p)=> .bool (qL b p)
 )
def aBQ:aDc.Okz 228:=bJ RQ (λ(_,_)=>[]) (λ(_,_)=>⟨_,rfl⟩) λ(b,p) _=>az ((b.a.x<=p.x->(p.x<=b.b.x->(b.a.y<=p.y->decide (p.y<=b.b.y)=qL b p)/\
   (¬b.a.y<=p.y->false=qL b p))/\
  (¬p.x<=b.b.x->false=qL b p))/\
 (¬b.a.x<=p.x->false=qL b p)) (by kernel_rfl) (by unfold qL;grind)
noncomputable def QY:=RQ.adk aBQ
noncomputable def aDd:Con:=con (a1 (aL .V)) (λl=>[l.length<=1000]) (λl=> .tup [aS.enc (bU l l.length),.bool (decide (0<l.length))])
def aBR:aDd.Okz 227:=bJ QY (λl=>[lp 5 19 l.length bh [] bh (λk=>[(12,.box 196 [.iqz (bU l k).a.x,.iqz (bU l k).a.y,.iqz (bU l k).b.x,.iqz (bU l k).b.y])])]
  ) (λ_=>⟨_,rfl⟩) λl hp=>az (aC (bU l 0) λC=>aC (0:Nat) λF=>aC (aEv l 0) λG=>aC (bU l l.length) λI=>aC (l.length:Int) λJ=>(J=0->0=I.a.x/\0=I.a.y/\0=I.b.x/\0=I.b.y/\false=decide (F<l.length))/\
 (¬J=0->ix 0 l.length/\ix 0 l.length/\(0=(0:Int)/\G.x=C.a.x/\G.y=C.a.y/\G.x=C.b.x/\G.y=C.b.y/\F<=l.length)/\
  (∀x:Nat,aC (bU l x) λB=>aC (bU l (x+1)) λD=>aC (x:Int) λE=>aC (aEv l x) λH=>x<=l.length->(E<l.length->ix E l.length/\ix E l.length/\ix E l.length/\ix E l.length/\aJ (E+1)/\E+1=((x+1:Nat):Int)/\Min.min B.a.x H.x=D.a.x/\Min.min B.a.y H.y=D.a.y/\Max.max B.b.x H.x=D.b.x/\Max.max B.b.y H.y=D.b.y/\x+1<=l.length/\l.length-(x+1)<l.length-x)/\
   (¬E<l.length->B.a.x=I.a.x/\B.a.y=I.a.y/\B.b.x=I.b.x/\B.b.y=I.b.y/\true=decide (F<l.length))))) (by kernel_rfl) (by
  change l.length<=1000 at hp;have eU:∀x:Nat,¬(x:Int)<l.length->x<=l.length->bU l x=bU l l.length:=λx h1 h2=>by grind
  with_reducible ((repeat' first|apply cM|intro);all_goals repeat cases‹_/\_›)
  all_goals first|rfl|(have h0:l=[] :=mc.1 (by omega);subst h0;rfl)|(rw[eU _ ‹_› ‹_›])|(symm;rw[decide_eq_false_iff_not];omega)|grind)
noncomputable def QZ:=QY.adk aBR
noncomputable def aDn:Con:=con (ac aI (a1 aI)) (λ(a,b)=>[-9000000000000000000<=a,a<=9000000000000000000,-9000000000000000000<=b,b<=9000000000000000000]) (λ(a,b)=> .iqz ((cD a.natAbs b.natAbs:Nat):Int))
def aB0:aDn.Okz 209:=bJ QZ (λ(a,b)=>[(1,.mk (Int×Int) (λF _=>SF F 0 1) [] (λp=>[p.1.natAbs<=9000000000000000000,p.2.natAbs<=9000000000000000000,cD p.1.natAbs p.2.natAbs=cD a.natAbs b.natAbs]) (λp=>[(0,.iqz p.1),(1,.iqz p.2)]) bh (λp=>p.2.natAbs) bh)]
  ) (λ(_,_)=>⟨_,rfl⟩) λ(a,b) hp=>az (aC (dY a) λA=>aC (dY b) λB=>(a=a/\b=b/\dY a<=9000000000000000000/\dY b<=9000000000000000000/\cD A B=cD A B)/\
 (∀x:Prod Int Int,aC (c5 x.1 x.2) λC=>dY x.1<=9000000000000000000/\dY x.2<=9000000000000000000/\cD (dY x.1) (dY x.2)=cD A B->(¬x.2=0->x.2≠0/\x.2=x.2/\c5 x.1 x.2=c5 x.1 x.2/\dY x.snd<=9000000000000000000/\dY C<=9000000000000000000/\cD (dY x.snd) (dY C)=cD A B/\dY C<dY x.2)/\
  (¬(¬x.2=0)->aJ (0-x.1)/\Max.max x.1 (0-x.1)=cD A B))) (by kernel_rfl) (by
  change-9000000000000000000<=a/\a<=9000000000000000000/\ -9000000000000000000<=b/\b<=9000000000000000000 at hp;have e1:∀x y:Int,cD y.natAbs (c5 x y).natAbs=cD x.natAbs y.natAbs:=λx y=>by rw[Iw,Ix,<-Nat.gcd_rec,Ix]
  have e2:∀x y:Int,¬y=0->(c5 x y).natAbs<y.natAbs:=λx y h=>by rw[Iw];exact bw _ (by omega)
  have e3:∀(x y:Int) (g:Nat),cD x.natAbs y.natAbs=g->¬¬y=0->max x (0-x)=(g:Int):=λx y g h h2=>by rw[th h2]at h;grind
  repeat' first|with_reducible apply cM|with_reducible intro
  all_goals repeat with_reducible cases‹_/\_›
  all_goals first|rfl|with_reducible solve_by_elim|(rw[e1];assumption)|exact trivial|exact nb ‹_› |exact nb' ‹_› |omega|exact i5 (by omega)|(unfold ix;omega)|(unfold aJ;omega)|exact ir _|exact cT ‹_› ‹_› |(refine cT ‹_› ?_;simp_all;done)|grind|grind)
noncomputable def Qh:=QZ.adk aB0
noncomputable def aDo:Con:=con (ac aT (a1 aI)) (λ(_,m)=>[0<=m,m<=1000000]) (λ(p,m)=> .bool (iX p m)
 )
def aB1:aDo.Okz 208:=bJ Qh (λ(_,_)=>[]) (λ(_,_)=>⟨_,rfl⟩) λ(p,m) hp=>az ((p.den<1->false=iX p m)/\
 (¬p.den<1->(134217728<p.den->false=iX p m)/\
  (¬134217728<p.den->aJ (m*p.den)/\0<=m*p.den/\m*p.den<=9000000000000000000/\ao ⟨p.x,p.y⟩ (m*p.den)=iX p m))) (by kernel_rfl) (by
  change 0<=m/\m<=1000000 at hp;unfold iX;have hm:¬p.den<1->¬134217728<p.den->aJ (m*p.den)/\0<=m*p.den/\m*p.den<=9000000000000000000:=λh1 h2=>by have:=gm (x:=m) (y:=p.den) (A:=1000000) (B:=134217728) (by omega) (by omega);exact⟨bW (by omega),Int.mul_nonneg hp.1 (by omega),by omega⟩
  grind)
noncomputable def Qi:=Qh.adk aB1
noncomputable def aDx:Con:=con (a1 aT) (λ_=>[]) (λp=> .bool (c6 p)
 )
def aCa:aDx.Okz 185:=bJ Qi bh (λ_=>⟨_,rfl⟩) λp _=>az (aC (cD (dY p.x) (dY p.y):Int) λC=>(0:Int)<=4000/\(4000:Int)<=1000000/\(iX p 4000=true-> -9000000000000000000<=p.x/\p.x<=9000000000000000000/\ -9000000000000000000<=p.y/\p.y<=9000000000000000000/\ -9000000000000000000<=C/\C<=9000000000000000000/\ -9000000000000000000<=p.den/\p.den<=9000000000000000000/\decide ((cD (dY C) (dY p.den):Int)=1)=c6 p)/\
 (iX p 4000=false->false=c6 p)) (by kernel_rfl) (by
  have hB:iX p 4000=true->PtB p:=λh=>by unfold iX ao at h;simp only[bn,decide_eq_true_eq]at h;unfold PtB;omega
  have hn:∀n m B:Nat,n<=B->m<=B->cD n m<=B:=λn m B h1 h2=>by
   rcases qN n with e|e
   .grind
   .exact cO (Nat.gcd_le_left m e) h1
  have hg:PtB p->cD p.x.natAbs p.y.natAbs<=600000000000:=λh=>hn _ _ _ (by unfold PtB at h;omega) (by unfold PtB at h;omega);have ht:iX p 4000=true->decide ((cD (dY (cD (dY p.x) (dY p.y):Int)) (dY p.den):Int)=1)=c6 p:=λh=>by unfold c6;grind
  with_reducible ((repeat' first|apply cM|intro);all_goals repeat cases‹_/\_›)
  all_goals first|rfl|exact ht ‹_› |(have h1:=hB ‹_›;have h2:=hg h1;unfold PtB at h1;omega)|(unfold c6;grind)|grind)
noncomputable def Qq:=Qi.adk aCa
noncomputable def aDl:Con:=con (a1 aS) (λ_=>[]) (λs=> .bool (bG s)
 )
def aBY:aDl.Okz 216:=bJ Qq bh (λ_=>⟨_,rfl⟩) λs _=>az ((0:Int)<=4000/\(4000:Int)<=9000000000000000000/\(ao s.a 4000=true->(0:Int)<=4000/\(4000:Int)<=9000000000000000000/\ao s.b 4000=bG s)/\
 (ao s.a 4000=false->false=bG s)) (by kernel_rfl) (by unfold bG;grind)
noncomputable def Qf:=Qq.adk aBY
noncomputable def aDj:Con:=con (ac aS (a1 aV)) (λ(_,_)=>[]) (λ(s,p)=> .bool (onS s p)
 )
def aBW:aDj.Okz 218:=bJ Qf (λ(_,_)=>[]) (λ(_,_)=>⟨_,rfl⟩) λ(s,p) _=>az ([s.a,s.b].length<=1000/\(bG s=true->(qL (bU [s.a,s.b] [s.a,s.b].length) p=true->bd 1000000000 s.a/\bd 1000000000 s.b/\bd 1000000000 p/\decide (turn s.a s.b p=0)=onS s p)/\
  (qL (bU [s.a,s.b] [s.a,s.b].length) p=false->false=onS s p))/\
 (bG s=false->false=onS s p)) (by kernel_rfl) (by
  have e0:qL (bU [s.a,s.b] [s.a,s.b].length) p=fW s p:=by show(decide (min (min s.a.x s.a.x) s.b.x<=p.x)&&decide (p.x<=max (max s.a.x s.a.x) s.b.x)&&decide (min (min s.a.y s.a.y) s.b.y<=p.y)&&decide (p.y<=max (max s.a.y s.a.y) s.b.y))=_;rw[Int.min_self,Int.min_self,Int.max_self,Int.max_self];rfl
  rw[e0];have hv:∀{M:Int},bG s=true->4000<=M->bd M s.a/\bd M s.b:=λh hM=>m9 (by rw[h];rfl) hM;refine⟨by simp,λh=>⟨λh2=>⟨(hv h (by decide)).1,(hv h (by decide)).2,PW (hv h (by decide)) h2,?_⟩,λh2=>by unfold onS;rw[h2];simp⟩,λh=>by unfold onS;rw[h];rfl⟩;unfold onS;grind)
noncomputable def Qd:=Qf.adk aBW
noncomputable def aDi:Con:=con (a1 aV) (λ_=>[]) (λp=> .agg [.iqz 1,.iqz p.x,.iqz p.y,.iqz 1,.iqz 0,.iqz 0,.iqz 0,.iqz 0]
 )
def aBV:aDi.Okz 219:=bJ Qd bh (λ_=>⟨_,rfl⟩) λp _=>az (aC (0:Int) λA=>aC (fD p) λB=>(1:Int)=1/\B.x=p.x/\B.y=p.y/\B.den=1/\A=0/\A=0/\A=0/\A=0) (by kernel_rfl) (by
 with_reducible ((repeat' first|apply cM|intro);all_goals repeat cases‹_/\_›)
 all_goals first|rfl|grind)
noncomputable def Qc:=Qd.adk aBV
structure Com where
 k:Int
 p:Pt
 s:S
def SQ(c:Com):SV:= .agg [.int .i64 c.k,.int .i64 c.p.x,.int .i64 c.p.y,.int .i64 c.p.den,.int .i64 c.s.a.x,.int .i64 c.s.a.y,.int .i64 c.s.b.x,.int .i64 c.s.b.y]
def cz:Com:=⟨0,⟨0,0,0⟩,⟨⟨0,0⟩,⟨0,0⟩⟩⟩
def lA(s t:S)(d:Int):Int:=if d<0 then-cross (aEy t.a s.a) (aEy t.b t.a)else cross (aEy t.a s.a) (aEy t.b t.a)
def lB(s t:S)(d:Int):Int:=if d<0 then-cross (aEy t.a s.a) (aEy s.b s.a)else cross (aEy t.a s.a) (aEy s.b s.a)
def lE(d:Int):Int:=if d<0 then-d else d
def lX(s t:S)(d:Int):Int:=s.a.x*lE d+lA s t d*(aEy s.b s.a).x
def lY(s t:S)(d:Int):Int:=s.a.y*lE d+lA s t d*(aEy s.b s.a).y
def lG(s t:S)(d:Int):Int:=((cD (cD (lX s t d).natAbs (lY s t d).natAbs:Int).natAbs (lE d).natAbs:Nat):Int)
def ja(s t:S)(d:Int):Com:=if oK s t d=0 then cz else⟨oK s t d,⟨(lX s t d).tdiv (lG s t d),(lY s t d).tdiv (lG s t d),(lE d).tdiv (lG s t d)⟩,cz.s⟩
def jO(key:Nat)(obs:List (Nat×SOb)):Nat×Ann:=(key+10000,.mk Unit (λ_ _=>some ()) [] (λ_=>[]) (λ_=>[]) (λ_=>obs) (λ_=>0) (λ_=>[]))
def aC9(c:Com):List SV:=[.int .i64 c.k,.int .i64 c.p.x,.int .i64 c.p.y,.int .i64 c.p.den,.int .i64 c.s.a.x,.int .i64 c.s.a.y,.int .i64 c.s.b.x,.int .i64 c.s.b.y]
def pO{x g B:Int}(h: -B<=x/\x<=B): -B<=x.tdiv g/\x.tdiv g<=B:=by have:=Int.natAbs_tdiv_le_natAbs x g;omega
def aAS{n m B:Nat}(h1:n<=B)(h2:m<=B):cD n m<=B:=by
 rcases qN n with e|e
 .grind
 .exact cO (Nat.gcd_le_left m e) h1
def z7{s t:S}{d:Int}(h:lA s t d<0\/lE d<lA s t d\/lB s t d<0\/lE d<lB s t d):ja s t d=cz:=if_pos (if_pos h)
def KH{s t:S}{d:Int}(h1:¬lA s t d<0)(h2:¬lE d<lA s t d)(h3:¬lB s t d<0)(h4:¬lE d<lB s t d):oK s t d=if lA s t d=0\/lA s t d=lE d\/lB s t d=0\/lB s t d=lE d then 1 else 2:=if_neg (by simp only[not_or];exact⟨h1,h2,h3,h4⟩)
def KI{s t:S}{d k:Int}(h:oK s t d=k)(hk:k≠0):ja s t d=⟨k,⟨(lX s t d).tdiv (lG s t d),(lY s t d).tdiv (lG s t d),(lE d).tdiv (lG s t d)⟩,cz.s⟩:=by unfold ja;grind
noncomputable def aDk:Con:=con (ac aS (ac aS (a1 aI))) (λ(s,t,d)=>[bG s=true,bG t=true,d≠0,-200000000<=d/\d<=200000000]) (λ(s,t,d)=>SQ (ja s t d))
def aBX:aDk.Okz 217:=bJ Qc (λ(s,t,d)=>[jU 6 [(10,.iqz (lA s t d)),(11,.iqz (lB s t d)),(2,.iqz (lE d))],(9+10000,.mk Unit (λ_ _=>some ()) [] (λ_=>[¬lA s t d<0,¬lE d<lA s t d,¬lB s t d<0,¬lE d<lB s t d]) (λ_=>[(12,.iqz (lX s t d)),(13,.iqz (lY s t d))]) bh (λ_=>0) bh),
  jU 10 [(14,.iqz (lG s t d))],jO 13 [(59,.box 175 (aC9 (ja s t d)))]]
  ) (λ(_,_,_)=>⟨_,rfl⟩) λ(s,t,d) hp=>az (aC (lE d) λA=>aC (lG s t d) λB=>aC (lX s t d) λC=>aC (lY s t d) λD=>aC (ja s t d) λE=>aC (aEy s.b s.a) λH=>aC (aEy t.a s.a) λI=>aC (aEy t.b t.a) λJ=>aC (cD (dY C) (dY D):Int) λK=>bd 1000000000 s.b/\bd 1000000000 s.a/\bd 1000000000 t.b/\bd 1000000000 t.a/\bd 1000000000 t.a/\bd 1000000000 s.a/\bd 2000000000 I/\bd 2000000000 J/\bd 2000000000 I/\bd 2000000000 H/\((d<0->aJ (0-cross I J)/\aJ (0-cross I H)/\aJ (0-d)/\0-cross I J=lA s t d/\0-cross I H=lB s t d/\0-d=lE d)/\
  (¬d<0->cross I J=lA s t d/\cross I H=lB s t d/\d=lE d))/\
 (∀y:Unit,(lA s t d<0->0=E.k/\0=E.p.x/\0=E.p.y/\0=E.p.den/\0=E.s.a.x/\0=E.s.a.y/\0=E.s.b.x/\0=E.s.b.y)/\
  (¬lA s t d<0->(lE d<lA s t d->0=E.k/\0=E.p.x/\0=E.p.y/\0=E.p.den/\0=E.s.a.x/\0=E.s.a.y/\0=E.s.b.x/\0=E.s.b.y)/\
   (¬lE d<lA s t d->(lB s t d<0->0=E.k/\0=E.p.x/\0=E.p.y/\0=E.p.den/\0=E.s.a.x/\0=E.s.a.y/\0=E.s.b.x/\0=E.s.b.y)/\
    (¬lB s t d<0->(lE d<lB s t d->0=E.k/\0=E.p.x/\0=E.p.y/\0=E.p.den/\0=E.s.a.x/\0=E.s.a.y/\0=E.s.b.x/\0=E.s.b.y)/\
     (¬lE d<lB s t d->(aJ (s.a.x*lE d)/\aJ (lA s t d*H.x)/\aJ (s.a.x*lE d+lA s t d*H.x)/\aJ (s.a.y*lE d)/\aJ (lA s t d*H.y)/\aJ (s.a.y*lE d+lA s t d*H.y)/\s.a.x*lE d+lA s t d*H.x=lX s t d/\s.a.y*lE d+lA s t d*H.y=lY s t d/\¬lA s t d<0/\¬lE d<lA s t d/\¬lB s t d<0/\¬lE d<lB s t d)/\
      (∀y_1:Unit,¬lA s t d<0/\¬lE d<lA s t d/\¬lB s t d<0/\¬lE d<lB s t d->(-9000000000000000000<=lX s t d/\lX s t d<=9000000000000000000/\ -9000000000000000000<=lY s t d/\lY s t d<=9000000000000000000/\ -9000000000000000000<=K/\K<=9000000000000000000/\ -9000000000000000000<=lE d/\lE d<=9000000000000000000/\(cD (dY K) (dY A):Int)=lG s t d)/\
       (∀y_2:Unit,lG s t d≠0/\aJ (fU C B)/\lG s t d≠0/\aJ (fU D B)/\lG s t d≠0/\aJ (fU A B)/\((lA s t d=0->1=E.k/\fU C B=E.p.x/\fU D B=E.p.y/\fU A B=E.p.den/\0=E.s.a.x/\0=E.s.a.y/\0=E.s.b.x/\0=E.s.b.y)/\
         (¬lA s t d=0->(lA s t d=lE d->1=E.k/\fU C B=E.p.x/\fU D B=E.p.y/\fU A B=E.p.den/\0=E.s.a.x/\0=E.s.a.y/\0=E.s.b.x/\0=E.s.b.y)/\
          (¬lA s t d=lE d->(lB s t d=0->1=E.k/\fU C B=E.p.x/\fU D B=E.p.y/\fU A B=E.p.den/\0=E.s.a.x/\0=E.s.a.y/\0=E.s.b.x/\0=E.s.b.y)/\
           (¬lB s t d=0->(lB s t d=lE d->1=E.k/\fU C B=E.p.x/\fU D B=E.p.y/\fU A B=E.p.den/\0=E.s.a.x/\0=E.s.a.y/\0=E.s.b.x/\0=E.s.b.y)/\
            (¬lB s t d=lE d->2=E.k/\fU C B=E.p.x/\fU D B=E.p.y/\fU A B=E.p.den/\0=E.s.a.x/\0=E.s.a.y/\0=E.s.b.x/\0=E.s.b.y)))))/\
        (∀y_3:Unit,E.k=E.k/\E.p.x=E.p.x/\E.p.y=E.p.y/\E.p.den=E.p.den/\E.s.a.x=E.s.a.x/\E.s.a.y=E.s.a.y/\E.s.b.x=E.s.b.x/\E.s.b.y=E.s.b.y))))))))) (by kernel_rfl) (by
  change bG s=true/\bG t=true/\d≠0/\(-200000000<=d/\d<=200000000)at hp;obtain⟨hs,ht,h0,hd⟩:=hp;have bs:bd 4000 s.a/\bd 4000 s.b:=m9 (by rw[hs];rfl);have bt:bd 4000 t.a/\bd 4000 t.b:=m9 (by rw[ht];rfl);have u1:=iZ bs.2 bs.1;have u2:=iZ bt.2 bt.1;have u3:=iZ bt.1 bs.1;have c1:=ms u3 u2;have c2:=ms u3 u1;have gM:∀{M:Int} {v:V},16000<=M->bd 4000 v->bd M v:=λh1 h2=>by unfold bd at*;omega
  have gN:∀{M:Int} {v:V},16000<=M->bd (4000+4000) v->bd M v:=λh1 h2=>by unfold bd at*;omega
  have a1: -128000000<=lA s t d/\lA s t d<=128000000:=by unfold lA cross;split<;>omega
  have e1: -200000000<=lE d/\lE d<=200000000:=by unfold lE;split<;>omega
  have e2:lE d≠0:=by unfold lE;split<;>omega
  have k1:aJ (0-cross (aEy t.a s.a) (aEy t.b t.a)):=bW (by unfold cross;omega);have k2:aJ (0-cross (aEy t.a s.a) (aEy s.b s.a)):=bW (by unfold cross;omega);have x1:=gm (A:=4000) (B:=200000000) bs.1.1 e1;have x2:=gm (A:=128000000) (B:=8000) a1 u1.1;have y1:=gm (A:=4000) (B:=200000000) bs.1.2 e1;have y2:=gm (A:=128000000) (B:=8000) a1 u1.2;have xB: -2000000000000<=lX s t d/\lX s t d<=2000000000000:=by unfold lX;omega
  have yB: -2000000000000<=lY s t d/\lY s t d<=2000000000000:=by unfold lY;omega
  have g1:cD (lX s t d).natAbs (lY s t d).natAbs<=2000000000000:=aAS (by omega) (by omega);have g2:lG s t d≠0:=by unfold lG;have:=Nat.gcd_pos_of_pos_right (cD (lX s t d).natAbs (lY s t d).natAbs:Int).natAbs (show 0<(lE d).natAbs by omega);omega
  have q1:=pO (g:=lG s t d) xB;have q2:=pO (g:=lG s t d) yB;have q3:=pO (g:=lG s t d) e1;have r1:aJ (s.a.x*lE d):=bW (by omega);have r2:aJ (lA s t d*(aEy s.b s.a).x):=bW (by omega);have r3:aJ (s.a.x*lE d+lA s t d*(aEy s.b s.a).x):=bW (by omega);have r4:aJ (s.a.y*lE d):=bW (by omega);have r5:aJ (lA s t d*(aEy s.b s.a).y):=bW (by omega);have r6:aJ (s.a.y*lE d+lA s t d*(aEy s.b s.a).y):=bW (by omega);have r7:aJ ((lX s t d).tdiv (lG s t d)):=bW (by omega);have r8:aJ ((lY s t d).tdiv (lG s t d)):=bW (by omega);have r9:aJ ((lE d).tdiv (lG s t d)):=bW (by omega);have r10:aJ (0-d):=bW (by omega);have f1:d<0->0-cross (aEy t.a s.a) (aEy t.b t.a)=lA s t d:=λh=>by unfold lA;omega
  have f2:d<0->0-cross (aEy t.a s.a) (aEy s.b s.a)=lB s t d:=λh=>by unfold lB;omega
  have f3:d<0->0-d=lE d:=λh=>by unfold lE;omega
  have f4:¬d<0->cross (aEy t.a s.a) (aEy t.b t.a)=lA s t d:=λh=>by unfold lA;rw[if_neg h]
  have f5:¬d<0->cross (aEy t.a s.a) (aEy s.b s.a)=lB s t d:=λh=>by unfold lB;rw[if_neg h]
  have f6:¬d<0->d=lE d:=λh=>by unfold lE;rw[if_neg h]
  have n1:lA s t d<0->ja s t d=cz:=λh=>z7 (.inl h);have n2:lE d<lA s t d->ja s t d=cz:=λh=>z7 (.inr (.inl h));have n3:lB s t d<0->ja s t d=cz:=λh=>z7 (.inr (.inr (.inl h)));have n4:lE d<lB s t d->ja s t d=cz:=λh=>z7 (.inr (.inr (.inr h)));have t0:¬lA s t d<0->¬lE d<lA s t d->¬lB s t d<0->¬lE d<lB s t d->lA s t d=0\/lA s t d=lE d\/lB s t d=0\/lB s t d=lE d->ja s t d=⟨1,⟨(lX s t d).tdiv (lG s t d),(lY s t d).tdiv (lG s t d),(lE d).tdiv (lG s t d)⟩,cz.s⟩:=λh1 h2 h3 h4 h=>KI (by rw[KH h1 h2 h3 h4,if_pos h]) (by decide);have t1:¬lA s t d<0->¬lE d<lA s t d->¬lB s t d<0->¬lE d<lB s t d->¬(lA s t d=0\/lA s t d=lE d\/lB s t d=0\/lB s t d=lE d)->ja s t d=⟨2,⟨(lX s t d).tdiv (lG s t d),(lY s t d).tdiv (lG s t d),(lE d).tdiv (lG s t d)⟩,cz.s⟩:=λh1 h2 h3 h4 h=>KI (by rw[KH h1 h2 h3 h4,if_neg h]) (by decide);have b1:=gM (M:=1000000000) (by decide) bs.1;have b2:=gM (M:=1000000000) (by decide) bs.2;have b3:=gM (M:=1000000000) (by decide) bt.1;have b4:=gM (M:=1000000000) (by decide) bt.2;have b5:=gN (M:=2000000000) (by decide) u1;have b6:=gN (M:=2000000000) (by decide) u2;have b7:=gN (M:=2000000000) (by decide) u3;have hX: -9000000000000000000<=lX s t d/\lX s t d<=9000000000000000000:=by omega
  have hY: -9000000000000000000<=lY s t d/\lY s t d<=9000000000000000000:=by omega
  have hE: -9000000000000000000<=lE d/\lE d<=9000000000000000000:=by omega
  have hG1: -9000000000000000000<=((cD (lX s t d).natAbs (lY s t d).natAbs:Nat):Int):=by omega
  have hG2:((cD (lX s t d).natAbs (lY s t d).natAbs:Nat):Int)<=9000000000000000000:=by omega
  clear hs ht h0 hd bs bt u1 u2 u3 c1 c2 gM gN a1 e1 e2 x1 x2 y1 y2 xB yB g1 q1 q2 q3;obtain⟨hX1,hX2⟩:=hX;obtain⟨hY1,hY2⟩:=hY;obtain⟨hE1,hE2⟩:=hE
  with_reducible ((repeat' first|apply cM|intro);all_goals repeat cases‹_/\_›)
  all_goals first|assumption|rfl|exact f1 ‹_› |exact f2 ‹_› |exact f3 ‹_› |exact f4 ‹_› |exact f5 ‹_› |exact f6 ‹_› |(rw[n1 ‹_›];rfl)|(rw[n2 ‹_›];rfl)|(rw[n3 ‹_›];rfl)|(rw[n4 ‹_›];rfl)|(rw[t0 ‹_› ‹_› ‹_› ‹_› (.inl ‹_›)] <;>rfl)|(rw[t0 ‹_› ‹_› ‹_› ‹_› (.inr (.inl ‹_›))] <;>rfl)|(rw[t0 ‹_› ‹_› ‹_› ‹_› (.inr (.inr (.inl ‹_›)))] <;>rfl)|(rw[t0 ‹_› ‹_› ‹_› ‹_› (.inr (.inr (.inr ‹_›)))] <;>rfl)|(rw[t1 ‹_› ‹_› ‹_› ‹_› (λh=>h.elim ‹_› λh=>h.elim ‹_› λh=>h.elim ‹_› ‹_›)] <;>rfl))
noncomputable def Qe:=Qc.adk aBX
def v2(v:V):List SV:=[.int .i64 v.x,.int .i64 v.y]
def tJ(v:V):Com:=⟨1,fD v,cz.s⟩
def mH(s t:S):Int:=cross (aEy s.b s.a) (aEy t.b t.a)
def nI(s t:S):Com:=
 if cE (eT s t) (fM s t)=0 then tJ (eT s t)
 else if cE (eT s t) (fM s t)= -1 then⟨3,⟨0,0,0⟩,⟨eT s t,fM s t⟩⟩
 else cz
def mb1(s t:S):Bool:=decide (s.a=s.b)&&onS t s.a
def mb3(s t:S):Bool:=decide (s.a=s.b)||(decide (t.a=t.b)||decide (¬turn s.a s.b t.a=0))
def dt(s t:S):Com:=
 if(!bG s)=true then cz
 else if(!bG t)=true then cz
 else if¬mH s t=0 then ja s t (mH s t)
 else if mb1 s t=true then tJ s.a
 else if mb1 t s=true then tJ t.a
 else if mb3 s t=true then cz
 else nI s t
noncomputable def aDt:Con:=con (ac aS (a1 aS)) (λ(_,_)=>[]) (λ(s,t)=>SQ (dt s t))
def aB6:aDt.Okz 199:=bJ Qe (λ(s,t)=>[jb 7 36 (mb1 s t),jb 9 51 (mb1 t s),jb 11 66 (mb3 s t),jP 12 [dt s t=nI s t],lU 14 3,jO 18 [(34,.box 189 (v2 (loS s)++v2 (hiS s)++v2 (loS t)++v2 (hiS t)))],jO 21 [(40,.box 44 (v2 (eT s t)))],jO 23 [(41,.box 44 (v2 (fM s t)))]]
  ) (λ(_,_)=>⟨_,rfl⟩) λ(s,t) _=>az (aC (dt s t) λA=>aC (loS s) λB=>aC (hiS s) λC=>aC (loS t) λD=>aC (hiS t) λE=>aC (0+2:Int) λF=>aC (!bG s) λG=>aC (!bG t) λH=>aC (aEy s.b s.a) λI=>aC (aEy t.b t.a) λJ=>aC (ja s t (cross I J)) λL=>aC (eT s t) λM=>aC (fM s t) λN=>aC (0+2+2:Int) λO=>(G=true->0=A.k/\0=A.p.x/\0=A.p.y/\0=A.p.den/\0=A.s.a.x/\0=A.s.a.y/\0=A.s.b.x/\0=A.s.b.y)/\
 (G=false->(H=true->0=A.k/\0=A.p.x/\0=A.p.y/\0=A.p.den/\0=A.s.a.x/\0=A.s.a.y/\0=A.s.b.x/\0=A.s.b.y)/\
  (H=false->bd 1000000000 s.b/\bd 1000000000 s.a/\bd 1000000000 t.b/\bd 1000000000 t.a/\bd 2000000000 I/\bd 2000000000 J/\(¬cross I J=0->bG s=true/\bG t=true/\cross I J≠0/\(-200000000<=cross I J/\cross I J<=200000000)/\L.k=A.k/\L.p.x=A.p.x/\L.p.y=A.p.y/\L.p.den=A.p.den/\L.s.a.x=A.s.a.x/\L.s.a.y=A.s.a.y/\L.s.b.x=A.s.b.x/\L.s.b.y=A.s.b.y)/\
   (¬(¬cross I J=0)->(((s.a=s.b->onS t s.a=mb1 s t)/\
      (¬s.a=s.b->false=mb1 s t))/\
     (∀y:Unit,(mb1 s t=true->1=A.k/\s.a.x=A.p.x/\s.a.y=A.p.y/\1=A.p.den/\0=A.s.a.x/\0=A.s.a.y/\0=A.s.b.x/\0=A.s.b.y)/\
      (mb1 s t=false->((t.a=t.b->onS s t.a=mb1 t s)/\
        (¬t.a=t.b->false=mb1 t s))/\
       (∀y_1:Unit,(mb1 t s=true->1=A.k/\t.a.x=A.p.x/\t.a.y=A.p.y/\1=A.p.den/\0=A.s.a.x/\0=A.s.a.y/\0=A.s.b.x/\0=A.s.b.y)/\
        (mb1 t s=false->((s.a=s.b->true=mb3 s t)/\
          (¬s.a=s.b->(t.a=t.b->true=mb3 s t)/\
           (¬t.a=t.b->bd 1000000000 s.a/\bd 1000000000 s.b/\bd 1000000000 t.a/\decide (¬turn s.a s.b t.a=0)=mb3 s t)))/\
         (∀y_2:Unit,(mb3 s t=true->0=A.k/\0=A.p.x/\0=A.p.y/\0=A.p.den/\0=A.s.a.x/\0=A.s.a.y/\0=A.s.b.x/\0=A.s.b.y)/\
          (mb3 s t=false->dt s t=nI s t)))))))/\
    (∀y:Unit,dt s t=nI s t->(((0:Int)<4->aJ (0+1)/\ix (0+1) 4/\ix 0 4/\(bg s.b s.a=true->aJ (0+1)/\aJ (0+1)/\ix (0+1) 4/\ix 0 4/\ix 0 4/\ix (0+1) 4/\aJ (0+2)/\(F<4->aJ (0+2+1)/\ix (0+2+1) 4/\ix (0+2) 4/\(bg t.b t.a=true->aJ (0+2+1)/\aJ (0+2+1)/\ix (0+2+1) 4/\ix (0+2) 4/\ix (0+2) 4/\ix (0+2+1) 4/\aJ (0+2+2)/\(O<4->aJ (0+2+2+1)/\ix (0+2+2+1) 4/\False)/\
          (¬O<4->s.b.x=B.x/\s.b.y=B.y/\s.a.x=C.x/\s.a.y=C.y/\t.b.x=D.x/\t.b.y=D.y/\t.a.x=E.x/\t.a.y=E.y))/\
         (bg t.b t.a=false->aJ (0+2+2)/\(O<4->aJ (0+2+2+1)/\ix (0+2+2+1) 4/\False)/\
          (¬O<4->s.b.x=B.x/\s.b.y=B.y/\s.a.x=C.x/\s.a.y=C.y/\t.a.x=D.x/\t.a.y=D.y/\t.b.x=E.x/\t.b.y=E.y)))/\
        (¬F<4->s.b.x=B.x/\s.b.y=B.y/\s.a.x=C.x/\s.a.y=C.y/\t.a.x=D.x/\t.a.y=D.y/\t.b.x=E.x/\t.b.y=E.y))/\
       (bg s.b s.a=false->aJ (0+2)/\(F<4->aJ (0+2+1)/\ix (0+2+1) 4/\ix (0+2) 4/\(bg t.b t.a=true->aJ (0+2+1)/\aJ (0+2+1)/\ix (0+2+1) 4/\ix (0+2) 4/\ix (0+2) 4/\ix (0+2+1) 4/\aJ (0+2+2)/\(O<4->aJ (0+2+2+1)/\ix (0+2+2+1) 4/\False)/\
          (¬O<4->s.a.x=B.x/\s.a.y=B.y/\s.b.x=C.x/\s.b.y=C.y/\t.b.x=D.x/\t.b.y=D.y/\t.a.x=E.x/\t.a.y=E.y))/\
         (bg t.b t.a=false->aJ (0+2+2)/\(O<4->aJ (0+2+2+1)/\ix (0+2+2+1) 4/\False)/\
          (¬O<4->s.a.x=B.x/\s.a.y=B.y/\s.b.x=C.x/\s.b.y=C.y/\t.a.x=D.x/\t.a.y=D.y/\t.b.x=E.x/\t.b.y=E.y)))/\
        (¬F<4->s.a.x=B.x/\s.a.y=B.y/\s.b.x=C.x/\s.b.y=C.y/\t.a.x=D.x/\t.a.y=D.y/\t.b.x=E.x/\t.b.y=E.y)))/\
      (¬(0:Int)<4->s.a.x=B.x/\s.a.y=B.y/\s.b.x=C.x/\s.b.y=C.y/\t.a.x=D.x/\t.a.y=D.y/\t.b.x=E.x/\t.b.y=E.y))/\
     (∀y_1:Unit,ix 0 4/\ix 1 4/\(ix 2 4/\(bg B D=true->ix 2 4/\D.x=M.x/\D.y=M.y)/\
       (bg B D=false->B.x=M.x/\B.y=M.y))/\
      (∀y_2:Unit,(ix 3 4/\(bg E C=true->ix 3 4/\E.x=N.x/\E.y=N.y)/\
        (bg E C=false->C.x=N.x/\C.y=N.y))/\
       (∀y_3:Unit,(cE M N=0->1=A.k/\M.x=A.p.x/\M.y=A.p.y/\1=A.p.den/\0=A.s.a.x/\0=A.s.a.y/\0=A.s.b.x/\0=A.s.b.y)/\
        (¬cE M N=0->(cE M N= -1->3=A.k/\0=A.p.x/\0=A.p.y/\0=A.p.den/\M.x=A.s.a.x/\M.y=A.s.a.y/\N.x=A.s.b.x/\N.y=A.s.b.y)/\
         (¬cE M N= -1->0=A.k/\0=A.p.x/\0=A.p.y/\0=A.p.den/\0=A.s.a.x/\0=A.s.a.y/\0=A.s.b.x/\0=A.s.b.y)))))))))) (by kernel_rfl) (by
  have gB:(!bG s)=false->(!bG t)=false-> -200000000<=mH s t/\mH s t<=200000000:=λh1 h2=>by have bs:bd 4000 s.a/\bd 4000 s.b:=m9 h1;have bt:bd 4000 t.a/\bd 4000 t.b:=m9 h2;have c1:=ms (iZ bs.2 bs.1) (iZ bt.2 bt.1);unfold mH cross;omega
  have gM:∀{r:S} {M:Int},8000<=M->(!bG r)=false->bd M r.a/\bd M r.b/\bd M (aEy r.b r.a):=λhM h=>by have b:=m9 h (M:=4000);have c:=iZ b.2 b.1;unfold bd at*;omega
  have e1:(!bG s)=true->dt s t=cz:=λh=>if_pos h;have e2:(!bG t)=true->dt s t=cz:=λh=>by unfold dt;grind
  have e3:(!bG s)=false->(!bG t)=false->¬mH s t=0->dt s t=ja s t (mH s t):=λh1 h2 h3=>by unfold dt;grind
  have e4:(!bG s)=false->(!bG t)=false->¬¬mH s t=0->mb1 s t=true->dt s t=tJ s.a:=λh1 h2 h3 h4=>by unfold dt;grind
  have e5:(!bG s)=false->(!bG t)=false->¬¬mH s t=0->mb1 s t=false->mb1 t s=true->dt s t=tJ t.a:=λh1 h2 h3 h4 h5=>by unfold dt;grind
  have e6:(!bG s)=false->(!bG t)=false->¬¬mH s t=0->mb1 s t=false->mb1 t s=false->mb3 s t=true->dt s t=cz:=λh1 h2 h3 h4 h5 h6=>by unfold dt;grind
  have e7:(!bG s)=false->(!bG t)=false->¬¬mH s t=0->mb1 s t=false->mb1 t s=false->mb3 s t=false->dt s t=nI s t:=λh1 h2 h3 h4 h5 h6=>by unfold dt;grind
  have e8:dt s t=nI s t->cE (eT s t) (fM s t)=0->dt s t=tJ (eT s t):=λh h1=>by rw[h];exact if_pos h1
  have e9:dt s t=nI s t->¬cE (eT s t) (fM s t)=0->cE (eT s t) (fM s t)= -1->dt s t=⟨3,⟨0,0,0⟩,⟨eT s t,fM s t⟩⟩:=λh h1 h2=>by rw[h];unfold nI;grind
  have e10:dt s t=nI s t->¬cE (eT s t) (fM s t)=0->¬cE (eT s t) (fM s t)= -1->dt s t=cz:=λh h1 h2=>by rw[h];unfold nI;grind
  have q1:s.a=s.b->true=mb3 s t:=λh=>by unfold mb3;grind
  have q2:t.a=t.b->true=mb3 s t:=λh=>by unfold mb3;grind
  have q3:¬s.a=s.b->¬t.a=t.b->decide (¬turn s.a s.b t.a=0)=mb3 s t:=λh1 h2=>by unfold mb3;grind
  have q4:∀{s t:S},s.a=s.b->onS t s.a=mb1 s t:=λh=>by unfold mb1;grind
  have q5:∀{s t:S},¬s.a=s.b->false=mb1 s t:=λh=>by unfold mb1;grind
  have w1:∀{r:S},bg r.b r.a=true->r.b=loS r/\r.a=hiS r:=λh=>by unfold loS hiS;grind
  have w2:∀{r:S},bg r.b r.a=false->r.a=loS r/\r.b=hiS r:=λh=>by unfold loS hiS;grind
  have w3:bg (loS s) (loS t)=true->loS t=eT s t:=λh=>by unfold eT;rw[h];rfl
  have w4:bg (loS s) (loS t)=false->loS s=eT s t:=λh=>by unfold eT;rw[h];rfl
  have w5:bg (hiS t) (hiS s)=true->hiS t=fM s t:=λh=>by unfold fM;rw[h];rfl
  have w6:bg (hiS t) (hiS s)=false->hiS s=fM s t:=λh=>by unfold fM;rw[h];rfl
  with_reducible ((repeat' first|apply cM|intro);all_goals repeat cases‹_/\_›)
  all_goals first|assumption|rfl|(unfold ix;omega)|(unfold aJ;omega)|omega|exact nb ‹_› |exact q1 ‹_› |exact q2 ‹_› |exact q3 ‹_› ‹_› |exact q4 ‹_› |exact q5 ‹_› |(rw[e1 ‹_›] <;>rfl)|(rw[e2 ‹_›] <;>rfl)|(rw[e3 ‹_› ‹_› ‹_›] <;>rfl)|(rw[e4 ‹_› ‹_› ‹_› ‹_›] <;>rfl)|(rw[e5 ‹_› ‹_› ‹_› ‹_› ‹_›] <;>rfl)|(rw[e6 ‹_› ‹_› ‹_› ‹_› ‹_› ‹_›] <;>rfl)|exact e7 ‹_› ‹_› ‹_› ‹_› ‹_› ‹_› |(rw[e8 ‹_› ‹_›] <;>rfl)|(rw[e9 ‹_› ‹_› ‹_›] <;>rfl)|(rw[e10 ‹_› ‹_› ‹_›] <;>rfl)|exact(gB ‹_› ‹_›).1|exact(gB ‹_› ‹_›).2|exact(gM (by decide) ‹_›).1|exact(gM (by decide) ‹_›).2.1|exact(gM (by decide) ‹_›).2.2|(rw[<-(w1 ‹_›).1];done)|(rw[<-(w1 ‹_›).2];done)|(rw[<-(w2 ‹_›).1];done)|(rw[<-(w2 ‹_›).2];done)|(rw[w3 ‹_›];done)|(rw[w4 ‹_›];done)|(rw[w5 ‹_›];done)|(rw[w6 ‹_›];done))
noncomputable def Qm:=Qe.adk aB6
def YC(s t:S)(d:Int):(ja s t d).k=oK s t d:=by
 unfold ja;split
 .rename_i h;rw[h];rfl
 .rfl
def Zc(s t:S):(dt s t).k=cC s t:=by
 have hc:(cz).k=0:=rfl;have h1:∀v,(tJ v).k=1:=λ_=>rfl;have e1:mb1 s t=true↔s.a=s.b/\onS t s.a=true:=by unfold mb1;simp
 have e2:mb1 t s=true↔t.a=t.b/\onS s t.a=true:=by unfold mb1;simp
 have e3:mb3 s t=true↔s.a=s.b\/t.a=t.b\/turn s.a s.b t.a≠0:=by unfold mb3;simp
 unfold dt cC nI;rw[<-mH];simp only[<-e1,<-e2,<-e3];cases bG s<;>cases bG t<;>simp only[Bool.not_true,Bool.not_false,Bool.and_true,Bool.and_false,if_true,Bool.false_eq_true,if_false,hc,ne_eq]
 repeat' split
 all_goals first|rfl|exact YC _ _ _
noncomputable def aDU:Con:=con (ac aS (a1 aS)) (λ(_,_)=>[]) (λ(s,t)=> .iqz (cC s t)
 )
def aCx:aDU.Okz 156:=bJ Qm (λ(_,_)=>[]) (λ(_,_)=>⟨_,rfl⟩) λ(s,t) _=>az ((dt s t).k=cC s t) (by kernel_rfl) (by exact Zc s t)
noncomputable def RE:=Qm.adk aCx
noncomputable def aDW:Con:=con (ac (aL .V) (a1 aN)) (λ(r,i)=>[i<r.length,r.length<=1000000]) (λ(r,i)=>aV.enc (prv r i)
 )
def aCz:aDW.Okz 153:=bJ RE (λ(_,_)=>[]) (λ(_,_)=>⟨_,rfl⟩) λ(r,i) hp=>az (aJ ((i:Int)+r.length)/\aJ ((i:Int)+r.length-1)/\(r.length:Int)≠0/\ix (c5 ((i:Int)+r.length-1) (r.length:Int)) r.length/\(aEv r (c5 ((i:Int)+r.length-1) (r.length:Int)).toNat).x=(prv r i).x/\(aEv r (c5 ((i:Int)+r.length-1) (r.length:Int)).toNat).y=(prv r i).y) (by kernel_rfl) (by
 change i<r.length/\r.length<=1000000 at hp;have h:c5 ((i:Int)+r.length-1) (r.length:Int)=(((i+r.length-1) % r.length:Nat):Int):=by rw[show(i:Int)+r.length-1=((i+r.length-1:Nat):Int) by omega,<-Int.ofNat_tmod]
 rw[h];exact⟨bW (by omega),bW (by omega),by omega,i5 (by omega),rfl,rfl⟩)
noncomputable def RH:=RE.adk aCz
noncomputable def aDV:Con:=con (ac (aL .V) (a1 aN)) (λ(r,i)=>[i<r.length,r.length<=1000000]) (λ(r,i)=>aV.enc (nxt r i)
 )
def aCy:aDV.Okz 154:=bJ RH (λ(_,_)=>[]) (λ(_,_)=>⟨_,rfl⟩) λ(r,i) hp=>az (aC ((i+1) % r.length) λA=>aJ ((i:Int)+1)/\(r.length:Int)≠0/\ix (((i+1) % r.length:Nat):Int) r.length/\(aEv r A).x=(nxt r i).x/\(aEv r A).y=(nxt r i).y) (by kernel_rfl) (by change i<r.length/\r.length<=1000000 at hp;exact⟨bW (by omega),by omega,i5 (by omega),rfl,rfl⟩)
noncomputable def RG:=RH.adk aCy
noncomputable def SI:Con:=IF (a1 (aL .V)) (λr=>[r.length<=1000]) 46 .S (λr=>aH r) (λ_=>[])
def R8:SI.Okz 155:=Ox (qC RG.o) (raw:=vD) (λr=>[lp 5 11 r.length bh [21] (λk=>[(3,.own 21 .S k)]) (λk=>[(21,.row 46 .S ((aH r).take k))])]
  ) (λ_=>⟨[],rfl⟩) λr hp=>az (aC (aH r) λB=>aC (r.length:Int) λG=>aC ([] :List S) λH=>(G<2->aH r=H)/\
 (¬G<2->(0=(0:Int)/\(0:Nat)=0/\bD 0 B=H/\(0:Nat)<=r.length)/\
  (∀x:Nat,aC (x:Int) λA=>aC (bD x B) λE=>aC (⟨(aEv r x),(nxt r x)⟩:S) λF=>x<=r.length->(A<r.length->ix A r.length/\x<r.length/\r.length<=1000000/\x=E.length/\E.length+[F].length<=1000000/\aJ (A+1)/\A+1=((x+1:Nat):Int)/\(bD x B++[F]).length=x+1/\bD x B++[F] =bD (x+1) B/\x+1<=r.length/\r.length-(x+1)<r.length-x)/\
   (¬A<r.length->bD x B=aH r/\x=E.length)))) (by kernel_rfl) (by
  change r.length<=1000 at hp;have e0:(r.length:Int)<2->aH r=[] :=λh=>by unfold aH;grind
  have e1:¬(r.length:Int)<2->(aH r).length=r.length:=λh=>wU r (by omega);have e2:¬(r.length:Int)<2->∀x:Nat,(x:Int)<r.length->bD x (aH r)++[⟨aEv r x,nxt r x⟩] =bD (x+1) (aH r):=λh x hx=>by
   have hx':x<(aH r).length:=by rw[e1 h];omega
   rw[kw hx',<-jH hx',w7 (by omega) (by omega)];rfl
  have e3:¬(r.length:Int)<2->∀x:Nat,x<=r.length->(bD x (aH r)).length=x:=λh x hx=>by grind
  have e4:¬(r.length:Int)<2->∀x:Nat,¬(x:Int)<r.length->bD x (aH r)=aH r:=λh x hx=>ip (by omega)
  with_reducible ((repeat' first|apply cM|intro);all_goals repeat cases‹_/\_›)
  all_goals grind)
noncomputable def RF:=RG.adk R8
noncomputable def aDX:Con:=con (a1 (aL .V)) (λr=>[near r=true,r.length<=100000]) (λr=> .iqz (area r))
def aCA:aDX.Okz 152:=bJ RF (λr=>[lp 3 8 r.length bh [] (λk=>[(3,.iqz (ar r k))]) bh]
  ) (λ_=>⟨_,rfl⟩) λr hp=>az ((0=(0:Int)/\0=ar r 0/\(0:Nat)<=r.length)/\
 (∀x:Nat,aC (x:Int) λA=>aC (aEv r x) λB=>aC (nxt r x) λC=>x<=r.length->(A<r.length->ix A r.length/\x<r.length/\r.length<=1000000/\bd 2000000000 B/\bd 2000000000 C/\aJ (ar r x+cross B C)/\aJ (A+1)/\A+1=((x+1:Nat):Int)/\ar r x+cross B C=ar r (x+1)/\x+1<=r.length/\r.length-(x+1)<r.length-x)/\
  (¬A<r.length->ar r x=area r))) (by kernel_rfl) (by
  change near r=true/\r.length<=100000 at hp;have hn:=λi hi=> @mx r hp.1 i hi 2000000000;have ha:=λk (hk:k<=r.length)=>vN hp.1 k hk;have hs:=BC r;have hE:∀x:Nat,¬(x:Int)<r.length->x<=r.length->ar r x=area r:=λx h1 h2=>by rw[show x=r.length by omega];rfl
  have hI:∀x:Nat,(x:Int)<r.length->aJ (ar r x+cross (aEv r x) (nxt r x)):=λx h=>by have h1:=ha (x+1) (by omega);rw[hs x]at h1;exact bW (by unfold nxt;omega)
  with_reducible ((repeat' first|apply cM|intro);all_goals repeat cases‹_/\_›)
  all_goals first|rfl|with_reducible solve_by_elim|exact hn _ (by omega) (by decide)|exact hn _ (bw _ (by omega)) (by decide)|exact(hs _).symm|grind)
noncomputable def RI:=RF.adk aCA
noncomputable def aDu:Con:=con (a1 aV) (λ_=>[]) (λv=> .bool (!ao v 2000)
 )
def aB7:aDu.Okz 198:=bJ RI bh (λ_=>⟨_,rfl⟩) λv _=>az (aC (!ao v 2000) λA=>(0:Int)<=2000/\(2000:Int)<=9000000000000000000/\A=A) (by kernel_rfl) (by grind)
noncomputable def Qn:=RI.adk aB7
def aF(f:Nat):Ar Unit where
 enc _:= .fnp f [] []
 dec s:=match s with
  | .fnp g [] [] =>(match bF g f with|true=>some ()|false=>none)
  |_=>none
 ok s a h:=by
  split at h
  .split at h<;>cases h;simp_all
  .cases h
 pl _:=⟨_,rfl⟩
def fI{α:Type}(q:α->Bool)(l:List α):Int:=match l.findIdx? q with
 |some i=>(i:Int)
 |none=> -1
def qB{t:LT}{l:List t.ty}{q:t.ty->Bool}{k:Nat}(hk:k<l.length)(h:q (t.nth l k)=true)(hu:aM (λj=>q (t.nth l j)=false) k):(k:Int)=fI q l:=by
 have e:l.findIdx? q=some k:=by rw[List.findIdx?_eq_some_iff_getElem];refine⟨hk,by rw[<-t.nth_eq l hk];exact h,λj hj=> ?_⟩;have:=hu j hj;dsimp only at this;rw[t.nth_eq l (by omega)]at this;rw[this];simp
 unfold fI;rw[e]
def sf{t:LT}{l:List t.ty}{q:t.ty->Bool}(hu:aM (λj=>q (t.nth l j)=false) l.length): -1=fI q l:=by
 have e:l.findIdx? q=none:=by rw[List.findIdx?_eq_none_iff];intro x hx;obtain⟨j,hj,rfl⟩:=jm hx;have:=hu j hj;dsimp only at this;rwa[t.nth_eq l hj]at this
 unfold fI;rw[e]
def ur{α:Type}(q:α->Bool)(l:List α):decide (0<=fI q l)=l.any q:=by unfold fI;grind
noncomputable def aDm:Con:=con (ac (aL .V) (a1 (aF 198))) (λ(l,_)=>[l.length<=1000000]) (λ(l,_)=> .iqz (fI (λv=> !ao v 2000) l))
def aBZ:aDm.Okz 215:=bJ Qn (λ(l,_)=>[cnt 2 8 l.length (aM λj=>(!ao (aEv l j) 2000)=false)]
  ) (λ(_,_)=>⟨_,rfl⟩) λ(l,u) hp=>az ((0=(0:Int)/\(0:Nat)<=l.length/\aM (λj=>(!ao (aEv l j) 2000)=false) 0)/\
 (∀x:Nat,aC (x:Int) λA=>aC (!ao (aEv l x) 2000) λB=>x<=l.length/\aM (λj=>(!ao (aEv l j) 2000)=false) x->(A<l.length->ix A l.length/\(B=true->A=fI (λv=>(!ao v 2000)) l)/\
   (B=false->aJ (A+1)/\A+1=((x+1:Nat):Int)/\x+1<=l.length/\aM (λj=>(!ao (aEv l j) 2000)=false) (x+1)/\l.length-(x+1)<l.length-x))/\
  (¬A<l.length-> -1=fI (λv=>(!ao v 2000)) l))) (by kernel_rfl) (by
  change l.length<=1000000 at hp
  with_reducible ((repeat' first|apply cM|intro);all_goals repeat cases‹_/\_›)
  all_goals first|rfl|exact qB (t:= .V) (by omega) ‹_› ‹_› |(obtain rfl:_=l.length:=ti ‹_› (by omega);exact sf (t:= .V) ‹_›)|grind)
noncomputable def Qg:=Qn.adk aBZ
noncomputable def aDv:Con:=con (ac (aL .V) (a1 (aF 198))) (λ(l,_)=>[l.length<=1000000]) (λ(l,_)=> .bool (l.any λv=> !ao v 2000)
 )
def aB8:aDv.Okz 197:=bJ Qg (λ(_,_)=>[]) (λ(_,_)=>⟨_,rfl⟩) λ(l,u) hp=>az (l.length<=1000000/\decide (0<=fI (λv=>(!ao v 2000)) l)=fo l (λv=>(!ao v 2000))) (by kernel_rfl) (by change l.length<=1000000 at hp;exact⟨hp,ur _ _⟩)
noncomputable def Qo:=Qg.adk aB8
noncomputable def aDY:Con:=con (a1 (aL .V)) (λl=>[l.length<=1000000]) (λl=> .bool (near l)
 )
def aCB:aDY.Okz 151:=bJ Qo bh (λ_=>⟨_,rfl⟩) λl hp=>az (l.length<=1000000/\(!fo l (λv=>(!ao v 2000)))=near l) (by kernel_rfl) (by change l.length<=1000000 at hp;refine⟨hp,?_⟩;unfold near;grind)
noncomputable def RJ:=Qo.adk aCB
def tP(r:aE)(i:Nat):Prop:=¬turn (prv r i) (aEv r i) (nxt r i)=0
def fw(r:aE)(i k:Nat):Bool:=(decide (¬(k:Int)=i+1)&&(decide (¬(i:Int)=0)||decide (¬(k:Int)=r.length-1)))&&decide (¬cC (bO r i) (bO r k)=0)
def up2{p:Nat->Nat->Prop}{i k n:Nat}(h:∀j,i<j->j<k->p i j)(hk:¬(k:Int)<n):∀j,i<j->j<n->p i j:=λj h1 h2=>h j h1 (by omega)
def DO(r:aE):cV r=true↔3<=r.length/\r.length<=40/\near r=true/\0<area r/\(∀i,i<r.length->tP r i)/\(∀i k,i<k->k<r.length->fw r i k=false):=by unfold cV tP fw;simp only[bn,decide_eq_true_eq,bf,cF,jl,bne_iff_ne,beq_iff_eq,Bool.and_eq_false_imp,decide_eq_false_iff_not,ne_eq,and_assoc,Sa];grind
noncomputable def c83:Con:=con (a1 (aL .V)) (λr=>[r.length<=1000]) (λr=> .bool (cV r))
def k83:c83.Okz 83:=bJ RJ (λr=>[jP 4 [3<=r.length,r.length<=40,near r=true,0<area r],cnt 5 29 r.length (aM (tP r)),lp 12 47 r.length (λi=>[aM (λi=>∀k,i<k->k<r.length->fw r i k=false) i]) [] bh bh λi=>[(15,.mk Nat (λF _=>nH F 8) [] (λk=>[i<k,k<=r.length,∀j,i<j->j<k->fw r i j=false]) (λk=>[(8,.iqz (k:Int))]) bh (λk=>r.length-k) λk=>[jb 18 82 (fw r i k)])]]
  ) (λ_=>⟨_,rfl⟩) λr hp=>az (aC (aH r) λD=>aC (r.length:Int) λI=>((I<3->false=cV r)/\
  (¬I<3->(40<I->false=cV r)/\
   (¬40<I->r.length<=1000000/\((!near r)=true->false=cV r)/\
    ((!near r)=false->near r=true/\r.length<=100000/\(area r<=0->false=cV r)/\
     (¬area r<=0->(3:Nat)<=r.length/\r.length<=40/\near r=true/\0<area r)))))/\
 (∀y:Unit,(3:Nat)<=r.length/\r.length<=40/\near r=true/\0<area r->(0=(0:Int)/\(0:Nat)<=r.length/\aM (tP r) 0)/\
  (∀x:Nat,aC (x:Int) λA=>aC (prv r x) λE=>aC (aEv r x) λF=>aC (nxt r x) λG=>x<=r.length/\aM (tP r) x->(A<r.length->ix A r.length/\x<r.length/\r.length<=1000000/\x<r.length/\r.length<=1000000/\bd 1000000000 E/\bd 1000000000 F/\bd 1000000000 G/\(turn E F G=0->false=cV r)/\
    (¬turn E F G=0->aJ (A+1)/\A+1=((x+1:Nat):Int)/\x+1<=r.length/\aM (tP r) (x+1)/\r.length-(x+1)<r.length-x))/\
   (¬A<r.length->r.length<=1000/\(0=(0:Int)/\(0:Nat)<=r.length/\aM (λi=>∀k:Nat,i<k->k<r.length->fw r i k=false) 0)/\
    (∀x_1:Nat,aC (x_1:Int) λB=>aC (x_1+1:Nat) λH=>x_1<=r.length/\aM (λi=>∀k:Nat,i<k->k<r.length->fw r i k=false) x_1->(B<r.length->aJ (B+1)/\(B+1=(H:Int)/\x_1<x_1+1/\x_1+1<=r.length/\(∀j:Nat,x_1<j->j<x_1+1->fw r x_1 j=false))/\
      (∀x_2:Nat,aC (x_2:Int) λC=>x_1<x_2/\x_2<=r.length/\(∀j:Nat,x_1<j->j<x_2->fw r x_1 j=false)->(C<r.length->(aJ (B+1)/\(¬C=x_1+1->(¬B=0->ix B D.length/\x_1<D.length/\ix C D.length/\x_2<D.length/\decide (¬cC (bB D x_1) (bB D x_2)=0)=fw r x_1 x_2)/\
          (¬(¬B=0)->aJ (I-1)/\(¬C=r.length-1->ix B D.length/\x_1<D.length/\ix C D.length/\x_2<D.length/\decide (¬cC (bB D x_1) (bB D x_2)=0)=fw r x_1 x_2)/\
           (¬(¬C=r.length-1)->false=fw r x_1 x_2)))/\
         (¬(¬C=x_1+1)->false=fw r x_1 x_2))/\
        (∀y_1:Unit,(fw r x_1 x_2=true->false=cV r)/\
         (fw r x_1 x_2=false->aJ (C+1)/\C+1=((x_2+1:Nat):Int)/\x_1<x_2+1/\x_2+1<=r.length/\(∀j:Nat,x_1<j->j<x_2+1->fw r x_1 j=false)/\r.length-(x_2+1)<r.length-x_2)))/\
       (¬C<r.length->aJ (B+1)/\B+1=(H:Int)/\x_1+1<=r.length/\aM (λi=>∀k:Nat,i<k->k<r.length->fw r i k=false) (x_1+1)/\r.length-(x_1+1)<r.length-x_1)))/\
     (¬B<r.length->true=cV r)))))) (by kernel_rfl) (by
  change r.length<=1000 at hp;have iff:=DO r;have hf:(cV r=true->False)->false=cV r:=λh=>by grind
  have el:3<=r.length->(aH r).length=r.length:=λh=>wU r (by omega);have en:near r=true->∀i,i<r.length->bd 1000000000 (aEv r i):=λh i hi=>mx h hi;have ep:3<=r.length->∀i,i<r.length->bB (aH r) i=bO r i:=λh i hi=>w7 (by omega) hi;have hE:3<=r.length->r.length<=40->near r=true->0<area r->∀x y:Nat,¬(x:Int)<r.length->¬(y:Int)<r.length->aM (tP r) x->aM (λi=>∀k:Nat,i<k->k<r.length->fw r i k=false) y->true=cV r:=λh1 h2 h3 h4 x y hx hy h5 h6=>
   (iff.2 ⟨h1,h2,h3,h4,λi hi=>h5 i (by omega),λi k hi hk=>h6 i (by omega) k hi hk⟩).symm
  have b0:∀x y:Nat,¬(¬(y:Int)=x+1)->false=fw r x y:=λx y h=>by unfold fw;grind
  have b1:∀x y:Nat,¬(¬(x:Int)=0)->¬(¬(y:Int)=r.length-1)->false=fw r x y:=λx y h1 h2=>by unfold fw;grind
  have b2:∀x y:Nat,3<=r.length->¬(y:Int)=x+1->¬(x:Int)=0->(x:Int)<r.length->(y:Int)<r.length->decide (¬cC (bB (aH r) x) (bB (aH r) y)=0)=fw r x y:=λx y h0 h1 h2 h3 h4=>by unfold fw;grind
  have b3:∀x y:Nat,3<=r.length->¬(y:Int)=x+1->¬(y:Int)=r.length-1->(x:Int)<r.length->(y:Int)<r.length->decide (¬cC (bB (aH r) x) (bB (aH r) y)=0)=fw r x y:=λx y h0 h1 h2 h3 h4=>by unfold fw;grind
  with_reducible ((repeat' first|apply cM|intro);all_goals repeat cases‹_/\_›)
  all_goals first|assumption|rfl|exact trivial|exact nb ‹_› |exact nb' ‹_› |omega|exact i5 (by omega)|(unfold ix;omega)|(unfold aJ;omega)|exact ir _|exact cT ‹_› ‹_› |(refine cT ‹_› ?_;simp_all;done)|exact en ‹_› _ (by omega)|exact en ‹_› _ (bw _ (by omega))|(rw[el ‹_›];exact eW (by omega))|(rw[el ‹_›];omega)|exact b0 _ _ ‹_› |exact b1 _ _ ‹_› ‹_› |exact b2 _ _ ‹_› ‹_› ‹_› ‹_› ‹_› |exact b3 _ _ ‹_› ‹_› ‹_› ‹_› ‹_› |exact hE ‹_› ‹_› ‹_› ‹_› _ _ ‹_› ‹_› ‹_› ‹_› |(refine hf λh=> ?_;have h:=iff.1 h;first|omega|(have h4:=‹(!near r)=true›;rw[h.2.2.1]at h4;cases h4)|(exact absurd ‹turn _ _ _=0› (h.2.2.2.2.1 _ (by omega)))|grind)|exact cT ‹_› (show tP r _ from‹¬turn _ _ _=0›)|(intro j h1 h2;omega)|exact cT ‹_› (up2 (p:=λi k=>fw r i k=false) ‹_› ‹_›)|grind)
noncomputable def t83:=RJ.adk k83
def YP(n:Nat)(w:World)(h0:0<n)(hn:n<=100000):
  Calls ak 207 #[.slice none 0 0,.int .i64 n] w λe w'=>∃v,e= .returned v/\w'.ownsRow w.heap.size 44 2 v 0 []/\Below w.heap.size w w':=by
 have hinf:(ak.info? 44).map (λi=>(i.zero,i.size,i.bytes))=some (some (.agg #[.int .i64 0,.int .i64 0]),2,16):=by kernel_rfl
 obtain⟨i,hi1,hi2⟩:=ll.1 hinf;simp only[Prod.mk.injEq]at hi2;obtain⟨i1,i2,i3⟩:=hi2;have hold:(Builtin.firstCells i.size 0 (.slice none 0 0)).run ak w.drew= .ok ([] :List Value).toArray w.drew:=run_firstCells_none w.drew i.size 0 0 0;have hrz:∀ty,(Builtin.append_ #[23,3] ty #[.slice none 0 0,.int .i64 n]).run ak w= .ok (.slice (some ⟨w.heap.size,0,none⟩) n (grownCap w n 0 44))
   (w.drew.alloc (.cells (#[] ++Builtin.zeroCells #[.int .i64 0,.int .i64 0] n++Builtin.zeroCells #[.int .i64 0,.int .i64 0] (grownCap w n 0 44-n)) 44)):=λty=>by
  have h:=Lib.run_append_grow_zeros w 23 3 ty 44 i (.agg #[.int .i64 0,.int .i64 0]) .i64 .i64 Tryz.underlying23 pF hi1 i1 none 0 0 [] hold n h0 (by omega) (by omega) (by omega) (by grind)
   (by unfold Builtin.nextslicecap;grind)
  rw[jo]at h;exact h
 have hGn:n<=grownCap w n 0 44:=grownCap_ge w _ _ _;have hGm:=grownCap_le_maxLen w n 0 44 (by unfold maxLen;omega);obtain⟨G,hG⟩:∃G,G=grownCap w n 0 44:=⟨_,rfl⟩;rw[<-hG]at hrz hGn hGm;have hG63:G<=9223372036854775807:=by unfold maxLen at hGm;omega
 have hzc:∀m,(Builtin.zeroCells #[.int .i64 0,.int .i64 0] m).size=m*2:=by intro m;unfold Builtin.zeroCells;simp
 obtain⟨cur,hcur⟩:∃cur,cur=(#[] ++Builtin.zeroCells #[.int .i64 0,.int .i64 0] n++Builtin.zeroCells #[.int .i64 0,.int .i64 0] (G-n):Array Value):=⟨_,rfl⟩;have hcs:cur.size=G*2:=by rw[hcur];simp[hzc];omega
 rw[<-hcur]at hrz;have hrow:(w.drew.alloc (.cells cur 44)).ownsRow w.heap.size 44 2 (.slice (some ⟨w.heap.size,0,none⟩) 0 G) 0 [] :=
  ⟨by simp,.inr ⟨w.heap.size,G,cur,rfl,bX _,Blk.new w.drew 44 cur,by omega,hGm,hcs,by simp⟩⟩
 have hbl:Below w.heap.size w (w.drew.alloc (.cells cur 44)):=((Below.refl _ _).drew).alloc (bX _) _;clear hold hinf hi1 i1 i2 i3 hcur hcs hzc hG hGm
 go_enter Tryz.func207,Tryz.ntmps207
 go_wp2_with (at_builtin;refine Lib.wpList_append_run _ rfl _ _ _ _ rfl _ _ rfl rfl _ _ (hrz _) ?_)
 all_goals
  go_ret
  exact⟨_,rfl,hrow,hbl⟩
def Vu{n:Nat}(h0:0<n)(hn:n<=100000):II ak 207 [.int .i64 n] 44 2 [] 0 [] :=by
 refine⟨by kernel_rfl,by decide,λC w vs hC h=> ?_⟩;unfold ae at h;obtain⟨v,r,rfl,h1,h2⟩:=h;unfold aU at h1;unfold ae at h2;subst h1 h2;refine(YP n w h0 hn).mono ?_;rintro e w' ⟨v,rfl,⟨_,h3⟩,hb⟩;rcases h3 with⟨rfl,_⟩|⟨g,cap,cur,rfl,h4,h5,_,h6,h7,_⟩
 .exact⟨_,[],none,0,rfl,hb,by unfold ae;rfl,.inl ⟨rfl,rfl,rfl,rfl,rfl⟩⟩
 .exact⟨_,[],some g,cap,rfl,hb,by unfold ae;rfl,.inr ⟨g,cur,rfl,rfl,jS _,h4,h5,h7,jS _,h6,λi x hi=>by simp at hi⟩⟩
def IB:List SV->Option Nat
 |[.nil,.int .i64 (.ofNat n)] =>some n
 |_=>none
def Wi{s:List SV}{n:Nat}(h:IB s=some n):s=[.nil,.int .i64 (n:Int)] :=by
 unfold IB at h;split at h
 .cases h;rfl
 .cases h
def aDp:Con:=⟨Nat,IB,λn=>[0<n,n<=100000],.ownN 44 .V (λ_=>[])⟩
def aB2:aDp.Okz 207:=by intro s n hd hp;rw[Wi hd];exact⟨[.int .i64 ((show Nat from n:Nat):Int)],rfl,Vu (hp _ bo) (hp _ (bk _ bo))⟩
def aPt:Ar Pt where
 enc p:= .pro [.int .i64 p.x,.int .i64 p.y,.int .i64 p.den] 0
 dec s:=match s with
  | .pro [.int .i64 x,.int .i64 y,.int .i64 z] 0=>some ⟨x,y,z⟩
  |_=>none
 ok s a h:=by grind
 pl _:=⟨_,rfl⟩
def jPU(key:Nat)(I:List Prop)(u:Frm):Nat×Ann:=(key+10000,.mk Unit (λ_ _=>some ()) [] (λ_=>I) (λ_=>u) (λ_=>[]) (λ_=>0) (λ_=>[]))
def yZ(p:Pt)(l:List S):Bool:=l.foldl (λb s=>b !=dh s p) false
def WE{p:Pt}{l:List S}{k:Nat}(h:k<l.length):yZ p (l.take (k+1))=(yZ p (l.take k) !=dh (bB l k) p):=by unfold yZ;rw[rW,fA h,C3,jH h];rfl
def MH{p:Pt}:∀{l:List S} {k:Nat} (ins:Bool),k<l.length->(∀j,j<k->onP (bB l j) p=false)->onP (bB l k) p=true->dZ p l ins=1
 |[],k,ins,h,_,_=>by simp at h
 |s::l,0,ins,h,_,h2=>by
  unfold dZ;rw[show onP s p=true from h2];rfl
 |s::l,k+1,ins,h,h1,h2=>by
  unfold dZ;rw[show onP s p=false from h1 0 (by omega)];exact MH (l:=l) (k:=k) _ (by simpa using h) (λj hj=>h1 (j+1) (by omega)) h2
def Ko{p:Pt}:∀{l:List S} (ins:Bool),(∀j,j<l.length->onP (bB l j) p=false)->dZ p l ins=if l.foldl (λb s=>b !=dh s p) ins=true then 2 else 0
 |[],ins,_=>rfl
 |s::l,ins,h1=>by
  unfold dZ;rw[show onP s p=false from h1 0 (by simp)];exact Ko (l:=l) _ (λj hj=>h1 (j+1) (by grind))
def pb(r:aE)(p:Pt)(k:Nat):Bool:=yZ p ((aH r).take k)
def YZ{r:aE}(h:cV r=true){j:Nat}(hj:j<(aH r).length):bd 2000 (bB (aH r) j).a/\bd 2000 (bB (aH r) j).b:=Om (by rw[<-uM];exact h) hj
def cOK(a b:V):Prop:=(-4000000000000000000<=a.x*b.y/\a.x*b.y<=4000000000000000000)/\(-4000000000000000000<=a.y*b.x/\a.y*b.x<=4000000000000000000)
noncomputable def aBz:Con:=con (ac aV (a1 aV)) (λ(a,b)=>[cOK a b]) (λ(a,b)=> .iqz (cross a b)
 )
def aBn:aBz.Okz 111:=bJ t83 (λ(_,_)=>[]) (λ(_,_)=>⟨_,rfl⟩) λ(a,b) hp=>az (aJ (a.x*b.y)/\aJ (a.y*b.x)/\aJ (a.x*b.y-a.y*b.x)/\a.x*b.y-a.y*b.x=cross a b) (by kernel_rfl) (by change cOK a b at hp;unfold cOK at hp;exact⟨bW (by omega),bW (by omega),bW (by omega),rfl⟩)
noncomputable def Pz:=t83.adk aBn
noncomputable def aDw:Con:=con (ac aV (a1 aPt)) (λ(v,p)=>[PtB p,bd 10000 v]) (λ(v,p)=>aV.enc (toV p v)
 )
def aB9:aDw.Okz 186:=bJ Pz (λ(_,_)=>[]) (λ(_,_)=>⟨_,rfl⟩) λ(v,p) hp=>az (aJ (v.x*p.den)/\aJ (p.x-v.x*p.den)/\aJ (v.y*p.den)/\aJ (p.y-v.y*p.den)/\p.x-v.x*p.den=(toV p v).x/\p.y-v.y*p.den=(toV p v).y) (by kernel_rfl) (by change PtB p/\bd 10000 v at hp;have h:=hp.1.off hp.2;have h2:(-600000000000<=p.x/\p.x<=600000000000)/\(-600000000000<=p.y/\p.y<=600000000000):=hp.1.2;exact⟨bW (by omega),bW (by omega),bW (by omega),bW (by omega),rfl,rfl⟩)
noncomputable def Qp:=Pz.adk aB9
noncomputable def aD5:Con:=con (ac (aL .V) (a1 aT)) (λ(r,_)=>[r.length<=1000]) (λ(r,p)=> .iqz (bP r p))
def aCH:aD5.Okz 140:=bJ Qp (λ(r,p)=>[jP 3 [cV r=true,c6 p=true],lp 6 25 (aH r).length (λk=>[aM (λj=>onP (nE r j) p=false) k]) [] (λk=>[(6,.bool (pb r p k))]) bh λk=>[jb 11 77 (onP (nE r k) p),jb 14 91 (dh (nE r k) p),jPU 15 [onP (nE r k) p=false] [(6,.bool (pb r p (k+1)))]]]
  ) (λ(_,_)=>⟨_,rfl⟩) λ(r,p) hp=>az (aC (aH r) λD=>aC (!cV r) λG=>aC (!c6 p) λH=>(r.length<=1000/\(G=true->0=bP r p)/\
  (G=false->(H=true->0=bP r p)/\
   (H=false->cV r=true/\c6 p=true)))/\
 (∀y:Unit,cV r=true/\c6 p=true->r.length<=1000/\(0=(0:Int)/\false=pb r p 0/\(0:Nat)<=D.length/\aM (λj=>onP (nE r j) p=false) 0)/\
  (∀x:Nat,aC (x+1) λA=>aC (nE r x) λB=>aC (x:Int) λC=>aC (toV p B.a) λE=>aC (toV p B.b) λF=>aC (aEy B.b B.a) λI=>aC (decide (0<=E.y) !=decide (0<=F.y)) λJ=>x<=D.length/\aM (λj=>onP (nE r j) p=false) x->(C<D.length->(ix C D.length/\x<D.length/\PtB p/\bd 10000 B.a/\PtB p/\bd 10000 B.b/\bd 1000000000 B.b/\bd 1000000000 B.a/\cOK I E/\((cross I E=0->(Min.min E.x F.x<=0->(0<=Max.max E.x F.x->(Min.min E.y F.y<=0->decide (0<=Max.max E.y F.y)=onP B p)/\
         (¬Min.min E.y F.y<=0->false=onP B p))/\
        (¬0<=Max.max E.x F.x->false=onP B p))/\
       (¬Min.min E.x F.x<=0->false=onP B p))/\
      (¬cross I E=0->false=onP B p))/\
     (∀y_1:Unit,(onP B p=true->1=bP r p)/\
      (onP B p=false->((J=true->(decide (0<=E.y)==decide (0<cross I E))=dh B p)/\
        (J=false->false=dh B p))/\
       (∀y_2:Unit,(dh B p=true->(!pb r p x)=pb r p A/\onP B p=false)/\
        (dh B p=false->pb r p x=pb r p A/\onP B p=false)))))/\
    (∀y_1:Unit,onP B p=false->aJ (C+1)/\C+1=((x+1:Nat):Int)/\pb r p A=pb r p A/\x+1<=D.length/\aM (λj=>onP (nE r j) p=false) A/\D.length-A<D.length-x))/\
   (¬C<D.length->(pb r p x=true->2=bP r p)/\
    (pb r p x=false->0=bP r p))))) (by kernel_rfl) (by
  change r.length<=1000 at hp;have e0:pb r p 0=false:=rfl;have es:∀k:Nat,(k:Int)<(aH r).length->pb r p (k+1)=(pb r p k !=dh (nE r k) p):=λk h=>WE (by omega);have hw0:cV r=false\/c6 p=false->0=bP r p:=λh=>by unfold bP;grind
  have hw:cV r=true->c6 p=true->bP r p=dZ p (aH r) false:=λh1 h2=>by unfold bP;simp[h1,h2]
  have eb:cV r=true->∀j:Nat,(j:Int)<(aH r).length->bd 2000 (bB (aH r) j).a/\bd 2000 (bB (aH r) j).b:=λh j hj=>YZ h (by omega);have el:(aH r).length<=1000:=by unfold aH;split<;>simp<;>omega
  have s1:∀j:Nat,(j:Int)<(aH r).length->aM (λj=>onP (nE r j) p=false) j->onP (nE r j) p=true->dZ p (aH r) false=1:=λj h1 h2 h3=>MH false (by omega) h2 h3;have s2:∀k:Nat,¬(k:Int)<(aH r).length->k<=(aH r).length->aM (λj=>onP (nE r j) p=false) k->dZ p (aH r) false=if pb r p k=true then 2 else 0:=λk h1 h2 h=>by
   obtain rfl:k=(aH r).length:=by omega
   rw[Ko false h];unfold pb yZ;grind
  have gV:cV r=true->c6 p=true->∀j:Nat,(j:Int)<(aH r).length->cOK (aEy (bB (aH r) j).b (bB (aH r) j).a) (toV p (bB (aH r) j).a):=λh1 h2 j hj=>by
   have b1:=iZ (eb h1 j hj).2 (eb h1 j hj).1;have hB:=PtB.of h2;have b2:=hB.off (eb h1 j hj).1.mono;have h2:(-600000000000<=p.x/\p.x<=600000000000)/\(-600000000000<=p.y/\p.y<=600000000000):=hB.2;have b3:bd 2000000000000 (toV p (bB (aH r) j).a):=by unfold bd toV;dsimp only;omega
   exact⟨by have:=gm b1.1 b3.2;omega,by have:=gm b1.2 b3.1;omega⟩
  have oN:∀j:Nat,(¬fK (nE r j) p=0\/¬Min.min (toV p (nE r j).a).x (toV p (nE r j).b).x<=0\/¬0<=Max.max (toV p (nE r j).a).x (toV p (nE r j).b).x\/¬Min.min (toV p (nE r j).a).y (toV p (nE r j).b).y<=0)->false=onP (nE r j) p:=λj h=>by symm;unfold onP;grind
  have oY:∀j:Nat,fK (nE r j) p=0->Min.min (toV p (nE r j).a).x (toV p (nE r j).b).x<=0->0<=Max.max (toV p (nE r j).a).x (toV p (nE r j).b).x->Min.min (toV p (nE r j).a).y (toV p (nE r j).b).y<=0->decide (0<=Max.max (toV p (nE r j).a).y (toV p (nE r j).b).y)=onP (nE r j) p:=λj h1 h2 h3 h4=>by unfold onP;grind
  have hN:∀j:Nat,(decide (0<=(toV p (nE r j).a).y) !=decide (0<=(toV p (nE r j).b).y))=false->false=dh (nE r j) p:=λj h=>by unfold dh;rw[h];rfl
  have hY:∀j:Nat,(decide (0<=(toV p (nE r j).a).y) !=decide (0<=(toV p (nE r j).b).y))=true->(decide (0<=(toV p (nE r j).a).y)==decide (0<fK (nE r j) p))=dh (nE r j) p:=λj h=>by unfold dh;rw[h];rfl
  with_reducible ((repeat' first|apply cM|intro);all_goals repeat cases‹_/\_›)
  all_goals first|rfl|with_reducible solve_by_elim|exact PtB.of ‹_› |exact(eb ‹_› _ ‹_›).1.mono|exact(eb ‹_› _ ‹_›).2.mono|exact gV ‹_› ‹_› _ ‹_› |exact oN _ (.inl ‹_›)|exact oN _ (.inr (.inl ‹_›))|exact oN _ (.inr (.inr (.inl ‹_›)))|exact oN _ (.inr (.inr (.inr ‹_›)))|exact hw0 (.inl (nb' ‹_›))|exact hw0 (.inr (nb' ‹_›))|(rw[hw ‹_› ‹_›,s1 _ ‹_› ‹_› ‹_›];done)|(rw[hw ‹_› ‹_›,s2 _ ‹_› ‹_› ‹_›,‹pb _ _ _=_›];rfl)|(rw[es _ ‹_›,‹dh _ _=_›];simp;done)|grind)
noncomputable def RR:=Qp.adk aCH
noncomputable def c65:Con:=con (ac (aL .V) (a1 aV)) (λ(r,_)=>[r.length<=1000]) (λ(r,v)=> .iqz (dL r v)
 )
def k65:c65.Okz 65:=bJ RR (λ(_,_)=>[]) (λ(_,_)=>⟨_,rfl⟩) λ(r,v) hp=>az (aC (!ao v 4000) λA=>(0:Int)<=4000/\(4000:Int)<=9000000000000000000/\(A=true->0=dL r v)/\
 (A=false->r.length<=1000/\bP r (fD v)=dL r v)) (by kernel_rfl) (by change r.length<=1000 at hp;have e:dL r v=if(!ao v 4000)=true then 0 else bP r (fD v):=rfl;grind)
noncomputable def t65:=RR.adk k65
noncomputable def c89:Con:=con (a1 (aL .V)) (λr=>[r.length<=1000]) (λr=> .iqz (if cV r=true then area r else 0)
 )
def k89:c89.Okz 89:=bJ t65 bh (λ_=>⟨_,rfl⟩) λr hp=>az (aC (!cV r) λA=>r.length<=1000/\(A=true->0=(if cV r=true then area r else 0))/\
 (A=false->near r=true/\r.length<=100000/\area r=(if cV r=true then area r else 0))) (by kernel_rfl) (by change r.length<=1000 at hp;refine⟨hp,λh=>by grind,λh=>⟨?_,by omega,by grind⟩⟩;exact((DO r).1 (nb h)).2.2.1)
noncomputable def t89:=t65.adk k89
noncomputable def Qj:=t89.adk aB2
noncomputable def aDB:Con:=con (a1 (aL .R)) (λl=>[l.length<=1000,0<l.flatten.length,l.flatten.length<=1000]) (λl=> .lst .V l.flatten)
def aCe:aDB.Okz 181:=yK (qC Qj.o) (raw:=λr i=>bF r 1&&bF i 0) (λl=>[lp 3 11 l.length (λ_=>[]) [] (λk=>[(3,.int .i64 (((l.take k).flatten.length:Nat):Int))]) (λ_=>[]),lp 11 27 l.length (λ_=>[]) [7] (λk=>[(6,.own 7 .V ((l.take k).flatten.length))]) (λk=>[(7,.row 44 .V ((l.take k).flatten))])]
  ) (λ_=>⟨_,rfl⟩) λl hp=>az (aC (0:Nat) λB=>aC (bD 0 l) λG=>aC (ft G) λK=>aC ([] :List V) λN=>(0=(0:Int)/\0=(K.length:Int)/\B<=l.length)/\
 (∀x:Nat,aC (x:Int) λA=>aC (aA l x) λE=>aC (ft (bD x l)) λI=>aC (I.length:Int) λJ=>x<=l.length->(A<l.length->ix A l.length/\aJ (J+E.length)/\(J+E.length<0->False)/\
   (¬J+E.length<0->aJ (A+1)/\A+1=((x+1:Nat):Int)/\J+E.length=(ft (bD (x+1) l)).length/\x+1<=l.length/\l.length-(x+1)<l.length-x))/\
  (¬A<l.length->B<I.length/\I.length<=100000/\(0=(0:Int)/\N.length=K.length/\N=ft G/\B<=l.length)/\
   (∀x_1:Nat,aC (x_1:Int) λD=>aC (bD (x_1+1) l) λH=>aC (bD x_1 l) λL=>aC (ft L) λM=>x_1<=l.length->(D<l.length->ix D l.length/\M.length=M.length/\M.length+(aA l x_1).length<=1000000/\aJ (D+1)/\D+1=((x_1+1:Nat):Int)/\(ft L++aA l x_1).length=(ft H).length/\ft L++aA l x_1=ft H/\x_1+1<=l.length/\l.length-(x_1+1)<l.length-x_1)/\
    (¬D<l.length->M.length=M.length/\ft L=ft l))))) (by kernel_rfl) (by
  change l.length<=1000/\0<l.flatten.length/\l.flatten.length<=1000 at hp;have e1:∀x:Nat,(x:Int)<l.length->(l.take (x+1)).flatten=(l.take x).flatten++aA l x:=λx h=>by rw[kw (by omega),wJ,So,lF (by omega)]
  have e2:∀x:Nat,(l.take x).flatten.length<=l.flatten.length:=λx=>by
   conv=>rhs;rw[<-tX x l,wJ,gi]
   omega
  have e3:∀x:Nat,¬(x:Int)<l.length->bD x l=l:=λx h=>ip (by omega);have e4:∀x:Nat,(x:Int)<l.length->(l.take x).flatten.length+(aA l x).length<=l.flatten.length:=λx h=>by grind
  have e5:∀x:Nat,(x:Int)<l.length->((ft (bD x l)).length:Int)+(aA l x).length=(ft (bD (x+1) l)).length:=λx h=>by grind
  have e6:∀x:Nat,(x:Int)<l.length->aJ (((ft (bD x l)).length:Int)+(aA l x).length):=λx h=>bW (by grind)
  repeat' first|with_reducible apply cM|with_reducible intro
  all_goals repeat with_reducible cases‹_/\_›
  all_goals grind)
noncomputable def Qu:=Qj.adk aCe
def xt(a b:V):cE a b<0↔bg a b=true:=by unfold cE bg aEB;grind
def EJ(a:V):bg a a=false:=by unfold bg;grind
noncomputable def aDE:Con:=con (ac (aL .V) (a1 (aF 78))) (λ(r,_)=>[0<r.length,r.length<=1000]) (λ(r,_)=>aV.enc (aEv r (dM r)))
def aCh:aDE.Okz 175:=bJ Qu (λ(r,_)=>[(5,.mk Nat (λF _=>nH F 6) [] (λk=>[0<k,k<=r.length]) (λk=>[(6,.iqz (k:Int))]) (λk=>[(7,.box 44 [.iqz (aEv r (eO r k)).x,.iqz (aEv r (eO r k)).y])]) (λk=>r.length-k) bh)]
  ) (λ(_,_)=>⟨_,rfl⟩) λ(r,u) hp=>az (aC (0:Nat) λC=>aC (dM r) λE=>aC (r.length:Int) λF=>aC (eO r 1) λK=>(F<1->False)/\
 (¬F<1->ix 0 r.length/\(1=(1:Int)/\(aEv r 0).x=(aEv r K).x/\(aEv r 0).y=(aEv r K).y/\C<1/\(1:Nat)<=r.length)/\
  (∀x:Nat,aC (x+1) λA=>aC (x:Int) λB=>aC (aEv r x) λD=>aC (aEv r (eO r x)) λH=>aC (aEv r (eO r A)) λJ=>aC ((x+1:Nat):Int) λL=>C<x/\x<=r.length->(B<r.length->ix B r.length/\(cE D H<0->ix B r.length/\aJ (B+1)/\B+1=L/\D.x=J.x/\D.y=J.y/\C<x+1/\x+1<=r.length/\r.length-A<r.length-x)/\
    (¬cE D H<0->aJ (B+1)/\B+1=L/\H.x=J.x/\H.y=J.y/\C<x+1/\x+1<=r.length/\r.length-A<r.length-x))/\
   (¬B<r.length->H.x=(aEv r E).x/\H.y=(aEv r E).y)))) (by kernel_rfl) (by
  change 0<r.length/\r.length<=1000 at hp;have e0:eO r 1=0:=by unfold eO eO;split<;>rfl
  have e1:∀x:Nat,cE (aEv r x) (aEv r (eO r x))<0->eO r (x+1)=x:=λx h=>if_pos ((xt _ _).1 h);have e2:∀x:Nat,¬cE (aEv r x) (aEv r (eO r x))<0->eO r (x+1)=eO r x:=λx h=>if_neg λh2=>h ((xt _ _).2 h2);have e3:∀x:Nat,¬(x:Int)<r.length->x<=r.length->eO r x=dM r:=λx h1 h2=>by rw[show x=r.length by omega];rfl
  with_reducible ((repeat' first|apply cM|intro);all_goals repeat cases‹_/\_›)
  all_goals grind)
noncomputable def Qx:=Qu.adk aCh
noncomputable def aDF:Con:=con (ac (aL .V) (a1 aV)) (λ(r,_)=>[r.length<=1000]) (λ(r,v)=> .iqz (fI (λx=>decide (v=x)) r))
def aCi:aDF.Okz 174:=bJ Qx (λ(r,v)=>[cnt 2 8 r.length (aM λj=>decide (v=aEv r j)=false)]
  ) (λ(_,_)=>⟨_,rfl⟩) λ(r,v) hp=>az ((0=(0:Int)/\(0:Nat)<=r.length/\aM (λj=>decide (v=aEv r j)=false) 0)/\
 (∀x:Nat,aC (x:Int) λA=>x<=r.length/\aM (λj=>decide (v=aEv r j)=false) x->(A<r.length->ix A r.length/\(v=(aEv r x)->A=fI (λx=>decide (v=x)) r)/\
   (¬v=(aEv r x)->aJ (A+1)/\A+1=((x+1:Nat):Int)/\x+1<=r.length/\aM (λj=>decide (v=aEv r j)=false) (x+1)/\r.length-(x+1)<r.length-x))/\
  (¬A<r.length-> -1=fI (λx=>decide (v=x)) r))) (by kernel_rfl) (by
  change r.length<=1000 at hp
  with_reducible ((repeat' first|apply cM|intro);all_goals repeat cases‹_/\_›)
  all_goals first|rfl|exact qB (t:= .V) (by omega) (decide_eq_true ‹_›) ‹_› |(obtain rfl:_=r.length:=ti ‹_› (by omega);exact sf (t:= .V) ‹_›)|grind)
noncomputable def Qy:=Qx.adk aCi
noncomputable def aEg:Con:=con (a1 (aL .V)) (λr=>[r.length<=1000]) (λr=> .lst .V (de r)
 )
def aCT:aEg.Okz 126:=bJ Qy bh (λ_=>⟨_,rfl⟩) λr hp=>az (aC (aEv r (dM r)) λB=>aC (!cV r) λC=>r.length<=1000/\(C=true->de r=([] :List V))/\
 (C=false->(0:Nat)<r.length/\r.length<=1000/\r.length<=1000/\(0<=fI (λx=>decide (B=x)) r/\fI (λx=>decide (B=x)) r<=r.length)/\(0<=fI (λx=>decide (B=x)) r/\fI (λx=>decide (B=x)) r<=r.length)/\[iA (fI (λx=>decide (B=x)) r).toNat r,bD (fI (λx=>decide (B=x)) r).toNat r].length<=1000/\(0:Nat)<(ft [iA (fI (λx=>decide (B=x)) r).toNat r,bD (fI (λx=>decide (B=x)) r).toNat r]).length/\(ft [iA (fI (λx=>decide (B=x)) r).toNat r,bD (fI (λx=>decide (B=x)) r).toNat r]).length<=1000/\ft [iA (fI (λx=>decide (B=x)) r).toNat r,bD (fI (λx=>decide (B=x)) r).toNat r] =de r)) (by kernel_rfl) (by
  change r.length<=1000 at hp;have h0:(!cV r)=false->0<r.length:=λh=>by have:=((DO r).1 (nb h)).1;omega
  have hf:0<r.length->fI (λx=>decide (aEv r (dM r)=x)) r=(dM r:Int):=λh=>by
   have hl:=qY h;symm;exact qB (t:= .V) hl (decide_eq_true rfl) λj hj=>decide_eq_false λe=>by have:=DD r r.length j hj;rw[show eO r r.length=dM r from rfl,e]at this;exact absurd ((EJ (aEv r j)).symm.trans this) (by decide)
  refine⟨hp,λh=>by unfold de;grind,λh=> ?_⟩;have h1:=h0 h;have hl:=qY h1;rw[hf h1];have hc:[iA ((dM r:Nat):Int).toNat r,bD ((dM r:Nat):Int).toNat r].flatten=de r:=by unfold de;rw[nb h];simp[c7]
  grind)
noncomputable def Re:=Qy.adk aCT
def aPR:Ar aE where
 enc r:= .pro [.lst .V r] 0
 dec s:=match s with
  | .pro [x] 0=>oc .V x
  |_=>none
 ok s a h:=by
  split at h
  .have e:=qt h;show(match bK (avs [_])with|some q=>AV.p (.pro q 0)|none=> .any)=_;rw[avs,avs,e];rfl
  .cases h
 pl _:=⟨_,rfl⟩
def aPi:Ar Int where
 enc n:= .pro [.int .i64 n] 0
 dec s:=match s with
  | .pro [.int .i64 n] 0=>some n
  |_=>none
 ok s a h:=by grind
 pl _:=⟨_,rfl⟩
def aCl(f:Nat){α:Type}(A:Arl α):Ar α where
 enc a:= .fnp f [] (A.enc a)
 dec s:=match s with
  | .fnp g [] b=>(match bF g f with|true=>A.dec b|false=>none)
  |_=>none
 ok s a h:=by
  split at h
  .split at h
   .rename_i b e;have:=A.ok _ _ h;simp only[SV.av,this];simp_all
   .cases h
  .cases h
 pl a:=by obtain⟨q,h⟩:=A.pl a;exact⟨.fn (.func f) [] q,by simp only[SV.av,h,avs,dS];rfl⟩
def QO:Ar (aE×Int×Unit):=aCl 180 (ac aPR (ac aPi a0))
def Bf{t:LT}{l:List t.ty}{q:t.ty->Bool}{j:Nat}(hj:j<l.length)(h:q (t.nth l j)=false):l.all q=false:=
 y9.2 ⟨_,mg hj,by rw[<-t.nth_eq l hj,h];simp⟩
def BD{t:LT}{l:List t.ty}{q:t.ty->Bool}(h:aM (λj=>q (t.nth l j)=true) l.length):l.all q=true:=
 bf.2 λx hx=>by obtain⟨j,hj,rfl⟩:=jm hx;have:=h j hj;dsimp only at this;rwa[t.nth_eq l hj]at this
noncomputable def aDC:Con:=con (ac aV (ac aPR (a1 aPi))) (λ(_,r,_)=>[r.length<=1000]) (λ(v,r,p)=> .bool (decide (¬dL r v=p))
 )
def aCf:aDC.Okz 180:=bJ Re (λ(_,_,_)=>[]) (λ(_,_,_)=>⟨_,rfl⟩) λ(v,r,p) hp=>az (r.length<=1000/\decide (¬dL r v=p)=decide (¬dL r v=p)) (by kernel_rfl) (by change r.length<=1000 at hp;grind)
noncomputable def Qv:=Re.adk aCf
noncomputable def aDT:Con:=con (ac (aL .V) (a1 QO)) (λ(l,c)=>[l.length<=1000000,c.1.length<=1000]) (λ(l,c)=> .iqz (fI (λv=>decide (¬dL c.1 v=c.2.1)) l))
def aCw:aDT.Okz 157:=bJ Qv (λ(l,c)=>[cnt 2 8 l.length (aM λj=>decide (¬dL c.1 (aEv l j)=c.2.1)=false)]
  ) (λ(_,_)=>⟨_,rfl⟩) λ(l,c) hp=>az ((0=(0:Int)/\(0:Nat)<=l.length/\aM (λj=>decide (¬dL c.1 (aEv l j)=c.2.1)=false) 0)/\
 (∀x:Nat,aC (x:Int) λA=>x<=l.length/\aM (λj=>decide (¬dL c.1 (aEv l j)=c.2.1)=false) x->(A<l.length->ix A l.length/\c.1.length<=1000/\(decide (¬dL c.1 (aEv l x)=c.2.1)=true->A=fI (λv=>decide (¬dL c.1 v=c.2.1)) l)/\
   (decide (¬dL c.1 (aEv l x)=c.2.1)=false->aJ (A+1)/\A+1=((x+1:Nat):Int)/\x+1<=l.length/\aM (λj=>decide (¬dL c.1 (aEv l j)=c.2.1)=false) (x+1)/\l.length-(x+1)<l.length-x))/\
  (¬A<l.length-> -1=fI (λv=>decide (¬dL c.1 v=c.2.1)) l))) (by kernel_rfl) (by
  change l.length<=1000000/\c.1.length<=1000 at hp
  with_reducible ((repeat' first|apply cM|intro);all_goals repeat cases‹_/\_›)
  all_goals first|rfl|exact qB (t:= .V) (by omega) ‹_› ‹_› |(obtain rfl:_=l.length:=ti ‹_› (by omega);exact sf (t:= .V) ‹_›)|grind)
noncomputable def RD:=Qv.adk aCw
noncomputable def c84:Con:=con (ac (aL .V) (a1 QO)) (λ(l,c)=>[l.length<=1000000,c.1.length<=1000]) (λ(l,c)=> .bool (l.any λv=>decide (¬dL c.1 v=c.2.1))
 )
def k84:c84.Okz 84:=bJ RD (λ(_,_)=>[]) (λ(_,_)=>⟨_,rfl⟩) λ(l,c) hp=>az (l.length<=1000000/\c.fst.length<=1000/\decide (0<=fI (λv=>decide (¬dL c.fst v=c.2.1)) l)=fo l (λv=>decide (¬dL c.1 v=c.2.1))) (by kernel_rfl) (by change l.length<=1000000/\c.1.length<=1000 at hp;exact⟨hp.1,hp.2,ur _ _⟩)
noncomputable def t84:=RD.adk k84
noncomputable def SM:Con:=con (ac (aL .V) (ac (aL .V) (a1 aI))) (λ(r,q,_)=>[r.length<=1000,q.length<=1000]) (λ(r,q,p)=> .bool (aEC r q p)
 )
def SC:SM.Okz 123:=bJ t84 (λ(_,_,_)=>[]) (λ(_,_,_)=>⟨_,rfl⟩) λ(r,q,p) hp=>az (r.length<=1000000/\q.length<=1000/\(!fo r (λv=>decide (¬dL q v=p)))=aEC r q p) (by kernel_rfl) (by change r.length<=1000/\q.length<=1000 at hp;refine⟨by omega,hp.2,?_⟩;unfold aEC;grind)
noncomputable def Rh:=t84.adk SC
noncomputable def SL:Con:=con (ac (aL .V) (a1 (aL .V))) (λ(a,b)=>[a.length<=1000,b.length<=1000]) (λ(a,b)=> .bool (dr a b))
def SB:SL.Okz 124:=bJ Rh (λ(a,b)=>[cnt 2 12 (aH a).length (aM λi=>((aH b).all λy=>cC (bB (aH a) i) y==0)=true) λi=>[cnt 5 19 (aH b).length (aM λk=>(cC (bB (aH a) i) (bB (aH b) k)==0)=true)]]
  ) (λ(_,_)=>⟨_,rfl⟩) λ(a,b) hp=>az (aC (aH a) λC=>aC (aH b) λE=>a.length<=1000/\(0=(0:Int)/\(0:Nat)<=C.length/\aM (λi=>tj E (λy=>cC (bB C i) y==0)=true) 0)/\
 (∀x:Nat,aC (x:Int) λA=>aC (bB C x) λD=>x<=C.length/\aM (λi=>tj E (λy=>cC (bB C i) y==0)=true) x->(A<C.length->ix A C.length/\x<C.length/\b.length<=1000/\(0=(0:Int)/\(0:Nat)<=E.length/\aM (λk=>(cC D (bB E k)==0)=true) 0)/\
   (∀x_1:Nat,aC (x_1:Int) λB=>x_1<=E.length/\aM (λk=>(cC D (bB E k)==0)=true) x_1->(B<E.length->ix B E.length/\x_1<E.length/\(¬cC D (bB E x_1)=0->false=dr a b)/\
     (¬(¬cC D (bB E x_1)=0)->aJ (B+1)/\B+1=((x_1+1:Nat):Int)/\x_1+1<=E.length/\aM (λk=>(cC D (bB E k)==0)=true) (x_1+1)/\E.length-(x_1+1)<E.length-x_1))/\
    (¬B<E.length->aJ (A+1)/\A+1=((x+1:Nat):Int)/\x+1<=C.length/\aM (λi=>tj E (λy=>cC (bB C i) y==0)=true) (x+1)/\C.length-(x+1)<C.length-x)))/\
  (¬A<C.length->true=dr a b))) (by kernel_rfl) (by
  change a.length<=1000/\b.length<=1000 at hp;have el:∀r:aE,r.length<=1000->(aH r).length<=1000:=λr h=>by unfold aH;grind
  have ea:=el a hp.1;have eb:=el b hp.2;have h1:∀x y:Nat,(x:Int)<(aH a).length->(y:Int)<(aH b).length->¬cC (bB (aH a) x) (bB (aH b) y)=0->false=dr a b:=λx y hx hy h=>
   (Bf (t:= .S) (l:=aH a) (j:=x) (by omega) (Bf (t:= .S) (l:=aH b) (q:=λy=>cC (bB (aH a) x) y==0) (j:=y) (by omega) (beq_eq_false_iff_ne.2 h))).symm
  have h2:∀x:Nat,¬(x:Int)<(aH a).length->x<=(aH a).length->aM (λi=>((aH b).all λy=>cC (bB (aH a) i) y==0)=true) x->true=dr a b:=λx hx hx2 h=>by
   obtain rfl:x=(aH a).length:=by omega
   exact(BD (t:= .S) h).symm
  have h3:∀x y:Nat,¬(y:Int)<(aH b).length->y<=(aH b).length->aM (λk=>(cC (bB (aH a) x) (bB (aH b) k)==0)=true) y->((aH b).all λz=>cC (bB (aH a) x) z==0)=true:=λx y hy hy2 h=>by
   obtain rfl:y=(aH b).length:=by omega
   exact BD (t:= .S) h
  with_reducible ((repeat' first|apply cM|intro);all_goals repeat cases‹_/\_›)
  all_goals first|rfl|with_reducible solve_by_elim|exact cT ‹_› (h3 _ _ ‹_› ‹_› ‹_›)|exact cT ‹_› (beq_iff_eq.2 (th ‹¬¬_›))|grind)
noncomputable def CC:=Rh.adk SB
def ZE{r n:Nat}{P:Program}{row:String}{args:Array Value}{w:World}{R:Value->World->Prop}(h:Rows P row args w R):RowsIn (Fence.wide.inRound r) n P row args w R:=
 λc cs _=>let⟨v,w',hr,s⟩:=h c cs;⟨v,w',hr,stepsIn_wide.2 s⟩
def qh{r n:Nat}{P:Program}{ops:Array Oper}{Q:Exit->Act->World->Prop}(hd:∀(i:Nat) (o:Oper),ops[i]? =some o->∀c,o.op≠ .defer c)(hno:¬LetsOut Q):
  ∀(l:List Nat) (a:Act) (w:World),wpOps P ops Q l a w->wpOpsIn (Fence.wide.inRound r) n P ops Q l a w
 |[],_,_,h=>h
 |i::rest,a,w,h=>by
  unfold wpOps at h;unfold wpOpsIn;cases ho:ops[i]? with
  |none=>rw[ho]at h;exact qh hd hno rest a w h
  |some o=>
   rw[ho]at h;simp only[]at h|-;by_cases hw:iS o (yielded ops a.tmps)=true
   .rw[if_pos hw]at h|-;rcases h with h|⟨_,h⟩
    .refine⟨λ_ _=>trivial,?_⟩;show o.uponIn _ n P a _ Q ((Oper.semAt (some r) a.eval o).run P w);rw[zC r a.eval o (hd i o ho)];unfold Oper.wp at h;generalize (execOp a.eval o).run P w=res at h|-;cases res with
     |ok x w'=>
      cases x with
      |value v=>exact qh hd hno rest _ _ h
      |skip=>exact qh hd hno rest _ _ h
      |defer d=>exact qh hd hno rest _ _ h
      |enter f args=>
       refine⟨λh=>by simp[Fence.wide]at h,CallsIn.inRound r (callsIn_wide.2 (Calls.mono h ?_))⟩;intro e w'' he;cases e with
       |returned v=>exact qh hd hno rest _ _ he
       |panicked c=>exact he
       |outgrown=>exact he
      |row row args=>
       refine⟨λh=>by simp[Fence.wide]at h,ZE (Rows.mono h ?_)⟩;intro v w'' he;exact qh hd hno rest _ _ he
      |_=>exact h.elim
     |halt x w'=>cases x<;>first|exact h|exact h.elim
    grind
   .rw[if_neg hw]at h|-;exact⟨λ_ _=>trivial,qh hd hno rest _ _ h⟩
def P7(Q:Exit->Act->World->Prop):Exit->Act->World->Prop:=λe a w=>e= .normal/\Q .normal a w
def Xz(Q:Exit->Act->World->Prop):¬LetsOut (P7 Q):=λh=>by obtain⟨a,w,e,_⟩:=h;cases e
def Xy{F:Fence}{n:Nat}{P:Program}{c:Code}{Q:Exit->Act->World->Prop}{a:Act}{w:World}(h:c.wpIn F n P (P7 Q) a w):c.wpIn F n P Q a w:=
 wpIn_mono h λe a w he=>by obtain⟨rfl,he⟩:=he;exact he
def S3{P:Program}{ops:Array Oper}{Q:Exit->Act->World->Prop}{a0:Act}{w0:World}
  (hac:∀(i:Nat) (o:Oper),ops[i]? =some o->∀e∈o.after.toList,gv .any e=true->e.on<i)
  (Inv:(Nat->Bool)->Act->World->Prop) (h0:Inv (λ_=>false) a0 w0.drew)
  (hstep:∀(i:Nat) (o:Oper) (D:Nat->Bool) (a:Act) (w:World),ops[i]? =some o->Inv D a w->D i=false->(∀e∈o.after.toList,gv .any e=true->D e.on=true)->
    wpOp P ops Q i (λa' w'=>Inv (λj=>if j=i then true else D j) a' w') a w)
  (hend:∀(D:Nat->Bool) (a:Act) (w:World),Inv D a w->(∀i,i<ops.size->D i=true)->Q .normal a w):
  wpAny P .any ops Q ops.size (nW ops.size false) a0 w0.drew:=by
 refine(Ke hac Inv hstep hend _ _ _ _ (by simp) ?_ ?_)
 .simp
 .have e:(λj=>(nW ops.size false).getD j false)=(λ_=>false):=by
   funext j
   rw[gG,Array.getElem?_replicate];split<;>rfl
  grind
def TT{P:Program}{ops:Array Oper}{Q:Exit->Act->World->Prop}{a0:Act}{w0:World}
  (dsts:List Nat)
  (hok:((bV ops.size).all λi=>((ops[i]?).map λo=>(o.after.toList.all λe=> !gv .any e||decide (e.on<i))&&(match o.dst with|some d=>dsts.contains d|none=>true)).getD true)=true)
  (hds:∀s∈dsts,s<a0.tmps.size)
  (F:(Nat->Bool)->(Nat->Value)->World->Prop) (h0:F (λ_=>false) (λs=>a0.tmps.getD s undef) w0.drew)
  (hstep:∀(i:Nat) (o:Oper) (D:Nat->Bool) (V:Nat->Value) (w:World),ops[i]? =some o->F D V w->D i=false->(∀e∈o.after.toList,gv .any e=true->D e.on=true)->
    (∀s,s∉dsts->V s=a0.tmps.getD s undef)->
    if iS o (gdV ops V)=true then
     cJ P o V w (λv w'=>F (λj=>if j=i then true else D j) (match o.dst with|some d=>λs=>if s=d then v else V s|none=>V) w')
    else F (λj=>if j=i then true else D j) (match o.dst with|some d=>λs=>if s=d then undef else V s|none=>V) w)
  (hend:∀(D:Nat->Bool) (V:Nat->Value) (w:World),F D V w->(∀i,i<ops.size->D i=true)->Q .normal (iH a0 dsts V) w):
  wpAny P .any ops Q ops.size (nW ops.size false) a0 w0.drew:=by
 have hops:∀(i:Nat) (o:Oper),ops[i]? =some o->(∀e∈o.after.toList,gv .any e=true->e.on<i)/\(∀d,o.dst=some d->d∈dsts):=by
  intro i o ho;have hi:i<ops.size:=by grind
  rw[bf]at hok;have:=hok i (cF.2 hi);rw[ho]at this;simp only[eE,ku,bn]at this;obtain⟨g2,g3⟩:=this;refine⟨?_,?_⟩
  .grind
  .grind
 refine S3 (by grind) (λD a w=>a.defers=a0.defers/\a.tmps.size=a0.tmps.size/\(∀s,s∉dsts->a.tmps.getD s undef=a0.tmps.getD s undef)/\F D (λs=>a.tmps.getD s undef) w) (by grind) ?_ ?_
 .intro i o D a w ho ⟨i1,i2,i3,i4⟩ hD hpre;obtain⟨_,hdst⟩:=hops i o ho;have hrun:=hstep i o D (λs=>a.tmps.getD s undef) w ho i4 hD hpre i3;have hput:∀(v:Value) (w':World),F (λj=>if j=i then true else D j) (match o.dst with|some d=>λs=>if s=d then v else a.tmps.getD s undef|none=>λs=>a.tmps.getD s undef) w'->
    (a.put o.dst v).defers=a0.defers/\(a.put o.dst v).tmps.size=a0.tmps.size/\(∀s,s∉dsts->(a.put o.dst v).tmps.getD s undef=a0.tmps.getD s undef)/\F (λj=>if j=i then true else D j) (λs=>(a.put o.dst v).tmps.getD s undef) w':=by
   intro v w' hF;cases hd:o.dst with
   |none=>rw[hd]at hF;exact⟨i1,i2,i3,hF⟩
   |some d=>
    have hdm:=hdst d hd;have hget:∀s,(a.put (some d) v).tmps.getD s undef=if s=d then v else a.tmps.getD s undef:=by
     intro s;simp only[mZ,gG,Array.getElem?_setIfInBounds];by_cases e:d=s
     .grind
     .grind
    refine⟨i1,by simpa[mZ]using i2,?_,?_⟩
    .intro s hs;rw[hget,if_neg (by grind)];exact i3 s hs
    .have e:(λs=>(a.put (some d) v).tmps.getD s undef)=(λs=>if s=d then v else a.tmps.getD s undef):=funext hget;grind
  unfold wpOp;rw[ho];simp only[];rw[DL];by_cases hw:iS o (gdV ops λs=>a.tmps.getD s undef)=true
  .rw[if_pos hw]at hrun|-;refine .inl ?_;unfold Oper.wp;rw[Act.eval_evalV];unfold cJ at hrun;cases hr:(execOp (bH λs=>a.tmps.getD s undef) o).run P w with
   |halt x w'=>grind
   |ok n w'=>
    rw[hr]at hrun;cases n<;>simp only[]at hrun<;>first|exact hrun.elim|skip
    .exact hput _ _ hrun
    .exact hput _ _ hrun
    .rename_i f args;refine hrun.mono ?_;rintro e w'' ⟨v,rfl,hK⟩;exact hput _ _ hK
  .rw[if_neg hw]at hrun|-;exact hput _ _ hrun
 .intro D a w ⟨i1,i2,i3,i4⟩ hall;obtain⟨p1,p2,p3⟩:=zK (λs=>a.tmps.getD s undef) dsts a0 hds;have e:iH a0 dsts (λs=>a.tmps.getD s undef)=a:=by
   obtain⟨t,df⟩:=a;have ht:(iH a0 dsts (λs=>t.getD s undef)).tmps=t:=by
    apply Array.ext
    .rw[p2];exact i2.symm
    .intro s h1 h2;have h3:=p3 s (by grind);rw[gG,Array.getElem?_eq_getElem h1,ku]at h3;rw[h3];by_cases hm:s∈dsts
     .rw[if_pos hm];simp[gG,h2]
     .rw[if_neg hm,<-i3 s hm];simp[gG,h2]
   have hdf:(iH a0 dsts (λs=>t.getD s undef)).defers=df:=p1.trans i1.symm;show iH a0 dsts (λs=>t.getD s undef)={tmps:=t,defers:=df};cases hp:iH a0 dsts (λs=>t.getD s undef)with
   |mk t' df'=>
    grind
  grind
def TU{P:Program}{l:List Oper}{Q:Exit->Act->World->Prop}{a0:Act}{w0:World}
  (dsts:List Nat) (anc:List (List Nat)) (hok:okF l anc=true) (hdst:((bV l.length).all λi=>dg l i==1000000||dsts.contains (dg l i))=true) (hds:∀s∈dsts,s<a0.tmps.size)
  (WR:(Nat->Bool)->World->Prop) (fact:Nat->Value->World->Prop) (h0:WR (λ_=>false) w0.drew)
  (hmono:∀j v w w',fact j v w->Below w.heap.size w w'->fact j v w')
  (hstep:An (P2 P l anc a0 WR fact) l 0)
  (hend:∀(D:Nat->Bool) (V:Nat->Value) (w:World),(∀i,i<l.length->D i=true)->(∀i,i<l.length->fact i (lN l V i) w)->WR D w->Q .normal (iH a0 dsts V) w):
  wpAny P .any l.toArray Q l.toArray.size (nW l.toArray.size false) a0 w0.drew:=by
 unfold okF at hok;rw[bf]at hok;have hget:∀i o,l[i]? =some o->i<l.length:=by grind
 have hop:∀i o,l[i]? =some o->(∀e∈o.after.toList,gv .any e=true->e.on<i/\(fy anc i).contains e.on=true)/\o.guard=none/\
   (∀j,(fy anc i).contains j=true->j<i/\∃e∈o.after.toList,gv .any e=true/\(e.on=j\/(fy anc e.on).contains j=true))/\(∀d,o.dst=some d->dg l i=d/\d≠1000000)/\(o.dst=none->dg l i=1000000):=by
  intro i o ho;have h1:=hok i (cF.2 (hget i o ho));simp only[bn]at h1;obtain⟨⟨h2,h3⟩,_⟩:=h1;rw[ho]at h2;simp only[eE,ku,bn,Option.isNone_iff_eq_none,bne_iff_ne,ne_eq]at h2;refine⟨?_,h2.1.2,?_,?_,?_⟩
  .grind
  .intro j hj;rw[bf]at h3;have:=h3 j (by grind);simp only[bn,decide_eq_true_eq]at this;obtain⟨h4,h5⟩:=this;refine⟨h4,?_⟩;rw[ho]at h5;simp only[eE,ku,lj,bn,jl,beq_iff_eq]at h5;exact h5
  .intro d hd;refine⟨by unfold dg;grind,?_⟩;grind
  .unfold dg;grind
 have huniq:∀i j,i<l.length->j<l.length->j≠i->dg l j=dg l i->dg l i=1000000:=by
  intro i j hi hj hne he;have h1:=hok i (cF.2 hi);simp only[bn]at h1;obtain⟨_,h3⟩:=h1;rw[bf]at h3;have:=h3 j (cF.2 hj);simp only[jl,beq_iff_eq,bne_iff_ne,ne_eq]at this;rcases this with(h|h)|h
  .omega
  .omega
  .exact h
 let G:(Nat->Bool)->(Nat->Value)->World->Prop:=λD V w=>
  (∀i j,D i=true->(fy anc i).contains j=true->D j=true)/\(∀i,i<l.length->D i=true->fact i (lN l V i) w)/\
  (∀s,(∀j,j<l.length->dg l j=s->D j=false)->V s=a0.tmps.getD s undef)/\WR D w
 refine TT dsts ?_ hds G ?_ ?_ ?_
 .rw[bf];intro i hi;have hi':=cF.1 hi;have ho:l[i]? =some l[i] :=fA hi';simp only[List.getElem?_toArray,ho,eE,ku,bn];refine⟨?_,?_⟩
  .grind
  .cases hd:l[i].dst with
   |none=>rfl
   |some d=>
    grind
 .grind
 .intro i o D V w ho ⟨g1,g2,g3,g4⟩ hD hpre hV;have ho':l[i]? =some o:=by simpa using ho
  obtain⟨q1,q2,q3,q4,q5⟩:=hop i o ho';have hi:=hget i o ho';have hanc:∀j,(fy anc i).contains j=true->D j=true:=by
   intro j hj;obtain⟨_,e,he,hb,h⟩:=q3 j hj;have:=hpre e he hb;rcases h with rfl|h
   .exact this
   .grind
  have hdesc:∀j,(fy anc j).contains i=true->D j=false:=by
   intro j hj;cases hx:D j with
   |false=>rfl
   |true=>grind
  have hs:=JR l 0 hstep i o ho';rw[jo]at hs;have hrun:=hs D V w hD (λj hj=>⟨hanc j hj,g2 j (Nat.lt_trans (q3 j hj).1 hi) (hanc j hj)⟩) hdesc (λs hsl=>g3 s (λj hj hjs=>by unfold PU at hsl;grind)) g4
  rw[if_pos (by unfold iS;rw[q2])];have hmono':∀(K K':Value->World->Prop),(∀v w,K v w->K' v w)->cJ P o V w K->cJ P o V w K':=by
   intro K K' hk h;unfold cJ at h|-;split at h
   .grind
   .grind
   .exact h.mono λe w'' ⟨v,he,hv⟩=>⟨v,he,hk _ _ hv⟩
   .exact h.elim
  have key:∀(U:Nat->Value) (v:Value) (w':World),(∀s,s≠dg l i->U s=V s)->(dg l i≠1000000->U (dg l i)=v)->
    (fact i (if dg l i=1000000 then undef else v) w'/\WR (gQ D i) w'/\(w'=w\/Below w.heap.size w w'\/∀j,D j=true->fact j (lN l V j) w->fact j (lN l V j) w'))->G (gQ D i) U w':=by
   rintro U v w' hVd hVv ⟨k1,k2,k3⟩;refine⟨?_,?_,?_,k2⟩
   .intro i' j h1 h2;by_cases e:j=i
    .simp[gQ,e]
    .by_cases e':i'=i
     .simp only[gQ,e,if_false];grind
     .simp only[gQ,e',if_false]at h1;simp only[gQ,e,if_false];grind
   .intro i' hi' h1;by_cases e:i'=i
    .subst e;have:lN l U i'=if dg l i'=1000000 then undef else v:=by
      unfold lN;by_cases h6:dg l i'=1000000
      .grind
      .grind
     grind
    .simp only[gQ,e,if_false]at h1;have:lN l U i'=lN l V i':=by
      unfold lN;by_cases h6:dg l i'=1000000
      .grind
      .grind
     rw[this];have h8:=g2 i' hi' h1;rcases k3 with rfl|k3|k3
     .exact h8
     .grind
     grind
   .intro s hs;have hne:s≠dg l i:=by intro h;have:=hs i hi h.symm;simp[gQ]at this
    rw[hVd s hne];refine g3 s (λj hj hjs=> ?_);have:=hs j hj hjs;by_cases e:j=i
    .grind
    .simpa[gQ,e]using this
  refine hmono' _ _ ?_ hrun;intro v w' hk;show G (gQ D i) _ w';cases hd:o.dst with
  |none=>
   have e1:=q5 hd;refine key _ v w' ?_ (λh=>absurd e1 h) hk;grind
  |some d=>
   refine key _ v w' ?_ ?_ hk
   .grind
   grind
 grind
def DC{r n:Nat}{P:Program}{id:Nat}{l:List Oper}{Q:Exit->Act->World->Prop}{a0:Act}{w0:World}(hm:P.follows .mixedOrders=true)
  (hdf:(l.all λo=>match o.op with| .defer _=>false|_=>true)=true)
  (dsts:List Nat) (anc:List (List Nat)) (hok:okF l anc=true) (hdst:((bV l.length).all λi=>dg l i==1000000||dsts.contains (dg l i))=true) (hds:∀s∈dsts,s<a0.tmps.size)
  (WR:(Nat->Bool)->World->Prop) (fact:Nat->Value->World->Prop) (h0:WR (λ_=>false) w0.drew)
  (hmono:∀j v w w',fact j v w->Below w.heap.size w w'->fact j v w')
  (hstep:An (P2 P l anc a0 WR fact) l 0)
  (hend:∀(D:Nat->Bool) (V:Nat->Value) (w:World),(∀i,i<l.length->D i=true)->(∀i,i<l.length->fact i (lN l V i) w)->WR D w->Q .normal (iH a0 dsts V) w):
  (Code.region id l.toArray true).wpIn (Fence.wide.inRound r) n P Q a0 w0:=by
 refine Xy (wpIn_region_draw λt=> ?_);simp only[Region.schedule,hm,Bool.true_or,if_true];refine qh ?_ (Xz Q) _ _ _ (wpAny_sound _ t _ _ _ (TU dsts anc hok hdst hds WR fact h0 hmono hstep λD V w h1 h2 h3=>⟨rfl,by grind⟩));grind
def RdV(w:World)(a:Option Addr)(xs:List V):Prop:=
 ∀i,i<xs.length->∃b off,a=some ⟨b,off,none⟩/\b<w.heap.size/\w.cell? ⟨b,off+i*2,none⟩=some (.int .i64 (aEv xs i).x)/\w.cell? ⟨b,off+i*2+1,none⟩=some (.int .i64 (aEv xs i).y)
def RdV.below{w w':World}{a:Option Addr}{xs:List V}(h:RdV w a xs)(hb:Below w.heap.size w w'):RdV w' a xs:=by intro i hi;obtain⟨b,off,ha,hlt,h1,h2⟩:=h i hi;exact⟨b,off,ha,wA hlt hb.size,(hb.cell (p:=⟨b,_,none⟩) hlt).trans h1,(hb.cell (p:=⟨b,_,none⟩) hlt).trans h2⟩
def ib(xs:List S):List Value:=xs.flatMap λs=>[.int .i64 s.a.x,.int .i64 s.a.y,.int .i64 s.b.x,.int .i64 s.b.y]
def JN(xs:List S):(ib xs).length=xs.length*4:=by
 induction xs with
 |nil=>rfl
 |cons s l ih=>unfold ib at*;simp only[fG,gi,ih,gu,mV];omega
def Te(xs ys:List S):ib (xs++ys)=ib xs++ib ys:=by unfold ib;grind
def Rd.ON{w:World}{base:Nat}{e:TypeId}{size:Nat}{v:Value}{n:Nat}{cs:List Value}(h:w.ownsRow base e size v n cs):∃a c,v= .slice a n c/\Rd w a cs/\jJ base a/\(a=none->c=0)/\n<=c:=by
 obtain⟨a,c,hv,h1,h2,h3⟩:=Rd.Gk h;refine⟨a,c,hv,h1,h2,h3,?_⟩;rcases h.2 with⟨h4,h5⟩|⟨g,cap,cur,h4,_,_,h5,_⟩
 .omega
 grind
def JJ{w:World}{base base':Nat}{e:TypeId}{size:Nat}{v:Value}{n:Nat}{xs:List Value}(h:w.ownsRow base e size v n xs)(hb:base'<=base):w.ownsRow base' e size v n xs:=
 ⟨h.1,h.2.imp id λ⟨g,cap,cur,h1,h2,h3⟩=>⟨g,cap,cur,h1,cO hb h2,h3⟩⟩
def j4(xs:List V):List Value:=xs.flatMap λv=>[.int .i64 v.x,.int .i64 v.y]
def DJ(xs:List V):(j4 xs).length=xs.length*2:=by
 induction xs with
 |nil=>rfl
 |cons s l ih=>unfold j4 at*;grind
def ET(xs:List V):∀(i:Nat),i<xs.length->(j4 xs)[i*2]? =some (.int .i64 (aEv xs i).x)/\(j4 xs)[i*2+1]? =some (.int .i64 (aEv xs i).y):=by
 induction xs with
 |nil=>grind
 |cons s l ih=>
  intro i hi;have e:j4 (s::l)=[.int .i64 s.x,.int .i64 s.y] ++j4 l:=by unfold j4;rw[fG]
  rw[e];cases i with
  |zero=>simp[aEv]
  |succ i=>
   have h:=ih i (by grind);have e0:(i+1)*2=2+i*2:=by omega
   rw[e0,kW (by simp),kW (by simp;omega)];simpa[rP,Nat.add_sub_cancel_left,aEv]using h
def RdV.aBf{w:World}{a:Option Addr}{xs:List V}(h:Rd w a (j4 xs)):RdV w a xs:=by intro i hi;obtain⟨g0,g1⟩:=ET xs i hi;obtain⟨b,off,ha,hlt,h0⟩:=h _ _ g0;obtain⟨b',off',he,_,h1⟩:=h _ _ g1;grind
def RdV.rd{w:World}{a:Option Addr}{xs:List V}(h:RdV w a xs):Rd w a (j4 xs):=by intro i u hi;have hlt:i<(j4 xs).length:=(rV.1 hi).1;rw[DJ]at hlt;obtain⟨g0,g1⟩:=ET xs (i/2) (by omega);obtain⟨b,off,ha,hb,h0,h1⟩:=h (i/2) (by omega);refine⟨b,off,ha,hb,?_⟩;grind
structure RV where
 a:Option Addr
 c:Nat
 r:aE
instance:Inhabited RV:=⟨⟨none,0,[]⟩⟩
def RV.enc(x:RV):Value:= .slice x.a x.r.length x.c
def Len(x:RV):Prop:=x.r.length<=1000/\x.r.length<=x.c/\(x.a=none->x.c=0)
def mM(w:World):bE:=λb o v=>w.cell? ⟨b,o,none⟩=some v
def pP{w:World}{a:Option Addr}{c:Nat}{r:List V}(h:RdV w a r)(hl:Len ⟨a,c,r⟩):aU (mM w) (.sl r.length (fe r)) (.slice a r.length c):=by
 obtain⟨_,h2,h3⟩:=hl;dsimp only at h2 h3;unfold aU;refine⟨a,c,rfl,h2,λha=>⟨h3 ha,?_⟩,?_⟩
 .cases r with
  |nil=>rfl
  |cons v r=>grind
 .rintro ad rfl;refine⟨λh0=> ?_,cL.of _ _ _ λi x hi=> ?_⟩
  .obtain⟨b,off,hb,_⟩:=h 0 h0;cases hb;rfl
  .have hlt:i<(fe r).length:=(rV.1 hi).1;rw[u6.length]at hlt;obtain⟨b,off,hb,_,h0,h1⟩:=h (i/2) (by omega);cases hb;have h4:=Zv (v:=r) (i:=i/2) (by omega);have g:∀j,j<2->(fe r)[i/2*2+j]? =([.int .i64 (aEv r (i/2)).x,.int .i64 (aEv r (i/2)).y] :List PV)[j]? :=λj hj=>by grind
   rcases Nat.mod_two_eq_zero_or_one i with hm|hm
   .have:=g 0 (by decide);rw[show i/2*2+0=i by omega,hi]at this;cases this;exact⟨_,by show w.cell? _=_;rw[show off+i=off+i/2*2 by omega];exact h0,rfl,by unfold aU;rfl⟩
   .have:=g 1 (by decide);rw[show i/2*2+1=i by omega,hi]at this;cases this;exact⟨_,by show w.cell? _=_;rw[show off+i=off+i/2*2+1 by omega];exact h1,rfl,by unfold aU;rfl⟩
def ae.one{C:bE}{x:PV}{v:Value}(h:aU C x v):ae C [x] [v] :=by unfold ae;exact⟨_,_,rfl,h,by unfold ae;rfl⟩
def ae.B0{C:bE}{x:PV}{v:Value}{l:List PV}{vs:List Value}(h:aU C x v)(h2:ae C l vs):ae C (x::l) (v::vs):=by unfold ae;grind
def xX{f:FuncId}{xs:List SV}{r:SV}{B:List PV}{q:PV}{vs:List Value}{u:Value}{w:World}(h:∃A q,avs xs=A.map .p/\r.av= .p q/\Sat ak false f A q)(hB:avs xs=B.map .p)(hq:r.av= .p q)
  (hu:∀C v,aU C q v->v=u) (hr:ae (mM w) B vs):Calls ak f vs.toArray w λe w'=>e= .returned u/\Below w.heap.size w w':=by
 obtain⟨A,q',h1,h2,h3⟩:=h;rw[hq]at h2;cases h2;rw[hB]at h1;have:B=A:=by have:=congrArg bK h1;rw[dS,dS]at this;cases this;rfl
 subst this;refine(h3.2 (mM w) w vs (λ_ _ _ h=>h) hr).mono ?_;grind
def TO(a:Option Addr)(c:Nat)(xs:List V)(w:World)(h:RdV w a xs)(hl:Len ⟨a,c,xs⟩):
  Calls ak 83 #[.slice a xs.length c] w λe w'=>e= .returned (.bool (cV xs))/\Below w.heap.size w w':=
 xX (k83 [.lst .V xs] xs rfl ((jY (l:=c83.pre xs)).1 hl.1)) (B:=[.sl xs.length (fe xs)]) rfl rfl (λC v h=>by unfold aU at h;exact h) (ae.one (pP h hl))
def Lp(a:Option Addr)(c:Nat)(xs:List V)(w:World)(h:RdV w a xs)(hl:Len ⟨a,c,xs⟩):
  Calls ak 89 #[.slice a xs.length c] w λe w'=>e= .returned (.int .i64 (if cV xs then area xs else 0))/\Below w.heap.size w w':=
 xX (k89 [.lst .V xs] xs rfl ((jY (l:=c89.pre xs)).1 hl.1)) (B:=[.sl xs.length (fe xs)]) rfl rfl (λC v h=>by unfold aU at h;exact h) (ae.one (pP h hl))
def m5(a:Option Addr)(c:Nat)(xs:List V)(a':Option Addr)(c':Nat)(ys:List V)(p:Int)(w:World)(h':RdV w a' ys)(hl':Len ⟨a',c',ys⟩)(h:RdV w a xs)(hl:Len ⟨a,c,xs⟩):
  Calls ak 123 #[.slice a xs.length c,.slice a' ys.length c',.int .i64 p] w λe w'=>e= .returned (.bool (aEC xs ys p))/\Below w.heap.size w w':=
 xX (SC [.lst .V xs,.lst .V ys,.int .i64 p] (xs,ys,p) rfl ((jY (l:=SM.pre (xs,ys,p))).1 ⟨hl.1,hl'.1⟩)) (B:=[.sl xs.length (fe xs),.sl ys.length (fe ys),.int .i64 p]) rfl rfl (λC v h=>by unfold aU at h;exact h)
  ((ae.one (by unfold aU;rfl)).B0 (pP h' hl')|>.B0 (pP h hl))
def AH(a:Option Addr)(c:Nat)(xs:List V)(a':Option Addr)(c':Nat)(ys:List V)(w:World)(h:RdV w a xs)(h':RdV w a' ys)(hl:Len ⟨a,c,xs⟩)(hl':Len ⟨a',c',ys⟩):
  Calls ak 124 #[.slice a xs.length c,.slice a' ys.length c'] w λe w'=>e= .returned (.bool (dr xs ys))/\Below w.heap.size w w':=
 xX (SB [.lst .V xs,.lst .V ys] (xs,ys) rfl ((jY (l:=SL.pre (xs,ys))).1 ⟨hl.1,hl'.1⟩)) (B:=[.sl xs.length (fe xs),.sl ys.length (fe ys)]) rfl rfl (λC v h=>by unfold aU at h;exact h)
  ((ae.one (pP h' hl')).B0 (pP h hl))
def OE{f:FuncId}{t:LT}{ty:Nat}{l:List t.ty}{n:List Int}(he:t.enc l=n.map (PV.int .i64)){a:Option Addr}{c:Nat}{xs:List V}{w:World}(h:RdV w a xs)(hl:Len ⟨a,c,xs⟩)
  (hk:∃A Y,avs [SV.lst .V xs] =A.map .p/\avs [] =Y.map .p/\vh ak f A ty t.w (t.enc l) l.length Y):
  Calls ak f #[.slice a xs.length c] w λe w'=>∃a' c',e= .returned (.slice a' l.length c')/\Rd w' a' (n.map (cY .i64))/\jJ w.heap.size a'/\(a'=none->c'=0)/\l.length<=c'/\Below w.heap.size w w':=by
 obtain⟨A,Y,h1,h2,h3⟩:=hk;cases Y with
 |cons y Y=>simp[avs]at h2
 |nil=>
 have hA:A=[.sl xs.length (fe xs)] :=by have h1:[AV.p (.sl xs.length (fe xs))] =A.map .p:=h1;have:=congrArg bK h1;rw[dS]at this;cases this;rfl
 subst hA;refine(h3.2.2 (mM w) w [_] (λ_ _ _ h=>h) (ae.one (pP h hl))).mono ?_;rintro e w' ⟨v,us,q,c',rfl,hb,hys,hrow⟩;unfold ae at hys;subst hys;rw[he]at hrow;rcases hrow with⟨_,rfl,hm,hn,_⟩|⟨b,arr,_,rfl,h4,h5,h6,_,h7,_,h8⟩
 .refine⟨none,0,by rw[hm];rfl,(λi u hi=>by simp_all),(λb hb=>by cases hb),(λ_=>rfl),by omega,hb⟩
 .refine⟨some ⟨b,0,none⟩,c',rfl,λi u hi=> ?_,λb' hb'=>by grind,(λe=>by cases e),h4,hb⟩;rw[gS,ll]at hi;obtain⟨n,hn,rfl⟩:=hi;obtain⟨u,g1,_,g2⟩:=h8 i (.int .i64 n) (by grind);unfold aU at g2;subst g2;exact⟨b,0,rfl,(wK.1 h6).1,by rw[jo,cell_of_row w' b i arr ty (0,0) h6];exact g1⟩
def Wg(a:Option Addr)(c:Nat)(xs:List V)(w:World)(h:RdV w a xs)(hl:Len ⟨a,c,xs⟩):
  Calls ak 155 #[.slice a xs.length c] w λe w'=>∃a' c',e= .returned (.slice a' (aH xs).length c')/\Rd w' a' (ib (aH xs))/\jJ w.heap.size a'/\(a'=none->c'=0)/\Below w.heap.size w w':=by
 have e1:ib (aH xs)=((aH xs).flatMap λs=>[s.a.x,s.a.y,s.b.x,s.b.y]).map (cY .i64):=by unfold ib;rw[Iz];rfl
 rw[e1];refine(OE (t:= .S) (l:=aH xs) (n:=(aH xs).flatMap λs=>[s.a.x,s.a.y,s.b.x,s.b.y]) (by unfold LT.enc;rw[Iz];rfl) h hl (R8 [.lst .V xs] xs rfl ((jY (l:=SI.pre xs)).1 hl.1))).mono ?_;rintro e w' ⟨a',c',h1,h2,h3,h4,_,h5⟩;exact⟨a',c',h1,h2,h3,h4,h5⟩
section
open Go.RowKit Go.Shelf
attribute [local go_sem] zC
def RdH(n0:Nat)(w:World)(ah:Option Addr)(hs:List RV):Prop:=∀i,i<hs.length->∃b off,ah=some ⟨b,off,none⟩/\b<n0/\w.cell? ⟨b,off+i,none⟩=some (RV.enc (hs.getD i default))
def RdH.below{n0:Nat}{w w':World}{ah:Option Addr}{hs:List RV}(h:RdH n0 w ah hs)(hb:Below n0 w w'):RdH n0 w' ah hs:=by intro i hi;obtain⟨b,off,ha,hlt,h1⟩:=h i hi;exact⟨b,off,ha,hlt,(hb.cell (p:=⟨b,_,none⟩) hlt).trans h1⟩
def RdH.mono{n0 n1:Nat}{w:World}{ah:Option Addr}{hs:List RV}(h:RdH n0 w ah hs)(hn:n0<=n1):RdH n1 w ah hs:=by intro i hi;obtain⟨b,off,ha,hlt,h1⟩:=h i hi;grind
def Kp2(n0 b:Nat)(W W':World):Prop:=Below n0 W W'/\W'.heap[b]? =W.heap[b]?
def Kp2.trans{n0 b:Nat}{A B C:World}(h:Kp2 n0 b A B)(k:Kp2 n0 b B C):Kp2 n0 b A C:=⟨h.1.trans k.1,k.2.trans h.2⟩
def Kp2.blk{n0 b:Nat}{W W':World}{t:TypeId}{cs:Array Value}(h:Kp2 n0 b W W')(hb:Blk W b t cs):Blk W' b t cs:=h.2.trans hb
def V3(F:Fence)(n:Nat)(h179:F.fn 179)(hro:F.round=none)(hn:1<=n)(l b n0:Nat)(o:RV)(ah:Option Addr)(ch:Nat)(hs:List RV)(hhs:hs.length<=1000)(J Jx:List RV->World->Prop)
  (hY:∀pre x W,x∈o::hs->J pre W->pre.length<hs.length+1->YieldAt F (n-1) ak l #[RV.enc x] W λe W'=>
    (e= .returned (.bool true)/\J (pre++[x]) W'/\Kp2 n0 b W W')\/(e= .returned (.bool false)/\Jx (pre++[x]) W'))
  (W:World) (hB:Blk W b 26 #[RV.enc o,.slice ah hs.length ch]) (hH:RdH n0 W ah hs) (h0:J [] W):
  CallsIn F n ak 179 #[.func (.yield l) #[] #[],.pointer (some ⟨b,0,none⟩)] W λe W'=>(∃v,e= .returned v)/\
   ((∃ys,ys=o::hs/\J ys W')\/(∃pre,pre<+:o::hs/\Jx pre W')):=by
 obtain⟨fn,tmps,assign,body,hy,hR⟩:=hY [] o W bo h0 (by simp);dsimp only[RV.enc]at hy;have c0:=hB.cell 0;have c1:=hB.cell 1;simp[RV.enc]at c0 c1;refine callsIn_of_wp C4 rfl h179 ?_ hro;simp only[Tryz.ntmps179,rU,gu,mV,wL,wM,wN,wO,wP,wQ,rX,jn]
 gi_wp2
 refine hR.mono ?_;rintro e W1 (⟨rfl,hJ1,hk1⟩|⟨rfl,hJx1⟩)
 .have hB1:=hk1.blk hB;have hH1:=hH.below hk1.1;clear c0 c1 hR hy;have c0:=hB1.cell 0;have c1:=hB1.cell 1;simp[RV.enc]at c0 c1
  gi_wp2
  gi_loopw [4,13] (λ_ i wr=>∃k:Nat,k<=hs.length/\i= .int .i64 k/\J (o::hs.take k) wr/\Kp2 n0 b W1 wr) (λ_ i _=>hs.length-(intOf i).toNat)
  case atStart=>exact⟨0,by omega,rfl,by grind,Below.refl _ _,rfl⟩
  case round=>
   obtain⟨k,hk,rfl,hJr,hkr⟩:=hrel;by_cases hlt:k<hs.length
   .obtain⟨bb,off,rfl,hbb,p0⟩:=hH1.below hkr.1 k hlt;have hblt:bb<wr.heap.size:=by
     rcases Nat.lt_or_ge bb wr.heap.size with h|h
     .exact h
     .simp[World.cell?,Array.getElem?_eq_none h]at p0
    have htk:o::hs.take (k+1)=(o::hs.take k)++[hs.getD k default] :=by rw[rW,dw,fA hlt];simp
    obtain⟨fn,tmps,assign,body,hy,hR⟩:=hY (o::hs.take k) (hs.getD k default) wr (bk _ (by grind)) hJr (by simp;omega);rw[<-htk]at hR;dsimp only[RV.enc]at hy;unfold RV.enc at p0;clear htk;generalize hs.getD k default=z at hy p0
    gi_wp2
    refine hR.mono ?_;rintro e W3 (⟨rfl,hJ3,hk3⟩|⟨rfl,hJx3⟩)
    .gi_wp2
     go_roundw
     case rel=>exact⟨k+1,by omega,by go_num,hJ3,hkr.trans hk3⟩
     case measure=>simp[intOf];omega
    .gi_wp2
     refine bodyPost_ret (results_none rfl _ _ _) rfl ?_;grind
   .have hk2:k=hs.length:=by omega
    subst hk2;rw[List.take_length]at hJr
    gi_wp2
    go_end0
    grind
 .gi_wp2
  refine bodyPost_ret (results_none rfl _ _ _) rfl ?_;grind
def zJ(F:Fence)(n:Nat)(h179:F.fn 179)(hro:F.round=none)(hn:1<=n)(b n0:Nat)(o:RV)(ah:Option Addr)(ch:Nat)(hs:List RV)(hhs:hs.length<=1000)(w:World)(hn0:n0<=w.heap.size)(hB:Blk w b 26 #[RV.enc o,.slice ah hs.length ch])(hH:RdH n0 w ah hs):
  SeqStopsK F n ak 179 #[.pointer (some ⟨b,0,none⟩)] (λx:{x:RV//x∈o::hs}=> #[RV.enc x.1]) (Kp2 n0 b) (λys=>ys.map (·.1)=o::hs) (λpre=>pre.map (·.1)<+:o::hs) (hs.length+1) w:=λl J Jx W hW _ _ hY h0=>by
 refine(V3 F n h179 hro hn l b n0 o ah ch hs hhs (λpre W=>∃p:List {x:RV//x∈o::hs},p.map (·.1)=pre/\J p W) (λpre W=>∃p:List {x:RV//x∈o::hs},p.map (·.1)=pre/\Jx p W) ?_ W (hB.then_ hW) (hH.below (hW.mono hn0)) ⟨[],rfl,h0⟩).mono ?_
 .rintro pre x W' hx ⟨p,rfl,hJ⟩ hl;obtain⟨fn,tmps,assign,body,hy,hR⟩:=hY p ⟨x,hx⟩ W' hJ (by grind);refine⟨fn,tmps,assign,body,hy,hR.mono ?_⟩;grind
 grind
def Bx{n0 b:Nat}{w:World}(hn:n0<=w.heap.size)(hb:b<w.heap.size)(W:World)(l:Nat)(o o':Obj)(hl:w.heap.size<=l)(h:W.heap[l]? =some o)(h1:o.isCells=false)(h2:o.isWalk=false):Kp2 n0 b W (W.putObj l o'):=
 ⟨belowK_b hn W l o o' hl h h1 h2,World.putObj_heap_other (by omega)⟩
def zn(o:RV)(ah:Option Addr)(nh ch:Nat)(w:World):
  Calls ak 122 #[.agg #[RV.enc o,.slice ah nh ch]] w λe w'=>e= .returned (.func (.func 179) #[] #[.pointer (some ⟨w.heap.size,0,none⟩)])/\w'=w.alloc (.cells #[RV.enc o,.slice ah nh ch] 26):=by
 unfold RV.enc
 go_enter Tryz.func122,Tryz.ntmps122
 go_wp2
 go_ret
 simp_all
end
section
open Go.RowKit Go.Shelf
attribute [local go_sem] zC
structure RdSh(w:World)(o:RV)(ah:Option Addr)(hs:List RV):Prop where
 h:RdH w.heap.size w ah hs
 v:∀x∈o::hs,RdV w x.a x.r/\Len x
 n:hs.length<=1000
def RdSh.below{w w':World}{o:RV}{ah:Option Addr}{hs:List RV}(H:RdSh w o ah hs)(hb:Below w.heap.size w w'):RdSh w' o ah hs:=
 ⟨(H.h.below hb).mono hb.size,λx hx=>⟨(H.v x hx).1.below hb,(H.v x hx).2⟩,H.n⟩
def du(o:RV)(hs:List RV):Shape:=⟨o.r,hs.map RV.r⟩
section
variable {F:Fence} {n:Nat} {P:Program} {fn:Func} {R:Ending->World->Prop} {a:Act} {w:World} {v:Value}
def J6(hr:(results fn a.tmps).run P w= .ok v w)(hd:a.defers=[])(hR:R (.returned v) w):bodyPostM F n P fn R .ret a w:=by show LeavesInM F n P fn a.tmps R a.defers .returning w;rw[hd];exact⟨v,hr,hR⟩
def J5{D:Nat}(hd:a.defers=[{target:= .collected D,args:= #[]}])(hK:w.heap[D]? =some (.deferred (some [])))(hr:(results fn a.tmps).run P (w.putObj D (.deferred none))= .ok v (w.putObj D (.deferred none)))
  (hR:R (.returned v) (w.putObj D (.deferred none))):bodyPostM F n P fn R .ret a w:=by
 show LeavesInM F n P fn a.tmps R a.defers .returning w;rw[hd];exact⟨by simp,.inl ⟨_,_,rfl,run_takeDeferred hK,v,hr,hR⟩⟩
end
def ml{n0 D:Nat}{W:World}(hD:n0<=D)(hK:W.heap[D]? =some (.deferred (some []))):Below n0 W (W.putObj D (.deferred none)):=
 (Below.refl n0 W).grown (grownBy_putObj' W D _) (by grind) (λk e=>by grind)
def zR{W W':World}(h:Below W.heap.size W W'):KeepsOthers W W':=
 ⟨h.size,λk _o hk _=>(h.block k (wK.1 hk).1).trans hk⟩
def mz{β:Type}{B g:Nat}{t:TypeId}{cs:β->Array Value}:OwnFrom B (λ(s:β) W=>Blk W g t (cs s)):=λs W W' row h hg hr=>by have h':W.heap[g]? =some (.cells (cs s) t (0,0)):=h;show W'.heap[g]? =some (.cells (cs s) t (0,0));refine(hg.block g (wK.1 h').1 ?_).trans h';intro e;obtain⟨_,o,ho,hc⟩:=hr g e.symm;rw[h']at ho;cases ho;cases hc
def qy{β:Type}{B:Nat}{p:β->Prop}:OwnFrom B (λ(s:β) (_:World)=>p s):=λ_ _ _ _ h _ _=>h
def Yg{W:World}{D g:Nat}{t:TypeId}{cs:Array Value}(h:Blk W g t cs)(hK:W.heap[D]? =some (.deferred (some [])))(o':Obj):Blk (W.putObj D o') g t cs:=by have h':W.heap[g]? =some (.cells cs t (0,0)):=h;refine(World.putObj_heap_other ?_).trans h';grind
def qw{F:Fence}{n:Nat}{R:Ending->World->Prop}{W:World}{D s:Nat}{T:Array Value}{v:Bool}(hT:T.getD 2 undef= .pointer (some ⟨s,0,none⟩))(b2:Blk W s 4 #[.bool v])(hK:W.heap[D]? =some (.deferred (some [])))
  (hR:R (.returned (.bool v)) (W.putObj D (.deferred none))):bodyPostM F n ak Tryz.f55 R .ret {tmps:=T,defers:=[{target:= .collected D,args:= #[]}]} W:=by
 refine J5 (v:= .bool v) rfl hK ?_ hR;have c2:=(Yg b2 hK (.deferred none)).cell 0;simp at c2;rw[gG]at hT;simp[results,Tryz.f55,go_sem,hT,c2]
def Tt{s:Shape}(h:6<s.holes.length):bM s=false:=by unfold bM;grind
def lL(o:aE)(L:List aE)(i:Nat):Bool:=aEC (aA L i) o 2&&dr (aA L i) o&&
 ((bV i).all λk=>dr (aA L i) (aA L k)&&aEC (aA L i) (aA L k) 0&&aEC (aA L k) (aA L i) 0)
def s8(L:List aE)(i k:Nat):Bool:=dr (aA L i) (aA L k)&&aEC (aA L i) (aA L k) 0&&aEC (aA L k) (aA L i) 0
def wZ(s:Shape):bM s=(decide (s.holes.length<=6)&&(aD s).all cV&&decide (gH s<=80)&&((bV s.holes.length).all (lL s.outer s.holes))):=rfl
def Tu{s:Shape}{i:Nat}(hi:i<s.holes.length)(h:lL s.outer s.holes i=false):bM s=false:=by rw[wZ];grind
def S4{s:Shape}(h:80<gH s):bM s=false:=by rw[wZ,decide_eq_false (show¬gH s<=80 by omega)];simp
def Ts{s:Shape}{r:aE}(hr:r∈aD s)(h:cV r=false):bM s=false:=by rw[wZ];grind
def UX{s:Shape}(h1:¬6<s.holes.length)(h2:∀r∈aD s,cV r=true)(h3:¬80<gH s)(h4:∀i,i<s.holes.length->lL s.outer s.holes i=true):bM s=true:=by rw[wZ,decide_eq_true (show s.holes.length<=6 by omega),decide_eq_true (show gH s<=80 by omega),bf.2 h2];grind
def WV{o:aE}{L:List aE}{i:Nat}(h1:aEC (aA L i) o 2=true)(h2:dr (aA L i) o=true)(h3:∀k,k<i->s8 L i k=true):lL o L i=true:=by unfold lL;rw[h1,h2];simp only[kC,bf,cF];exact h3
def VA{o:aE}{L:List aE}{i:Nat}(h1:aEC (aA L i) o 2=false):lL o L i=false:=by unfold lL;rw[h1];simp
def U9{o:aE}{L:List aE}{i:Nat}(h1:dr (aA L i) o=false):lL o L i=false:=by unfold lL;rw[h1];simp
def U8{o:aE}{L:List aE}{i k:Nat}(hk:k<i)(h1:s8 L i k=false):lL o L i=false:=by unfold lL;have:((bV i).all λk=>dr (aA L i) (aA L k)&&aEC (aA L i) (aA L k) 0&&aEC (aA L k) (aA L i) 0)=false:=y9.2 ⟨k,cF.2 hk,by simpa[s8]using h1⟩;grind
def X4(hs:List RV){k:Nat}(hk:k<hs.length):aA (hs.map RV.r) k=(hs.getD k default).r:=by unfold aA;grind
def Mx(hs:List RV){k:Nat}(hk:k<hs.length):hs.getD k default∈hs:=by grind
def DA(o:RV)(ah:Option Addr)(ch:Nat)(hs:List RV)(w:World)(H:RdSh w o ah hs)(hch:hs.length<=ch):
  Calls ak 55 #[.agg #[RV.enc o,.slice ah hs.length ch]] w λe w'=>e= .returned (.bool (bM (du o hs)))/\Below w.heap.size w w':=by
 have hN:=H.n;by_cases c1:6<hs.length
 .have HV:Hid (bM (du o hs)=false):=Lib.hid (Tt (by unfold du;grind));have d1:decide ((6:Int)<hs.length)=true:=decide_eq_true (by omega);refine(callsIn_wide (n:=9)).1 (callsIn_of_wp_marks Tryz.func55 rfl trivial ((wpIn_wide (n:=9)).2 ?_) rfl);simp only[Tryz.ntmps55,rU,gu,mV,wL,wM,wN,wO,wP,wQ,rX,jn];dsimp only[RV.enc]
  go_wp2_with fail
  have hBW:Below w.heap.size w (((w.alloc (.cells #[.slice o.a o.r.length o.c,.slice ah hs.length ch] 26)).alloc (.cells #[.bool false] 4))):=((Below.refl _ _).alloc (bX _) _).alloc (by simp) _;refine J6 (v:= .bool false) ?_ rfl ?_
  .simp[results,Tryz.f55,go_sem]
  .exact⟨by rw[HV.out],hBW⟩
 .have d1:decide ((6:Int)<hs.length)=false:=decide_eq_false (by omega);refine(callsIn_wide (n:=9)).1 (callsIn_of_wp_marks Tryz.func55 rfl trivial ((wpIn_wide (n:=9)).2 ?_) rfl);simp only[Tryz.ntmps55,rU,gu,mV,wL,wM,wN,wO,wP,wQ,rX,jn];dsimp only[RV.enc]
  go_wp2_with fail
  refine(zn o ah hs.length ch _).mono ?_;rintro e w1 ⟨rfl,rfl⟩
  go_wp2_with fail
  have B1:=(((Blk.new w 26 #[.slice o.a o.r.length o.c,.slice ah hs.length ch]).alloc (.cells #[.bool false] 4)).alloc (.cells #[.int .i64 0] 3)).alloc (.cells #[RV.enc o,.slice ah hs.length ch] 26);have B2:=((Blk.new (w.alloc (.cells #[.slice o.a o.r.length o.c,.slice ah hs.length ch] 26)) 4 #[.bool false]).alloc (.cells #[.int .i64 0] 3)).alloc (.cells #[RV.enc o,.slice ah hs.length ch] 26);have B3:=(Blk.new ((w.alloc (.cells #[.slice o.a o.r.length o.c,.slice ah hs.length ch] 26)).alloc (.cells #[.bool false] 4)) 3 #[.int .i64 0]).alloc (.cells #[RV.enc o,.slice ah hs.length ch] 26);have B4:=Blk.new (((w.alloc (.cells #[.slice o.a o.r.length o.c,.slice ah hs.length ch] 26)).alloc (.cells #[.bool false] 4)).alloc (.cells #[.int .i64 0] 3)) 26 #[RV.enc o,.slice ah hs.length ch];have hBW:Below w.heap.size w ((((w.alloc (.cells #[.slice o.a o.r.length o.c,.slice ah hs.length ch] 26)).alloc (.cells #[.bool false] 4)).alloc (.cells #[.int .i64 0] 3)).alloc (.cells #[RV.enc o,.slice ah hs.length ch] 26)):=((((Below.refl _ _).alloc (bX _) _).alloc (by simp) _).alloc (by simp;omega) _).alloc (by simp;omega) _;have hs0:w.heap.size+4=((((w.alloc (.cells #[.slice o.a o.r.length o.c,.slice ah hs.length ch] 26)).alloc (.cells #[.bool false] 4)).alloc (.cells #[.int .i64 0] 3)).alloc (.cells #[RV.enc o,.slice ah hs.length ch] 26)).heap.size:=by simp
  simp only[World.size_alloc]at B1 B2 B3 B4;generalize (((w.alloc (.cells #[.slice o.a o.r.length o.c,.slice ah hs.length ch] 26)).alloc (.cells #[.bool false] 4)).alloc (.cells #[.int .i64 0] 3)).alloc (.cells #[RV.enc o,.slice ah hs.length ch] 26)=W0 at B1 B2 B3 B4 hBW hs0|-;refine(wpIn_wide (n:=9)).1 ?_
  refine' wpIn_rangeFunc_ownF (F:=Fence.wide) (n:=9) rfl (by omega) (gf:=179) (lb:= #[.pointer (some ⟨w.heap.size+1+1+1,0,none⟩)]) rfl trivial (enters_of C4 (by kernel_rfl) rfl)
   (zJ Fence.wide 8 trivial rfl (by omega) (w.heap.size+1+1+1) w.heap.size o ah ch hs H.n W0 (by omega) B4 (H.h.below hBW)) Kp2.trans (Bx (by omega) (by omega)) (Below.refl _ _) (λ_=>rfl)
   (λpre W=>((Blk W w.heap.size 26 #[.slice o.a o.r.length o.c,.slice ah hs.length ch]/\(Blk W (w.heap.size+1) 4 #[.bool false]/\Blk W (w.heap.size+1+1+1) 26 #[RV.enc o,.slice ah hs.length ch]))/\Blk W (w.heap.size+1+1) 3 #[.int .i64 ((pre.map λx=>x.1.r.length).sum:Nat)])/\(((pre.map λx=>x.1.r.length).sum<=1000*pre.length/\∀x∈pre,cV x.1.r=true)/\Below w.heap.size w W))
   (λc pre W=>Blk W (w.heap.size+1) 4 #[.bool false]/\((c= .ret/\∃x∈pre,cV x.1.r=false)/\Below w.heap.size w W))
   (OwnFrom.and (OwnFrom.and (OwnFrom.and mz (OwnFrom.and mz mz)) mz) (OwnFrom.and qy (ownFrom_below (bX _) (by omega))))
   (λc=>OwnFrom.and mz (OwnFrom.and qy (ownFrom_below (bX _) (by omega))))
   ⟨⟨⟨B1,B2,B4⟩,B3⟩,⟨by simp,by simp⟩,hBW⟩ _ ?assign ?body ?done ?stop
  case assign=>
   intro l x W K hK;dsimp only[RV.enc]
   gi_wp2
   exact hK
  case body=>
   rintro l pre ⟨⟨xa,xc,xr⟩,hxm⟩ W ⟨⟨⟨b1,b2,b4⟩,b3⟩,⟨hsum,hval⟩,hb⟩ hlen;obtain⟨hxr,hxl⟩:=H.v _ hxm;dsimp only at hxr hxl;have hxn:xr.length<=1000:=hxl.1;have HS:Hid (((pre++[(⟨⟨xa,xc,xr⟩,hxm⟩:{x:RV//x∈o::hs})]).map λx:{x:RV//x∈o::hs}=>x.1.r.length).sum=(pre.map λx=>x.1.r.length).sum+xr.length):=Lib.hid (by simp);obtain⟨S,hS⟩:∃S,S=(dX (λx:{x:RV//x∈o::hs}=>fh x.1.r) pre).sum:=⟨_,rfl⟩;rw[<-hS]at b3 hsum HS;clear hS;have hSb:S<=1001000:=by have:=H.n;omega
   have c2:=b2.cell 0;have c3:=b3.cell 0;have f2:=b2.frozen 0;have f3:=b3.frozen 0;simp at c2 c3;dsimp only[RV.enc];clear H d1 hN hBW B1 B2 B3 B4 hs0
   gi_wp2_with fail
   refine⟨trivial,(CallsIn.inRound l (callsIn_wide.2 (TO xa xc xr _ (hxr.below (hb.setCell (p:=⟨w.heap.size+1+1,0,none⟩) (by simp;omega) _)) hxl))).mono ?_⟩;rintro e w1 ⟨rfl,hb1⟩;have hk:KeepsOthers W w1:=(KeepsOthers.setCell W _ _).trans (zR hb1);have q2:=(b2.far (p:=⟨w.heap.size+1+1,0,none⟩) (by simp) (.int .i64 ((S:Int)+xr.length))).then_ hb1;have q1:=(b1.far (p:=⟨w.heap.size+1+1,0,none⟩) (by simp;omega) (.int .i64 ((S:Int)+xr.length))).then_ hb1;have q4:=(b4.far (p:=⟨w.heap.size+1+1,0,none⟩) (by simp) (.int .i64 ((S:Int)+xr.length))).then_ hb1;have q3:=(b3.ig 0 (.int .i64 ((S:Int)+xr.length))).then_ hb1;have hB1:Below w.heap.size W w1:=((Below.refl _ W).setCell (p:=⟨w.heap.size+1+1,0,none⟩) (by simp;omega) _).trans (hb1.mono (by have:=hb.size;simp_all));have hK:Kp2 w.heap.size (w.heap.size+1+1+1) W w1:=⟨hB1,Eq.trans q4 (Eq.symm b4)⟩;clear hb1 c2 c3 f2 f3 b1 b2 b3 b4;cases hv:cV xr with
   |true=>
    gi_wp2
    refine⟨hk,hK,⟨⟨q1,q2,q4⟩,?_⟩,⟨?_,?_⟩,hb.trans hB1⟩
    .rw[HS.out];grind
    .rw[HS.out];simp;omega
    grind
   |false=>
    have c2:=q2.cell 0;have f2:=q2.frozen 0;simp at c2
    gi_wp2
    refine⟨hk.trans (KeepsOthers.setCell _ _ _),by simpa using q2.ig 0 (.bool false),⟨rfl,⟨_,bi.2 (.inr bo),hv⟩⟩,(hb.trans hB1).setCell (p:=⟨w.heap.size+1,0,none⟩) (by simp) _⟩
  case stop=>
   rintro D c pre W hD hpre ⟨b2,⟨rfl,x,hx,hv⟩,hb⟩ hK;have HV:Hid (bM (du o hs)=false):=Lib.hid (Ts (r:=x.1.r) (by have:=x.2;unfold du aD;grind) hv)
   gi_wp2
   exact qw rfl b2 hK ⟨by rw[HV.out],hb.trans (ml (by omega) hK)⟩
  case done=>
   rintro D xs W hD hxs ⟨⟨⟨b1,b2,b4⟩,b3⟩,⟨hsum,hval⟩,hb⟩ hK;have hN7:xs.length<=7:=by have:=congrArg fh hxs;simp at this;omega
   have HC:(xs.map λx=>x.1.r.length).sum=gH (du o hs):=by
    have e:(xs.map λx=>x.1.r.length)=(xs.map (·.1)).map λx=>x.r.length:=by rw[di];rfl
    rw[e,hxs];unfold gH aD du;simp[Function.comp_def]
   have HA:Hid (∀r∈aD (du o hs),cV r=true):=Lib.hid (by
    intro r hr;have hr2:r∈(o::hs).map RV.r:=by unfold aD du at hr;simpa using hr
    grind)
   rw[HC]at b3 hsum;clear HC hval hxs b4 B1 B2 B3 B4;have c80':=Lib.hid (λh:80<gH (du o hs)=>S4 h);have HVA:=Lib.hid (λ(h:¬80<gH (du o hs)) h4=>UX (s:=du o hs) (by unfold du;grind) HA.out h h4);generalize gH (du o hs)=N at b3 hsum c80' HVA;have hNb:N<=7000:=by omega
   clear HA hsum hN7 xs;have c3:=b3.cell 0;have f2:=b2.frozen 0;have c2:=b2.cell 0;have d0:=b1.cell 0;have d1':=b1.cell 1;simp at c2 c3 d0 d1';have hne:D≠w.heap.size+1:=by omega
   have hKs:∀v,(W.setCell ⟨w.heap.size+1,0,none⟩ v).heap[D]? =some (.deferred (some [])):=λv=>(Below.heap_setCell W ⟨w.heap.size+1,0,none⟩ v D (by omega)).trans hK;by_cases c80:80<N
   .have d80:decide ((80:Int)<N)=true:=decide_eq_true (by omega);have HV:=Lib.hid (c80'.out c80);clear c80' HVA hNb c80
    go_wp2
    exact qw rfl (by simpa using b2.ig 0 (.bool false)) (hKs _) ⟨by rw[HV.out],(hb.setCell (p:=⟨w.heap.size+1,0,none⟩) (by simp) _).trans (ml (by omega) (hKs _))⟩
   .have d80:decide ((80:Int)<N)=false:=decide_eq_false (by omega);replace HVA:=Lib.hid (HVA.out c80);clear c80' c80 hNb b3
    go_wp2_with fail
    have hDl:D<W.heap.size:=(wK.1 hK).1;have hKX:∀wx,Below W.heap.size W wx->(wx.setCell ⟨w.heap.size+1,0,none⟩ (.bool false)).heap[D]? =some (.deferred (some [])):=λwx h=>(Below.heap_setCell wx ⟨w.heap.size+1,0,none⟩ _ D (by omega)).trans ((h.block D hDl).trans hK);have hKT:∀wx,Below W.heap.size W wx->(wx.setCell ⟨w.heap.size+1,0,none⟩ (.bool true)).heap[D]? =some (.deferred (some [])):=λwx h=>(Below.heap_setCell wx ⟨w.heap.size+1,0,none⟩ _ D (by omega)).trans ((h.block D hDl).trans hK);have ho:=H.v o bo;have hol:(du o hs).outer=o.r:=rfl;have hhl:(du o hs).holes=hs.map RV.r:=rfl;have hlen:(du o hs).holes.length=hs.length:=by rw[hhl,db]
    have HNO:=Lib.hid (λi (hi:i<hs.length) h=>Tu (s:=du o hs) (i:=i) (by omega) h);rw[hol,hhl]at HNO;rw[hol,hhl,db]at HVA;have HM:=Lib.hid (λk (hk:k<hs.length)=>X4 hs hk);clear hol hhl hlen hKs f2 c2 c3 d0 d1' hBW;have HC:=Lib.hid (λ(wx:World) (h:Below W.heap.size W wx)=>(show wx.cell? ⟨w.heap.size,0,none⟩=some (.slice o.a o.r.length o.c)/\wx.cell? ⟨w.heap.size,1,none⟩=some (.slice ah hs.length ch)/\wx.cell? ⟨w.heap.size+1,0,none⟩=some (.bool false)/\wx.frozen? ⟨w.heap.size+1,0,none⟩=false from
     ⟨by simpa using(b1.then_ h).cell 0,by simpa using(b1.then_ h).cell 1,by simpa using(b2.then_ h).cell 0,(b2.then_ h).frozen 0⟩))
    go_loopw [5,6,8,28] (λ_ _ _ i wr=>∃k:Nat,k<=hs.length/\i= .int .i64 k/\Hid (∀i,i<k->lL o.r (hs.map RV.r) i=true)/\Below W.heap.size W wr) (λ_ _ _ i _=>hs.length-(intOf i).toNat)
    case atStart=>exact⟨0,by omega,rfl,Lib.hid (λi hi=>by omega),Below.refl _ _⟩
    case round=>
     obtain⟨k,hk,rfl,HT,hbr⟩:=hrel;by_cases hlt:k<hs.length
     .obtain⟨bb,off,rfl,hbb,p0⟩:=H.h k hlt;have hbw:=hb.trans (hbr.mono hb.size);replace p0:=(hbw.cell (p:=⟨bb,_,none⟩) hbb).trans p0;have hx:=H.v _ (bk _ (Mx hs hlt));have HMk:=HM.out k hlt;obtain⟨d0,d1',e1,e2⟩:=HC.out _ hbr;have hbbr:bb<wr.heap.size:=wA hbb hbw.size;obtain⟨⟨xa,xc,xr⟩,hz⟩:∃z,z=hs.getD k default:=⟨_,rfl⟩;rw[<-hz]at p0 hx HMk;dsimp only[RV.enc]at p0 hx HMk;clear hz;have HNK:=Lib.hid (HNO.out k hlt);cases h1:aEC xr o.r 2 with
      |false=>
       have HV:=Lib.hid (HNK.out (VA (by grind)));clear HNK HMk
       go_wp2_with fail
       refine(m5 xa xc xr o.a o.c o.r 2 _ (ho.1.below hbw) ho.2 (hx.1.below hbw) hx.2).mono ?_;rintro e w1 ⟨rfl,hb1⟩;rw[h1];have hbX:=hbr.trans (hb1.mono hbr.size);clear d0 d1' e1 e2 p0 hb1;obtain⟨d0,d1',e1,e2⟩:=HC.out _ hbX
       go_wp2
       exact qw rfl (by simpa using(b2.then_ hbX).ig 0 (.bool false)) (hKX _ hbX) ⟨by rw[HV.out],((hb.trans (hbX.mono hb.size)).setCell (p:=⟨w.heap.size+1,0,none⟩) (by simp) _).trans (ml (by omega) (hKX _ hbX))⟩
      |true=>
       go_wp2_with fail
       refine(m5 xa xc xr o.a o.c o.r 2 _ (ho.1.below hbw) ho.2 (hx.1.below hbw) hx.2).mono ?_;rintro e w1 ⟨rfl,hb1⟩;rw[h1];have hbY:=hbr.trans (hb1.mono hbr.size);have hbv:=hbw.trans (hb1.mono hbw.size);clear d0 d1' e1 e2 hb1 p0 hbr hbw;obtain⟨d0,d1',e1,e2⟩:=HC.out _ hbY;cases h2:dr xr o.r with
       |false=>
        have HV:=Lib.hid (HNK.out (U9 (by simp_all)));clear HNK HMk
        go_wp2_with fail
        refine(AH xa xc xr o.a o.c o.r _ (hx.1.below hbv) (ho.1.below hbv) hx.2 ho.2).mono ?_;rintro e w2 ⟨rfl,hb2⟩;rw[h2];have hbX:=hbY.trans (hb2.mono hbY.size);clear d0 d1' e1 e2 hb2;obtain⟨d0,d1',e1,e2⟩:=HC.out _ hbX
        go_wp2
        exact qw rfl (by simpa using(b2.then_ hbX).ig 0 (.bool false)) (hKX _ hbX) ⟨by rw[HV.out],((hb.trans (hbX.mono hb.size)).setCell (p:=⟨w.heap.size+1,0,none⟩) (by simp) _).trans (ml (by omega) (hKX _ hbX))⟩
       |true=>
        go_wp2_with fail
        refine(AH xa xc xr o.a o.c o.r _ (hx.1.below hbv) (ho.1.below hbv) hx.2 ho.2).mono ?_;rintro e w2 ⟨rfl,hb2⟩;rw[h2];have hbX:=hbY.trans (hb2.mono hbY.size);clear d0 d1' e1 e2 hb2 hbY hbv hbbr;obtain⟨d0,d1',e1,e2⟩:=HC.out _ hbX;have hkc:k<=ch:=by omega
        go_wp2_with fail
        clear d0 d1' e1 e2 HNO;have hbv2:=hb.trans (hbX.mono hb.size)
        go_loopw [8,50] (λ_ i wr=>∃q:Nat,q<=k/\i= .int .i64 q/\Hid (∀i,i<q->s8 (hs.map RV.r) k i=true)/\Below W.heap.size W wr) (λ_ i _=>k-(intOf i).toNat)
        case atStart=>exact⟨0,by omega,rfl,Lib.hid (λi hi=>by omega),hbX⟩
        case round=>
         obtain⟨q,hq,rfl,HQ,hbq⟩:=hrel;by_cases hlq:q<k
         .have hqs:q<hs.length:=by omega
          obtain⟨bb',off',he,hbb',p0⟩:=H.h q hqs;simp only[fm,Addr.mk.injEq,and_true]at he;obtain⟨rfl,rfl⟩:=he;have hbw:=hb.trans (hbq.mono hb.size);replace p0:=(hbw.cell (p:=⟨bb,_,none⟩) hbb).trans p0;have hy:=H.v _ (bk _ (Mx hs hqs));have HMq:=HM.out q hqs;have hbbr:bb<wr.heap.size:=wA hbb hbw.size;obtain⟨⟨ya,yc,yr⟩,hz⟩:∃z,z=hs.getD q default:=⟨_,rfl⟩;rw[<-hz]at p0 hy HMq;dsimp only[RV.enc]at p0 hy HMq;clear hz hbb';have HNQ:=Lib.hid (λh=>HNK.out (U8 hlq h));have HP:Hid (s8 (hs.map RV.r) k q=(dr xr yr&&aEC xr yr 0&&aEC yr xr 0)):=Lib.hid (by unfold s8;rw[HMk,HMq]);cases h3:dr xr yr with
          |false=>
           have HV:=Lib.hid (HNQ.out (by rw[HP.out,h3];rfl))
           go_wp2_with fail
           refine(AH xa xc xr ya yc yr _ (hx.1.below hbw) (hy.1.below hbw) hx.2 hy.2).mono ?_;rintro e w3 ⟨rfl,hbw3⟩;rw[h3];have hbz:=hbq.trans (hbw3.mono hbq.size);have hbv3:=hbw.trans (hbw3.mono hbw.size);clear hbw3;obtain⟨d0,d1',e1,e2⟩:=HC.out _ hbz
           go_wp2
           exact qw rfl (by simpa using(b2.then_ hbz).ig 0 (.bool false)) (hKX _ hbz) ⟨by rw[HV.out],((hb.trans (hbz.mono hb.size)).setCell (p:=⟨w.heap.size+1,0,none⟩) (by simp) _).trans (ml (by omega) (hKX _ hbz))⟩
          |true=>
           go_wp2_with fail
           refine(AH xa xc xr ya yc yr _ (hx.1.below hbw) (hy.1.below hbw) hx.2 hy.2).mono ?_;rintro e w3 ⟨rfl,hbw3⟩;rw[h3];have hbz:=hbq.trans (hbw3.mono hbq.size);have hbv3:=hbw.trans (hbw3.mono hbw.size);clear hbw3;clear p0 hbw;cases h4:aEC xr yr 0 with
           |false=>
            have HV:=Lib.hid (HNQ.out (by rw[HP.out,h3,h4];rfl))
            go_wp2_with fail
            refine(m5 xa xc xr ya yc yr 0 _ (hy.1.below hbv3) hy.2 (hx.1.below hbv3) hx.2).mono ?_;rintro e w4 ⟨rfl,hbw4⟩;rw[h4];have hbz4:=hbz.trans (hbw4.mono hbz.size);have hbv4:=hbv3.trans (hbw4.mono hbv3.size);clear hbw4;obtain⟨d0,d1',e1,e2⟩:=HC.out _ hbz4
            go_wp2
            exact qw rfl (by simpa using(b2.then_ hbz4).ig 0 (.bool false)) (hKX _ hbz4) ⟨by rw[HV.out],((hb.trans (hbz4.mono hb.size)).setCell (p:=⟨w.heap.size+1,0,none⟩) (by simp) _).trans (ml (by omega) (hKX _ hbz4))⟩
           |true=>
            go_wp2_with fail
            refine(m5 xa xc xr ya yc yr 0 _ (hy.1.below hbv3) hy.2 (hx.1.below hbv3) hx.2).mono ?_;rintro e w4 ⟨rfl,hbw4⟩;rw[h4];have hbz4:=hbz.trans (hbw4.mono hbz.size);have hbv4:=hbv3.trans (hbw4.mono hbv3.size);clear hbw4;clear hbv3;cases h5:aEC yr xr 0 with
            |false=>
             have HV:=Lib.hid (HNQ.out (by rw[HP.out,h3,h4,h5];rfl))
             go_wp2_with fail
             refine(m5 ya yc yr xa xc xr 0 _ (hx.1.below hbv4) hx.2 (hy.1.below hbv4) hy.2).mono ?_;rintro e w5 ⟨rfl,hbw5⟩;rw[h5];have hbz5:=hbz4.trans (hbw5.mono hbz4.size);have hbv5:=hbv4.trans (hbw5.mono hbv4.size);clear hbw5;obtain⟨d0,d1',e1,e2⟩:=HC.out _ hbz5
             go_wp2
             exact qw rfl (by simpa using(b2.then_ hbz5).ig 0 (.bool false)) (hKX _ hbz5) ⟨by rw[HV.out],((hb.trans (hbz5.mono hb.size)).setCell (p:=⟨w.heap.size+1,0,none⟩) (by simp) _).trans (ml (by omega) (hKX _ hbz5))⟩
            |true=>
             have HQ2:Hid (∀i,i<q+1->s8 (hs.map RV.r) k i=true):=Lib.hid (λi hi=>by
              by_cases e:i=q
              .subst e;rw[HP.out,h3,h4,h5];rfl
              .exact HQ.out i (by omega))
             go_wp2_with fail
             refine(m5 ya yc yr xa xc xr 0 _ (hx.1.below hbv4) hx.2 (hy.1.below hbv4) hy.2).mono ?_;rintro e w5 ⟨rfl,hbw5⟩;rw[h5];have hbz5:=hbz4.trans (hbw5.mono hbz4.size);have hbv5:=hbv4.trans (hbw5.mono hbv4.size);clear hbw5
             go_wp2
             go_roundw
             case rel=>exact⟨q+1,by omega,by go_num,HQ2,hbz5⟩
             case measure=>simp[intOf];omega
         .have HT2:Hid (∀i,i<k+1->lL o.r (hs.map RV.r) i=true):=Lib.hid (λi hi=>by
           by_cases e:i=k
           .subst e;exact WV (by simp_all) (by simp_all) (λj hj=>HQ.out j (by omega))
           .exact HT.out i (by omega))
          go_wp2
          go_roundw
          case rel=>exact⟨k+1,by omega,by go_num,HT2,hbq⟩
          case measure=>simp[intOf];omega
     .have HV:=Lib.hid (HVA.out (λi hi=>HT.out i (by omega)));obtain⟨d0,d1',e1,e2⟩:=HC.out _ hbr
      go_wp2
      exact qw rfl (by simpa using(b2.then_ hbr).ig 0 (.bool true)) (hKT _ hbr) ⟨by rw[HV.out],((hb.trans (hbr.mono hb.size)).setCell (p:=⟨w.heap.size+1,0,none⟩) (by simp) _).trans (ml (by omega) (hKT _ hbr))⟩
end
section
open Go.RowKit Go.Shelf
attribute [local go_sem] zC
def DR{W W':World}{base:Nat}{e:TypeId}{size:Nat}{v:Value}{n:Nat}{xs:List Value}{row:Option Nat}(h:W.ownsRow base e size v n xs)(hg:W.grownBy W' row)(hr:∀r,row=some r->∃o:Obj,W.heap[r]? =some o/\o.isCells=false):W'.ownsRow base e size v n xs:=
 ⟨h.1,h.2.imp id λ⟨g,cap,cur,h1,h2,h3,h4⟩=>⟨g,cap,cur,h1,h2,(hg.block g (by grind) (λe=>by obtain⟨o,ho,hc⟩:=hr g e.symm;rw[h3]at ho;cases ho;cases hc)).trans h3,h4⟩⟩
def ZF{β:Type}{B bx base:Nat}{t:TypeId}{e:TypeId}{size:Nat}{n:β->Nat}{xs:β->List Value}:OwnFrom B (λ(s:β) W=>∃v,Blk W bx t #[v]/\W.ownsRow base e size v (n s) (xs s)):=λs W W' row ⟨v,h1,h2⟩ hg hr=>
 ⟨v,mz (cs:=λ_:β=> #[v]) s W W' row h1 hg hr,DR h2 hg (by grind)⟩
def JI{W:World}{D base:Nat}{e:TypeId}{size:Nat}{v:Value}{n:Nat}{xs:List Value}(h:W.ownsRow base e size v n xs)(hK:W.heap[D]? =some (.deferred (some [])))(o':Obj):(W.putObj D o').ownsRow base e size v n xs:=
 DR h (grownBy_putObj' W D o') (λr e=>by cases e;exact⟨_,hK,rfl⟩)
def Lq{W W':World}{base:Nat}{e:TypeId}{size:Nat}{v:Value}{n:Nat}{xs:List Value}(h:W.ownsRow base e size v n xs)(hg:W.grownBy W' v.ownBlock):KeepsOthers W W':=
 KeepsOthers.of_grownBy hg (λj o hj ho=>by
  rcases h.2 with⟨h1,h2⟩|⟨g,cap,cur,h1,h2,h3,h4⟩
  .rw[h1]at hj;simp[Co]at hj
  .rw[h1]at hj;simp[Co]at hj;subst hj;rw[h3]at ho;cases ho;rfl)
def EB{F:Fence}{n:Nat}{P:Program}{fn:Func}{R:Ending->World->Prop}{W:World}{D:Nat}{T:Array Value}{t:Tmp}{v:Value}(hf:fn.results= #[.tmp t])(hT:T.getD t undef=v)(hK:W.heap[D]? =some (.deferred (some [])))
  (hR:R (.returned v) (W.putObj D (.deferred none))):bodyPostM F n P fn R .ret {tmps:=T,defers:=[{target:= .collected D,args:= #[]}]} W:=by
 refine J5 (v:=v) rfl hK ?_ hR;rw[<-hT];simp[results,hf]
def WY(xs:List S):∀u∈ib xs,u.oneCell'=true:=by intro u hu;obtain⟨v,_,hv⟩:=List.mem_flatMap.1 hu;simp only[aj,List.not_mem_nil,or_false]at hv;rcases hv with rfl|rfl|rfl|rfl<;>rfl
def Rd.grown{w w':World}{a:Option Addr}{cs:List Value}{row:Option Nat}{m:Nat}(h:Rd w a cs)(hF:jJ m a)(hr:∀k,row=some k->k<m)(hg:w.grownBy w' row):Rd w' a cs:=by intro i u hi;obtain⟨b,off,rfl,hb,hc⟩:=h i u hi;have hm:m<=b:=hF _ rfl;refine⟨b,off,rfl,wA hb hg.size,(jA (a:=⟨b,off+i,none⟩) (hg.block b hb ?_)).trans hc⟩;grind
def Rd.ig{w:World}{a:Option Addr}{cs:List Value}{m:Nat}{p:Addr}{u:Value}(h:Rd w a cs)(hF:jJ m a)(hp:p.block<m):Rd (w.setCell p u) a cs:=by intro i v hi;obtain⟨b,off,rfl,hb,hc⟩:=h i v hi;have hm:m<=b:=hF _ rfl;exact⟨b,off,rfl,by simp_all,(jA (a:=⟨b,off+i,none⟩) (Below.heap_setCell w p u b (by omega))).trans hc⟩
def zQ{W:World}{base:Nat}{e:TypeId}{size:Nat}{v:Value}{n:Nat}{xs:List Value}{p:Addr}{u:Value}(h:W.ownsRow base e size v n xs)(hp:p.block<base):(W.setCell p u).ownsRow base e size v n xs:=
 ⟨h.1,h.2.imp id λ⟨g,cap,cur,h1,h2,h3,h4⟩=>⟨g,cap,cur,h1,h2,(Below.heap_setCell W p u g (by omega)).trans h3,h4⟩⟩
abbrev Mem(o:RV)(hs:List RV):={x:RV//x∈o::hs}
def kJ{o:RV}{hs:List RV}(pre:List (Mem o hs)):List S:=pre.flatMap λx=>aH x.1.r
def Tf{o:RV}{hs:List RV}(pre:List (Mem o hs))(x:Mem o hs):kJ (pre++[x])=kJ pre++aH x.1.r:=by unfold kJ;simp
def VL{o:RV}{hs:List RV}(h:∀x∈o::hs,x.r.length<=1000)(pre:List (Mem o hs)):(kJ pre).length<=1000*pre.length:=by
 induction pre with
 |nil=>simp[kJ]
 |cons x l ih=>
  have h2:=Aa x.1.r;unfold kJ at*;grind
def UL{o:RV}{hs:List RV}{xs:List (Mem o hs)}(h:xs.map (·.1)=o::hs):kJ xs=bQ (du o hs):=by
 have e:kJ xs=(xs.map (·.1)).flatMap λx=>aH x.r:=by unfold kJ;rw[Ia]
 rw[e,h];unfold bQ aD du;simp[fG,Ia]
def S6(o:RV)(ah:Option Addr)(ch:Nat)(hs:List RV)(w:World)(H:RdSh w o ah hs)(hn:hs.length<=900):
  Calls ak 131 #[.agg #[RV.enc o,.slice ah hs.length ch]] w λe w'=>∃v,e= .returned v/\w'.ownsRow w.heap.size 46 4 v (bQ (du o hs)).length (ib (bQ (du o hs)))/\Below w.heap.size w w':=by
 refine(callsIn_wide (n:=9)).1 (callsIn_of_wp_marks Tryz.func131 rfl trivial ((wpIn_wide (n:=9)).2 ?_) rfl);simp only[Tryz.ntmps131,rU,gu,mV,wL,wM,wN,wO,wP,wQ,rX,jn];dsimp only[RV.enc]
 go_wp2_with fail
 refine(zn o ah hs.length ch _).mono ?_;rintro e w1 ⟨rfl,rfl⟩
 go_wp2_with fail
 have B3:=(Blk.new (w.alloc (.cells #[.slice o.a o.r.length o.c,.slice ah hs.length ch] 26)) 32 #[.slice none 0 0]).alloc (.cells #[RV.enc o,.slice ah hs.length ch] 26);have B4:=Blk.new ((w.alloc (.cells #[.slice o.a o.r.length o.c,.slice ah hs.length ch] 26)).alloc (.cells #[.slice none 0 0] 32)) 26 #[RV.enc o,.slice ah hs.length ch];have hBW:Below w.heap.size w ((((w.alloc (.cells #[.slice o.a o.r.length o.c,.slice ah hs.length ch] 26)).alloc (.cells #[.slice none 0 0] 32))).alloc (.cells #[RV.enc o,.slice ah hs.length ch] 26)):=(((Below.refl _ _).alloc (bX _) _).alloc (by simp) _).alloc (by simp;omega) _;have hs0:w.heap.size+3=((((w.alloc (.cells #[.slice o.a o.r.length o.c,.slice ah hs.length ch] 26)).alloc (.cells #[.slice none 0 0] 32))).alloc (.cells #[RV.enc o,.slice ah hs.length ch] 26)).heap.size:=by simp
 simp only[World.size_alloc]at B3 B4;generalize (((w.alloc (.cells #[.slice o.a o.r.length o.c,.slice ah hs.length ch] 26)).alloc (.cells #[.slice none 0 0] 32))).alloc (.cells #[RV.enc o,.slice ah hs.length ch] 26)=W0 at B3 B4 hBW hs0|-;refine(wpIn_wide (n:=9)).1 ?_
 refine' wpIn_rangeFunc_ownF (F:=Fence.wide) (n:=9) rfl (by omega) (gf:=179) (lb:= #[.pointer (some ⟨w.heap.size+1+1,0,none⟩)]) rfl trivial (enters_of C4 (by kernel_rfl) rfl)
  (zJ Fence.wide 8 trivial rfl (by omega) (w.heap.size+1+1) w.heap.size o ah ch hs H.n W0 (by omega) B4 (H.h.below hBW)) Kp2.trans (Bx (by omega) (by omega)) (Below.refl _ _) (λ_=>rfl)
  (λpre W=>(Blk W (w.heap.size+1+1) 26 #[RV.enc o,.slice ah hs.length ch]/\∃v,Blk W (w.heap.size+1) 32 #[v]/\W.ownsRow (w.heap.size+3) 46 4 v (kJ pre).length (ib (kJ pre)))/\(w.heap.size+3<=W.heap.size/\Below w.heap.size w W))
  (λc pre W=>False/\False)
  (OwnFrom.and (OwnFrom.and mz ZF) (OwnFrom.and (λs A B row h hg _=>cO h hg.size) (ownFrom_below (bX _) (by omega))))
  (λc=>OwnFrom.and qy qy)
  ⟨⟨B4,_,B3,Im _ _ _ _⟩,by omega,hBW⟩ _ ?assign ?body ?done ?stop
 case assign=>
  intro l x W K hK
  gi_wp2
  exact hK
 case stop=>
  grind
 case done=>
  rintro D xs W hD hxs ⟨⟨b4,v,b3,hrow⟩,_,hb⟩ hK;have c3:=b3.cell 0;have hD2:w.heap.size<=D:=by omega
  rw[UL hxs]at hrow
  go_wp2
  exact EB (v:=v) rfl rfl hK ⟨v,rfl,JJ (JI hrow hK _) (by omega),hb.trans (ml hD2 hK)⟩
 case body=>
  rintro l pre ⟨⟨xa,xc,xr⟩,hxm⟩ W ⟨⟨b4,u3,b3,hrow⟩,hsz,hb⟩ hlen;obtain⟨hxr,hxl⟩:=H.v _ hxm;dsimp only at hxr hxl;have hxn:xr.length<=1000:=hxl.1;have HE:Hid (kJ (pre++[(⟨⟨xa,xc,xr⟩,hxm⟩:Mem o hs)])=kJ pre++aH xr):=Lib.hid (Tf _ _);have hle:=VL (λx hx=>(H.v x hx).2.1) pre;have hle2:=Aa xr;have hsz2:(kJ pre).length+(aH xr).length<=1000000:=by omega
  rw[show(w.heap.size+3)=w.heap.size+3 from rfl]at hrow;generalize kJ pre=E at HE hrow hsz2;clear hle hle2 B3 B4 hBW hs0;refine wpIn_block ?_;dsimp only[RV.enc];refine DC (by kernel_rfl) (by kernel_rfl) [8,9,10,11] [[],[],[1],[0,1,2],[0,1,2,3]] (by kernel_rfl) (by kernel_rfl) (by simp_all)
   (WR3 3 4 (λwx=>Below W.heap.size W wx) (λwx=>Blk wx (w.heap.size+1) 32 #[u3]/\Blk wx (w.heap.size+1+1) 26 #[RV.enc o,.slice ah hs.length ch]/\Below w.heap.size w wx/\KeepsOthers W wx/\Below w.heap.size W wx/\w.heap.size+3<=wx.heap.size) (λwx=>∃v,Blk wx (w.heap.size+1) 32 #[v]/\wx.ownsRow (w.heap.size+3) 46 4 v (E.length+(aH xr).length) (ib (E++aH xr))/\Blk wx (w.heap.size+1+1) 26 #[RV.enc o,.slice ah hs.length ch]/\Below w.heap.size w wx/\KeepsOthers W wx/\Below w.heap.size W wx/\w.heap.size+3<=wx.heap.size))
   (λi v wx=>match i with
     |0=>v=u3
     |1=>v= .slice xa xr.length xc
     |2=>∃a c,v= .slice a (aH xr).length c/\Rd wx a (ib (aH xr))/\(a=none->c=0)/\jJ W.heap.size a
     |3=>wx.ownsRow (w.heap.size+3) 46 4 v (E.length+(aH xr).length) (ib (E++aH xr))
     |4=>True
     |_=>True)
   (WR3.start (Below.refl _ _).drew) ?_ ?_ ?_
  .intro j v wx wy hf hxy;match j with
   |0=>exact hf
   |1=>exact hf
   |2=>obtain⟨a,c,h1,h2,h3⟩:=hf;exact⟨a,c,h1,h2.below hxy,h3⟩
   |3=>exact tn hf hxy
   |4=>exact hf
   |_+5=>exact trivial
  .refine⟨?_,?_,?_,?_,?_,trivial⟩
   .intro D V wx hD hanc hdesc hin hWR;have hA:=hWR.lo (hdesc 3 (by kernel_rfl)) (hdesc 4 (by kernel_rfl));have e3:=hin 3 (by kernel_rfl);have q0:=(Blk.then_ b3 hA).cell 0;refine opK ?_;intro K hK;simp[cJ,execOp,bH,e3,q0,go_sem];exact hK _ _ ⟨rfl,(hWR.keep (by decide) (by decide)),.inl rfl⟩
   .intro D V wx hD hanc hdesc hin hWR;have e4:=hin 4 (by kernel_rfl);refine opK ?_;intro K hK;simp[cJ,execOp,bH,e4,go_sem];exact hK _ _ ⟨rfl,(hWR.keep (by decide) (by decide)),.inl rfl⟩
   .intro D V wx hD hanc hdesc hin hWR;have hA:=hWR.lo (hdesc 3 (by kernel_rfl)) (hdesc 4 (by kernel_rfl));have e9:V 9= .slice xa xr.length xc:=(hanc 1 (by kernel_rfl)).2;refine opK ?_;intro K hK;simp[cJ,execOp,bH,e9,go_sem];refine(Wg xa xc xr _ (hxr.below (hb.trans (hA.mono hb.size))) hxl).mono ?_;rintro e w1 ⟨a,c,rfl,hR,hF,hN,hc⟩;exact⟨_,rfl,hK _ _ ⟨⟨a,c,rfl,hR,hN,hF.mono hA.size⟩,(.mkLo (hdesc 3 (by kernel_rfl)) (hdesc 4 (by kernel_rfl)) (by decide) (by decide) (Below.then_ hA hc)),.inr (.inl hc)⟩⟩
   .intro D V wx hD hanc hdesc hin hWR;have hA:=hWR.lo hD (hdesc 4 (by kernel_rfl));have e8:V 8=u3:=(hanc 0 (by kernel_rfl)).2;have e10:=(hanc 2 (by kernel_rfl)).2;refine opK ?_;intro K hK;obtain⟨a,c,e10,hR,hN,hF⟩:=e10;refine ED (.tmp 8) (.tmp 10) 32 rfl (w.heap.size+3) 46 (.agg #[.int .i64 0,.int .i64 0,.int .i64 0,.int .i64 0]) 4 32 Tryz.underlying32 (by kernel_rfl) rfl (by decide) u3 _ _ e8 (tn hrow hA) _ _ _ (ib (aH xr)) e10 (JN _) hR hN (WY _) (by omega) (by omega) (by have:=hA.size;omega) ?_;intro v' w' h1 h2 h3 h4;have hbx:=(Blk.then_ b3 hA);have hbr:=(Blk.then_ b4 hA);have hro:=tn hrow hA;refine hK _ _ ⟨by rw[Te];exact h1,.mkMid (hdesc 4 (by kernel_rfl)) (by decide) ⟨wi h3 hbx (AP hro (by omega)),wi h3 hbr (AP hro (by omega)),(hb.trans (hA.mono hb.size)).trans (h2.mono (by omega)),(zR hA).trans (Lq hro h3),((Below.refl w.heap.size W).trans (hA.mono hb.size)).trans (h2.mono (by omega)),by have:=hA.size;have:=h2.size;omega⟩,.inr (.inr ?_)⟩;intro j hj hf;match j with
    |0=>exact hf
    |1=>exact hf
    |2=>obtain⟨a,c,g1,g2,g3,g4⟩:=hf;exact⟨a,c,g1,g2.grown g4 (λk hk=>(qU hrow k hk).2) h3,g3,g4⟩
    |3=>grind
    |4=>omega
    |_+5=>exact trivial
   .intro D V wx hD hanc hdesc hin hWR;have hB:=hWR.mid (hanc 3 (by kernel_rfl)).1 hD;have e3:=hin 3 (by kernel_rfl);have e11:=(hanc 3 (by kernel_rfl)).2;refine opK ?_;intro K hK;have q0:=hB.1.cell 0;have f0:=hB.1.frozen 0;have e11:wx.ownsRow (w.heap.size+3) 46 4 (V 11) (E.length+(aH xr).length) (ib (E++aH xr)):=e11;obtain⟨ra,rc,hv11,_,_,_⟩:=Rd.Gk e11;rw[hv11]at e11;simp[cJ,execOp,bH,e3,hv11,q0,f0,go_sem];refine hK _ _ ⟨trivial,.mkHi ⟨_,by simpa using hB.1.ig 0 (.slice ra (E.length+(aH xr).length) rc),zQ e11 (by grind),hB.2.1.far (by simp) _,hB.2.2.1.setCell (p:=⟨w.heap.size+1,0,none⟩) (by simp) _,hB.2.2.2.1.trans (KeepsOthers.setCell _ _ _),hB.2.2.2.2.1.setCell (p:=⟨w.heap.size+1,0,none⟩) (by simp) _,by simpa using hB.2.2.2.2.2⟩,.inr (.inr ?_)⟩;intro j hj hf;match j with
    |0=>exact hf
    |1=>exact hf
    |2=>obtain⟨a,c,g1,g2,g3,g4⟩:=hf;exact⟨a,c,g1,g2.ig g4 b3.lt,g3,g4⟩
    |3=>exact zQ hf (by grind)
    |4=>omega
    |_+5=>exact trivial
  intro D V wx hall hf hWR;replace hWR:=hWR.hi (by grind);have f0:V 8=u3:=hf 0 (by decide);have f1:V 9= .slice xa xr.length xc:=hf 1 (by decide);simp only[iH,CY,List.foldl_nil,f0,f1];obtain⟨v',k1,k2,k3,k4,k5,k6,k7⟩:=hWR;refine⟨k5,⟨k6,Eq.trans k3 (Eq.symm b4)⟩,⟨k3,v',k1,?_⟩,k7,k4⟩;rw[HE.out,gi];exact k2
end
noncomputable def SK:Con:=IF (a1 (aL .V)) (λl=>[0<l.length,l.length<=1000]) 44 .V (λl=>l) (λ_=>[])
def SA:SK.Okz 125:=Ox (qC CC.o) (raw:=vD) bh (λ_=>⟨[],rfl⟩) λl hp=>az (aC ([] :List V) λA=>aC (A++l).length λB=>(0:Nat)<l.length/\A.length+l.length<=1000000/\A++l=l/\B=B) (by kernel_rfl) (by change 0<l.length/\l.length<=1000 at hp;exact⟨hp.1,by simp;omega,rfl,rfl⟩)
section
open Go.RowKit Go.Shelf
attribute [local go_sem] zC
def Wu(a:Option Addr)(c:Nat)(xs:List aEw)(w:World)(h:RdV w a xs)(h0:0<xs.length)(hl:Len ⟨a,c,xs⟩):
  Calls ak 125 #[.slice a xs.length c] w λe w'=>∃a' c',e= .returned (.slice a' xs.length c')/\Rd w' a' (j4 xs)/\jJ w.heap.size a'/\(a'=none->c'=0)/\xs.length<=c'/\Below w.heap.size w w':=by
 have e1:j4 xs=(xs.flatMap λv=>[v.x,v.y]).map (cY .i64):=by unfold j4;rw[Iz];rfl
 rw[e1];exact OE (t:= .V) (l:=xs) (n:=xs.flatMap λv=>[v.x,v.y]) (by unfold LT.enc;rw[Iz];rfl) h hl (SA [.lst .V xs] xs rfl ((jY (l:=SK.pre xs)).1 ⟨h0,hl.1⟩))
def RdV.grown{w w':World}{a:Option Addr}{xs:List aEw}{row:Option Nat}(h:RdV w a xs)(hr:0<xs.length->∀b,a=some b->row≠some b.block)(hg:w.grownBy w' row):RdV w' a xs:=by intro i hi;obtain⟨b,off,rfl,hb,h0,h1⟩:=h i hi;have e:=hg.block b hb (λe=>hr (by omega) _ rfl e.symm);exact⟨b,off,rfl,wA hb hg.size,(jA (a:=⟨b,_,none⟩) e).trans h0,(jA (a:=⟨b,_,none⟩) e).trans h1⟩
def RdV.ig{w:World}{a:Option Addr}{xs:List aEw}{p:Addr}{u:Value}(h:RdV w a xs)(hp:0<xs.length->∀b,a=some b->p.block≠b.block):RdV (w.setCell p u) a xs:=by intro i hi;obtain⟨b,off,rfl,hb,h0,h1⟩:=h i hi;have e:=Below.heap_setCell w p u b (λe=>hp (by omega) _ rfl (by grind));exact⟨b,off,rfl,by grind,(jA (a:=⟨b,_,none⟩) e).trans h0,(jA (a:=⟨b,_,none⟩) e).trans h1⟩
def RdV.own{W W':World}{a:Option Addr}{xs:List aEw}{row:Option Nat}(h:RdV W a xs)(hg:W.grownBy W' row)(hr:∀r,row=some r->∃o:Obj,W.heap[r]? =some o/\o.isCells=false):RdV W' a xs:=by intro i hi;obtain⟨b,off,rfl,hb,h0,h1⟩:=h i hi;exact⟨b,off,rfl,wA hb hg.size,cell_kept h0 hg hr,cell_kept h1 hg hr⟩
def RdV.lt{w:World}{a:Option Addr}{xs:List aEw}(h:RdV w a xs)(h0:0<xs.length):∀b,a=some b->b.block<w.heap.size:=by intro b e;obtain⟨b',off,he,hb,_⟩:=h 0 h0;grind
structure RingOk(base:Nat)(w:World)(v:Value)(x:RV):Prop where
 rd:RdV w x.a x.r
 fresh:jJ base x.a
 cap:x.r.length<=x.c
 len:x.r.length<=1000
 sep:0<x.r.length->∀b,x.a=some b->v.ownBlock≠some b.block
structure Rings(base bx:Nat)(w:World)(v:Value)(rs:List RV):Prop where
 box:Blk w bx 24 #[v]
 row:w.ownsRow base 23 1 v rs.length (rs.map RV.enc)
 ok:∀x∈rs,RingOk base w v x
def V2{β:Type}{B base bx:Nat}{p:β->List RV->Prop}:OwnFrom B (λ(s:β) W=>∃v rs,Rings base bx W v rs/\p s rs):=λs W W' row ⟨v,rs,h,hp⟩ hg hr=>
 ⟨v,rs,⟨mz (cs:=λ_:β=> #[v]) s W W' row h.box hg hr,DR h.row hg (λr e=>(hr r e).2),λx hx=>⟨(h.ok x hx).rd.own hg (λr e=>(hr r e).2),(h.ok x hx).fresh,(h.ok x hx).cap,(h.ok x hx).len,(h.ok x hx).sep⟩⟩,hp⟩
def S5(o:RV)(ah:Option Addr)(ch:Nat)(hs:List RV)(w:World)(H:RdSh w o ah hs)(hp0:∀x∈o::hs,0<x.r.length):
  Calls ak 56 #[.agg #[RV.enc o,.slice ah hs.length ch]] w λe w'=>∃(v:Value) (rs:List RV),e= .returned v/\rs.map RV.r=aD (du o hs)/\w'.ownsRow w.heap.size 23 1 v rs.length (rs.map RV.enc)/\(∀x∈rs,RingOk w.heap.size w' v x)/\Below w.heap.size w w':=by
 refine(callsIn_wide (n:=9)).1 (callsIn_of_wp_marks Tryz.func56 rfl trivial ((wpIn_wide (n:=9)).2 ?_) rfl);simp only[Tryz.ntmps56,rU,gu,mV,wL,wM,wN,wO,wP,wQ,rX,jn];dsimp only[RV.enc]
 go_wp2_with fail
 refine(zn o ah hs.length ch _).mono ?_;rintro e w1 ⟨rfl,rfl⟩
 go_wp2_with fail
 have B3:=(Blk.new (w.alloc (.cells #[.slice o.a o.r.length o.c,.slice ah hs.length ch] 26)) 24 #[.slice none 0 0]).alloc (.cells #[RV.enc o,.slice ah hs.length ch] 26);have B4:=Blk.new ((w.alloc (.cells #[.slice o.a o.r.length o.c,.slice ah hs.length ch] 26)).alloc (.cells #[.slice none 0 0] 24)) 26 #[RV.enc o,.slice ah hs.length ch];have hBW:Below w.heap.size w ((((w.alloc (.cells #[.slice o.a o.r.length o.c,.slice ah hs.length ch] 26)).alloc (.cells #[.slice none 0 0] 24))).alloc (.cells #[RV.enc o,.slice ah hs.length ch] 26)):=(((Below.refl _ _).alloc (bX _) _).alloc (by simp) _).alloc (by simp;omega) _;have hs0:w.heap.size+3=((((w.alloc (.cells #[.slice o.a o.r.length o.c,.slice ah hs.length ch] 26)).alloc (.cells #[.slice none 0 0] 24))).alloc (.cells #[RV.enc o,.slice ah hs.length ch] 26)).heap.size:=by simp
 simp only[World.size_alloc]at B3 B4;generalize (((w.alloc (.cells #[.slice o.a o.r.length o.c,.slice ah hs.length ch] 26)).alloc (.cells #[.slice none 0 0] 24))).alloc (.cells #[RV.enc o,.slice ah hs.length ch] 26)=W0 at B3 B4 hBW hs0|-;refine(wpIn_wide (n:=9)).1 ?_
 refine' wpIn_rangeFunc_ownF (F:=Fence.wide) (n:=9) rfl (by omega) (gf:=179) (lb:= #[.pointer (some ⟨w.heap.size+1+1,0,none⟩)]) rfl trivial (enters_of C4 (by kernel_rfl) rfl)
  (zJ Fence.wide 8 trivial rfl (by omega) (w.heap.size+1+1) w.heap.size o ah ch hs H.n W0 (by omega) B4 (H.h.below hBW)) Kp2.trans (Bx (by omega) (by omega)) (Below.refl _ _) (λ_=>rfl)
  (λpre W=>(Blk W (w.heap.size+1+1) 26 #[RV.enc o,.slice ah hs.length ch]/\∃v rs,Rings (w.heap.size+3) (w.heap.size+1) W v rs/\rs.map RV.r=pre.map λx=>x.1.r)/\(w.heap.size+3<=W.heap.size/\Below w.heap.size w W))
  (λc pre W=>False/\False)
  (OwnFrom.and (OwnFrom.and mz V2) (OwnFrom.and (λs A B row h hg _=>cO h hg.size) (ownFrom_below (bX _) (by omega))))
  (λc=>OwnFrom.and qy qy)
  ⟨⟨B4,_,[],⟨B3,Im _ _ _ _,λx hx=>by cases hx⟩,rfl⟩,by omega,hBW⟩ _ ?assign ?body ?done ?stop
 case assign=>
  intro l x W K hK;dsimp only[RV.enc]
  gi_wp2
  exact hK
 case stop=>
  grind
 case done=>
  rintro D xs W hD hxs ⟨⟨b4,v,rs,hR,hm⟩,_,hb⟩ hK;have c3:=hR.box.cell 0;simp at c3;have hD2:w.heap.size<=D:=by omega
  have hm2:rs.map RV.r=aD (du o hs):=by
   have e:(xs.map λx=>x.1.r)=(xs.map (·.1)).map RV.r:=by rw[di];rfl
   rw[hm,e,hxs];rfl
  clear hxs b4 B3 B4 hBW hs0 hD hm;have hmk:∀x∈rs,RingOk w.heap.size (W.putObj D (.deferred none)) v x:=λx hx=>⟨(hR.ok x hx).rd.own (grownBy_putObj' W D _) (λr e=>by cases e;exact⟨_,hK,rfl⟩),(hR.ok x hx).fresh.mono (by omega),(hR.ok x hx).cap,(hR.ok x hx).len,(hR.ok x hx).sep⟩;have hrow:=hR.row;clear hR
  go_wp2
  exact EB (v:=v) rfl rfl hK ⟨v,rs,rfl,hm2,JJ (JI hrow hK _) (by omega),hmk,hb.trans (ml hD2 hK)⟩
 case body=>
  rintro l pre ⟨⟨xa,xc,xr⟩,hxm⟩ W ⟨⟨b4,u3,rs,hR,hm⟩,hsz,hb⟩ hlen;obtain⟨hxr,hxl⟩:=H.v _ hxm;dsimp only at hxr hxl;have hxn:xr.length<=1000:=hxl.1;have hrl:rs.length<=1001:=by have h1:=congrArg fh hm;have h2:=H.n;simp at h1;omega
  have HE:Hid (∀rs':List RV,rs'.map RV.r=rs.map RV.r++[xr]->rs'.map RV.r=(pre++[(⟨⟨xa,xc,xr⟩,hxm⟩:Mem o hs)]).map λx=>x.1.r):=Lib.hid (λrs' h=>by grind);have b3:=hR.box;have hrow:=hR.row;clear hm B3 B4 hBW hs0;refine wpIn_block ?_;dsimp only[RV.enc];refine DC (by kernel_rfl) (by kernel_rfl) [8,9,10,11,12] [[],[],[1],[1,2],[0,1,2,3],[0,1,2,3,4]] (by kernel_rfl) (by kernel_rfl) (by simp_all)
   (WR3 4 5 (λwx=>Below W.heap.size W wx) (λwx=>(∀x∈rs,RdV wx x.a x.r)/\Blk wx (w.heap.size+1) 24 #[u3]/\Blk wx (w.heap.size+1+1) 26 #[RV.enc o,.slice ah hs.length ch]/\Below w.heap.size w wx/\KeepsOthers W wx/\Below w.heap.size W wx/\w.heap.size+3<=wx.heap.size) (λwx=>∃v rs',Rings (w.heap.size+3) (w.heap.size+1) wx v rs'/\rs'.map RV.r=rs.map RV.r++[xr]/\Blk wx (w.heap.size+1+1) 26 #[RV.enc o,.slice ah hs.length ch]/\Below w.heap.size w wx/\KeepsOthers W wx/\Below w.heap.size W wx/\w.heap.size+3<=wx.heap.size))
   (λi v wx=>match i with
     |0=>v=u3
     |1=>v= .slice xa xr.length xc
     |2=>∃a c,v= .slice a xr.length c/\RdV wx a xr/\jJ W.heap.size a/\xr.length<=c
     |3=>∃a c g,v= .slice (some ⟨g,0,none⟩) 1 1/\Blk wx g 23 #[.slice a xr.length c]/\W.heap.size<=g/\RdV wx a xr/\jJ W.heap.size a/\xr.length<=c
     |4=>∃a c,wx.ownsRow (w.heap.size+3) 23 1 v (rs.length+1) (rs.map RV.enc++[.slice a xr.length c])/\RdV wx a xr/\jJ W.heap.size a/\xr.length<=c/\(∀k,v.ownBlock=some k->u3.ownBlock=some k\/W.heap.size<=k)/\(0<xr.length->∀b,a=some b->v.ownBlock≠some b.block)
     |5=>True
     |_=>True)
   (WR3.start (Below.refl _ _).drew) ?_ ?_ ?_
  .intro j v wx wy hf hxy;match j with
   |0=>exact hf
   |1=>exact hf
   |2=>obtain⟨a,c,h1,h2,h3⟩:=hf;exact⟨a,c,h1,h2.below hxy,h3⟩
   |3=>obtain⟨a,c,g,h1,h2,h3,h4,h5⟩:=hf;exact⟨a,c,g,h1,h2.then_ hxy,h3,h4.below hxy,h5⟩
   |4=>obtain⟨a,c,h1,h2,h3⟩:=hf;exact⟨a,c,tn h1 hxy,h2.below hxy,h3⟩
   |5=>exact hf
   |_+6=>exact trivial
  .refine⟨?_,?_,?_,?_,?_,?_,trivial⟩
   .intro D V wx hD hanc hdesc hin hWR;have hA:=hWR.lo (hdesc 4 (by kernel_rfl)) (hdesc 5 (by kernel_rfl));have e3:=hin 3 (by kernel_rfl);simp at e3;have q0:=(Blk.then_ b3 hA).cell 0;simp at q0;refine opK ?_;intro K hK;simp[cJ,execOp,bH,e3,q0,go_sem];exact hK _ _ ⟨rfl,(hWR.keep (by decide) (by decide)),.inl rfl⟩
   .intro D V wx hD hanc hdesc hin hWR;have hA:=hWR.lo (hdesc 4 (by kernel_rfl)) (hdesc 5 (by kernel_rfl));have e4:=hin 4 (by kernel_rfl);simp at e4;refine opK ?_;intro K hK;simp[cJ,execOp,bH,e4,go_sem];exact hK _ _ ⟨rfl,(hWR.keep (by decide) (by decide)),.inl rfl⟩
   .intro D V wx hD hanc hdesc hin hWR;have hA:=hWR.lo (hdesc 4 (by kernel_rfl)) (hdesc 5 (by kernel_rfl));have e9:V 9= .slice xa xr.length xc:=(hanc 1 (by kernel_rfl)).2;refine opK ?_;intro K hK;simp[cJ,execOp,bH,e9,go_sem];refine(Wu xa xc xr _ (hxr.below (hb.trans (hA.mono hb.size))) (hp0 _ hxm) hxl).mono ?_;rintro e w1 ⟨a,c,rfl,hR',hF,hN,hC,hc⟩;exact⟨_,rfl,hK _ _ ⟨⟨a,c,rfl,RdV.aBf hR',hF.mono hA.size,hC⟩,(.mkLo (hdesc 4 (by kernel_rfl)) (hdesc 5 (by kernel_rfl)) (by decide) (by decide) (Below.then_ hA hc)),.inr (.inl hc)⟩⟩
   .intro D V wx hD hanc hdesc hin hWR;have hA:=hWR.lo (hdesc 4 (by kernel_rfl)) (hdesc 5 (by kernel_rfl));have e10:=(hanc 2 (by kernel_rfl)).2;refine opK ?_;intro K hK;obtain⟨a,c,e10,r1,r2,r3⟩:=e10;have e10:V 10=_:=e10;simp[cJ,execOp,bH,e10,go_sem];refine hK _ _ ⟨⟨a,c,_,rfl,Blk.new _ _ _,hA.size,r1.below ((Below.refl _ _).alloc (bX _) _),r2,r3⟩,(.mkLo (hdesc 4 (by kernel_rfl)) (hdesc 5 (by kernel_rfl)) (by decide) (by decide) (hA.alloc hA.size _)),.inr (.inl ((Below.refl _ _).alloc (bX _) _))⟩
   .intro D V wx hD hanc hdesc hin hWR;have hA:=hWR.lo hD (hdesc 5 (by kernel_rfl));have e8:V 8=u3:=(hanc 0 (by kernel_rfl)).2;have e11:=(hanc 3 (by kernel_rfl)).2;refine opK ?_;intro K hK;obtain⟨a,c,g,e11,k1,k2,k3,k4,k5⟩:=e11;have e11:V 11=_:=e11;refine ED (.tmp 8) (.tmp 11) 24 rfl (w.heap.size+3) 23 (.slice none 0 0) 1 24 C5 (by kernel_rfl) rfl (by decide) u3 _ _ e8 (tn hrow hA) _ _ _ [.slice a xr.length c] e11 rfl (Rd.aAH k1) (λh=>by cases h) (by intro u hu;simp at hu;subst hu;rfl) (by omega) (by omega) (by have:=hA.size;omega) ?_;intro v' w' h1 h2 h3 h4;have hbx:=(Blk.then_ b3 hA);have hbr:=(Blk.then_ b4 hA);have hro:=tn hrow hA;have hlt:=k3.lt;refine hK _ _ ⟨⟨a,c,h1,k3.grown (λ_ b hb e=>by have:=k4 b hb;have:=(qU hrow _ e).2;omega) h3,k4,k5,(λk hk=>(h4 k hk).imp id (λh=>cO hA.size h)),(λh0 b hb e=>by have:=hlt h0 b hb;have:=k4 b hb;rcases h4 _ e with h|h<;>first|omega|(have:=(qU hrow _ h).2;omega))⟩,.mkMid (hdesc 5 (by kernel_rfl)) (by decide) ⟨(λx hx=>((hR.ok x hx).rd.below hA).grown (hR.ok x hx).sep h3),wi h3 hbx (AP hro (by omega)),wi h3 hbr (AP hro (by omega)),(hb.trans (hA.mono hb.size)).trans (h2.mono (by omega)),(zR hA).trans (Lq hro h3),((Below.refl w.heap.size W).trans (hA.mono hb.size)).trans (h2.mono (by omega)),by have:=hA.size;have:=h2.size;omega⟩,.inr (.inr ?_)⟩;intro j hj hf;match j with
    |0=>exact hf
    |1=>exact hf
    |2=>obtain⟨a,c,g1,g2,g3,g4⟩:=hf;exact⟨a,c,g1,g2.grown (λ_ b hb e=>by have:=g3 b hb;have:=(qU hrow _ e).2;omega) h3,g3,g4⟩
    |3=>obtain⟨a,c,g,g1,g2,g5,g6,g3,g4⟩:=hf;exact⟨a,c,g,g1,wi h3 g2 (λe=>by have:=(qU hrow _ e).2;omega),g5,g6.grown (λ_ b hb e=>by have:=g3 b hb;have:=(qU hrow _ e).2;omega) h3,g3,g4⟩
    |4=>grind
    |5=>omega
    |_+6=>exact trivial
   .intro D V wx hD hanc hdesc hin hWR;have hB:=hWR.mid (hanc 4 (by kernel_rfl)).1 hD;have e3:=hin 3 (by kernel_rfl);simp at e3;have e12:=(hanc 4 (by kernel_rfl)).2;refine opK ?_;intro K hK;have q0:=hB.2.1.cell 0;have f0:=hB.2.1.frozen 0;simp at q0;obtain⟨a,c,e12,k2,k3,k4,k5,k6⟩:=e12;have e12:wx.ownsRow (w.heap.size+3) 23 1 (V 12) (rs.length+1) (rs.map RV.enc++[.slice a xr.length c]):=e12;have e3:V 3=_:=e3;have k5:∀k,(V 12).ownBlock=some k->_:=k5;have k6:0<xr.length->∀b,a=some b->(V 12).ownBlock≠some b.block:=k6;obtain⟨ra,rc,hv,_,_,_⟩:=Rd.Gk e12;rw[hv]at e12 k5 k6;simp[cJ,execOp,bH,e3,hv,q0,f0,go_sem];have HRK:∀x∈rs++[(⟨a,c,xr⟩:RV)],RingOk (w.heap.size+3) (wx.setCell ⟨w.heap.size+1,0,none⟩ (.slice ra (rs.length+1) rc)) (.slice ra (rs.length+1) rc) x:=by
     intro x hx;rcases bi.1 hx with h|h
     .have ok:=hR.ok x h;refine⟨(hB.1 x h).ig (λ_ b hb=>by have:=ok.fresh b hb;grind),ok.fresh,ok.cap,ok.len,λh0 b hb e=> ?_⟩;rcases k5 _ e with e2|e2
      .exact ok.sep h0 b hb e2
      .have:=ok.rd.lt h0 b hb;omega
     .simp at h;subst h;exact⟨k2.ig (λ_ b hb=>by have:=k3 b hb;grind),k3.mono hsz,k4,hxn,k6⟩
    refine hK _ _ ⟨trivial,.mkHi ⟨_,rs++[⟨a,c,xr⟩],⟨by simpa using hB.2.1.ig 0 (.slice ra (rs.length+1) rc),by simpa[RV.enc]using zQ e12 (by grind),HRK⟩,by simp,hB.2.2.1.far (by simp) _,hB.2.2.2.1.setCell (p:=⟨w.heap.size+1,0,none⟩) (by simp) _,hB.2.2.2.2.1.trans (KeepsOthers.setCell _ _ _),hB.2.2.2.2.2.1.setCell (p:=⟨w.heap.size+1,0,none⟩) (by simp) _,by simpa using hB.2.2.2.2.2.2⟩,.inr (.inr ?_)⟩;intro j hj hf;match j with
    |0=>exact hf
    |1=>exact hf
    |2=>obtain⟨a,c,g1,g2,g3,g4⟩:=hf;exact⟨a,c,g1,g2.ig (λ_ b hb=>by have:=g3 b hb;grind),g3,g4⟩
    |3=>obtain⟨a,c,g,g1,g2,g5,g6,g3,g4⟩:=hf;exact⟨a,c,g,g1,g2.far (by grind) _,g5,g6.ig (λ_ b hb=>by have:=g3 b hb;grind),g3,g4⟩
    |4=>obtain⟨a,c,g1,g2,g3,g4,g5,g6⟩:=hf;exact⟨a,c,zQ g1 (by grind),g2.ig (λ_ b hb=>by have:=g3 b hb;grind),g3,g4,g5,g6⟩
    |5=>omega
    |_+6=>exact trivial
  intro D V wx hall hf hWR;replace hWR:=hWR.hi (hall 5 (by decide));have f0:V 8=u3:=hf 0 (by decide);have f1:V 9= .slice xa xr.length xc:=hf 1 (by decide);have f2:=hf 2 (by decide);have f3:=hf 3 (by decide);have f4:=hf 4 (by decide);clear hf hall;simp only[iH,CY,List.foldl_nil,f0,f1];simp only[mZ,List.setIfInBounds_toArray,List.set_cons_succ,List.set_cons_zero];clear f0 f1;obtain⟨v',rs',k1,k2,k3,k4,k5,k6,k7⟩:=hWR;exact⟨k5,⟨k6,Eq.trans k3 (Eq.symm b4)⟩,⟨k3,v',rs',k1,HE.out _ k2⟩,k7,k4⟩
end
section
open Go.RowKit Go.Shelf
attribute [local go_sem] zC
def m8(s:Shape):Int:=area s.outer-(s.holes.map area).sum
def GQ{xs:List aEw}(h:cV xs=true): -8000000000<=area xs/\area xs<=8000000000:=by have V:=(iB xs).1 h;have h:=vN V.near xs.length (bX _);have e:ar xs xs.length=area xs:=rfl;have:=V.most;omega
def jZ{o:RV}{hs:List RV}(pre:List (Mem o hs)):Int:=(pre.map λx=>area x.1.r).sum
def Tk{o:RV}{hs:List RV}(pre:List (Mem o hs))(x:Mem o hs):jZ (pre++[x])=jZ pre+area x.1.r:=by unfold jZ;simp
def VX{o:RV}{hs:List RV}(hv:∀x∈o::hs,cV x.r=true)(pre:List (Mem o hs)): -(8000000000*(pre.length:Int))<=jZ pre/\jZ pre<=8000000000*(pre.length:Int):=by
 induction pre with
 |nil=>simp[jZ]
 |cons x l ih=>
  have:=GQ (hv x.1 x.2);unfold jZ at*;grind
def US{o:RV}{hs:List RV}{xs:List (Mem o hs)}(h:xs.map (·.1)=o::hs):area o.r*2-jZ xs=m8 (du o hs):=by
 have e:(xs.map λx=>area x.1.r)=(xs.map (·.1)).map λx=>area x.r:=by rw[di];rfl
 unfold jZ m8 du;rw[e,h];simp only[cv,List.sum_cons,di,Function.comp_def];omega
def TV{s:Shape}(h:bM s=true):∀r∈aD s,cV r=true:=by rw[wZ]at h;grind
def TI(o:RV)(ah:Option Addr)(ch:Nat)(hs:List RV)(w:World)(H:RdSh w o ah hs)(hch:hs.length<=ch):
  Calls ak 90 #[.agg #[RV.enc o,.slice ah hs.length ch]] w λe w'=>e= .returned (.int .i64 (if bM (du o hs)then m8 (du o hs)else 0))/\Below w.heap.size w w':=by
 have HB0:=Blk.new w 26 #[RV.enc o,.slice ah hs.length ch];have hB0:Below w.heap.size w (w.alloc (.cells #[RV.enc o,.slice ah hs.length ch] 26)):=(Below.refl _ _).alloc (bX _) _;cases hv:bM (du o hs)with
 |false=>
  refine(callsIn_wide (n:=9)).1 (callsIn_of_wp_marks Tryz.func90 rfl trivial ((wpIn_wide (n:=9)).2 ?_) rfl);simp only[Tryz.ntmps90,rU,gu,mV,wL,wM,wN,wO,wP,wQ,rX,jn]
  go_wp2_with fail
  refine(DA o ah ch hs _ (H.below hB0) hch).mono ?_;rintro e w1 ⟨rfl,hb1⟩;rw[hv]
  go_wp2_with fail
  exact J6 (v:= .int .i64 0) (by simp[results,Tryz.f90]) rfl ⟨rfl,hB0.trans (hb1.mono hB0.size)⟩
 |true=>
  have hval:∀x∈o::hs,cV x.r=true:=λx hx=>TV hv x.r (by unfold aD du;grind)
  have hAO:=GQ (hval o bo);have hAO2:(if cV o.r then area o.r else 0)=area o.r:=by rw[hval o bo];rfl
  refine(callsIn_wide (n:=9)).1 (callsIn_of_wp_marks Tryz.func90 rfl trivial ((wpIn_wide (n:=9)).2 ?_) rfl);simp only[Tryz.ntmps90,rU,gu,mV,wL,wM,wN,wO,wP,wQ,rX,jn]
  go_wp2_with fail
  refine(DA o ah ch hs _ (H.below hB0) hch).mono ?_;rintro e w1 ⟨rfl,hb1⟩;rw[hv];have B1:=HB0.then_ hb1;have hB1:=hB0.trans (hb1.mono hB0.size);have hsz1:w.heap.size+1<=w1.heap.size:=by simpa using hb1.size
  clear HB0 hB0 hb1;have c0:=B1.cell 0;have c1:=B1.cell 1;simp at c0 c1
  go_wp2_with fail
  refine(Lp o.a o.c o.r _ ((H.v o bo).1.below hB1) (H.v o bo).2).mono ?_;rintro e w2 ⟨rfl,hb2⟩;rw[hAO2];have B2:=B1.then_ hb2;have hB2:=hB1.trans (hb2.mono hB1.size);have hsz2:w.heap.size+1<=w2.heap.size:=cO hsz1 hb2.size;clear B1 hB1 hb2 c0 c1 hsz1 hAO2;generalize hAe:area o.r=A at hAO;have B2a:=B2.alloc (.cells #[.int .i64 (2*A)] 3);have B3:=Blk.new w2 3 #[.int .i64 (2*A)];have hB2a:=hB2.alloc hB2.size (.cells #[.int .i64 (2*A)] 3);have hsz3:w.heap.size+1<=(w2.alloc (.cells #[.int .i64 (2*A)] 3)).heap.size:=by simp;omega
  have hp3:w2.heap.size<(w2.alloc (.cells #[.int .i64 (2*A)] 3)).heap.size:=by simp
  have c0:=B2a.cell 0;have c1:=B2a.cell 1;simp at c0 c1;obtain⟨p3,hp3e⟩:∃p,p=w2.heap.size:=⟨_,rfl⟩;rw[<-hp3e]at B3 hp3 hsz2
  go_wp2_with fail
  rw[<-hp3e];clear hp3e;generalize w2.alloc (.cells #[.int .i64 (2*A)] 3)=w3 at B2a B3 hB2a hsz3 hp3 c0 c1|-;clear B2 hB2;refine(zn o ah hs.length ch _).mono ?_;rintro e w4 ⟨rfl,rfl⟩
  go_wp2_with fail
  have B3':=B3.alloc (.cells #[RV.enc o,.slice ah hs.length ch] 26);have B4:=Blk.new w3 26 #[RV.enc o,.slice ah hs.length ch];have hB4:=hB2a.alloc hB2a.size (.cells #[RV.enc o,.slice ah hs.length ch] 26);have hsz4:w3.heap.size<(w3.alloc (.cells #[RV.enc o,.slice ah hs.length ch] 26)).heap.size:=by simp
  obtain⟨p4,hp4e⟩:∃p,p=w3.heap.size:=⟨_,rfl⟩;rw[<-hp4e]at B4 hp3 hsz3 hsz4;rw[<-hp4e];clear hp4e B3 B2a c0 c1 hB2a;generalize w3.alloc (.cells #[RV.enc o,.slice ah hs.length ch] 26)=W0 at B3' B4 hB4 hsz4|-;refine(wpIn_wide (n:=9)).1 ?_
  refine' wpIn_rangeFunc_ownF (F:=Fence.wide) (n:=9) rfl (by omega) (gf:=179) (lb:= #[.pointer (some ⟨p4,0,none⟩)]) rfl trivial (enters_of C4 (by kernel_rfl) rfl)
   (zJ Fence.wide 8 trivial rfl (by omega) p4 w.heap.size o ah ch hs H.n W0 (by omega) B4 (H.h.below hB4)) Kp2.trans (Bx (by omega) (by omega)) (Below.refl _ _) (λ_=>rfl)
   (λpre W=>(Blk W p4 26 #[RV.enc o,.slice ah hs.length ch]/\Blk W p3 3 #[.int .i64 (2*A-jZ pre)])/\Below w.heap.size w W)
   (λc pre W=>False/\False)
   (OwnFrom.and (OwnFrom.and mz mz) (ownFrom_below (bX _) (by omega)))
   (λc=>OwnFrom.and qy qy)
   ⟨⟨B4,by simpa[jZ]using B3'⟩,hB4⟩ _ ?assign ?body ?done ?stop
  case assign=>
   intro l x W K hK;dsimp only[RV.enc]
   gi_wp2
   exact hK
  case stop=>
   grind
  case done=>
   rintro D xs W hD hxs ⟨⟨b4,b3⟩,hb⟩ hK;have hres:2*A-jZ xs=m8 (du o hs):=by have:=US hxs;rw[hAe]at this;omega
   rw[hres]at b3;have hD2:w.heap.size<=D:=by omega
   clear hxs hres b4 B4 B3' hB4;have c3:=b3.cell 0;simp at c3
   go_wp2
   exact EB (v:= .int .i64 (m8 (du o hs))) rfl rfl hK ⟨rfl,hb.trans (ml hD2 hK)⟩
  case body=>
   rintro l pre ⟨⟨xa,xc,xr⟩,hxm⟩ W ⟨⟨b4,b3⟩,hb⟩ hlen;obtain⟨hxr,hxl⟩:=H.v _ hxm;have hvx:=hval _ hxm;have hA:=GQ hvx;dsimp only at hxr hxl hvx hA;have HE:Hid (jZ (pre++[(⟨⟨xa,xc,xr⟩,hxm⟩:Mem o hs)])=jZ pre+area xr):=Lib.hid (Tk _ _);have hbd:=VX hval pre;have hN:=H.n;have hX2:(if cV xr then area xr else 0)=area xr:=by rw[hvx];rfl
   have hwrap:iq.wrap (2*A-jZ pre-area xr)=2*A-jZ pre-area xr:=IntWalk.i64_in _ ⟨by omega,by omega⟩;generalize jZ pre=S at HE hbd b3 hwrap;have hX:=Lib.hid hX2;clear hX2 hvx hval B4 B3' hB4;refine wpIn_block ?_;dsimp only[RV.enc];refine DC (by kernel_rfl) (by kernel_rfl) [15,16,17,18] [[],[],[1],[0,1,2],[0,1,2,3]] (by kernel_rfl) (by kernel_rfl) (by simp_all)
    (WR2 4 (λwx=>Below W.heap.size W wx) (λwx=>Blk wx p3 3 #[.int .i64 (2*A-S-area xr)]/\Blk wx p4 26 #[RV.enc o,.slice ah hs.length ch]/\Below w.heap.size w wx/\KeepsOthers W wx/\Below w.heap.size W wx))
    (λi v wx=>match i with
      |0=>v= .int .i64 (2*A-S)
      |1=>v= .slice xa xr.length xc
      |2=>v= .int .i64 (area xr)
      |3=>v= .int .i64 (2*A-S-area xr)
      |4=>True
      |_=>True)
    (WR2.start (Below.refl _ _).drew) ?_ ?_ ?_
   .grind
   .refine⟨?_,?_,?_,?_,?_,trivial⟩
    .intro D V wx hD hanc hdesc hin hWR;have hA:=hWR.lo (hdesc 4 (by kernel_rfl));have e3:=hin 3 (by kernel_rfl);simp at e3;have q0:=(Blk.then_ b3 hA).cell 0;simp at q0;refine opK ?_;intro K hK;simp[cJ,execOp,bH,e3,q0,go_sem];exact hK _ _ ⟨rfl,(hWR.keep (by decide)),.inl rfl⟩
    .intro D V wx hD hanc hdesc hin hWR;have hA:=hWR.lo (hdesc 4 (by kernel_rfl));have e4:=hin 4 (by kernel_rfl);simp at e4;refine opK ?_;intro K hK;simp[cJ,execOp,bH,e4,go_sem];exact hK _ _ ⟨rfl,(hWR.keep (by decide)),.inl rfl⟩
    .intro D V wx hD hanc hdesc hin hWR;have hA:=hWR.lo (hdesc 4 (by kernel_rfl));have e16:V 16= .slice xa xr.length xc:=(hanc 1 (by kernel_rfl)).2;refine opK ?_;intro K hK;simp[cJ,execOp,bH,e16,go_sem];refine(Lp xa xc xr _ (hxr.below (hb.trans (hA.mono hb.size))) hxl).mono ?_;rintro e w1 ⟨rfl,hc⟩;rw[hX.out];exact⟨_,rfl,hK _ _ ⟨rfl,(.mkLo (hdesc 4 (by kernel_rfl)) (by decide) (Below.then_ hA hc)),.inr (.inl hc)⟩⟩
    .intro D V wx hD hanc hdesc hin hWR;have hA:=hWR.lo (hdesc 4 (by kernel_rfl));have e15:V 15= .int .i64 (2*A-S):=(hanc 0 (by kernel_rfl)).2;have e17:V 17= .int .i64 (area xr):=(hanc 2 (by kernel_rfl)).2;refine opK ?_;intro K hK;simp[cJ,execOp,bH,e15,e17,hwrap,go_sem];exact hK _ _ ⟨rfl,(hWR.keep (by decide)),.inl rfl⟩
    .intro D V wx hD hanc hdesc hin hWR;have hA:=hWR.lo hD;have e3:=hin 3 (by kernel_rfl);simp at e3;have e18:V 18= .int .i64 (2*A-S-area xr):=(hanc 3 (by kernel_rfl)).2;refine opK ?_;intro K hK;have q0:=(Blk.then_ b3 hA).cell 0;have f0:=(Blk.then_ b3 hA).frozen 0;simp at q0;simp[cJ,execOp,bH,e3,e18,q0,f0,go_sem];refine hK _ _ ⟨trivial,.mkHi ⟨by simpa using(Blk.then_ b3 hA).ig 0 (.int .i64 (2*A-S-area xr)),(Blk.then_ b4 hA).far (by grind) _,(hb.trans (hA.mono hb.size)).setCell (p:=⟨p3,0,none⟩) (by grind) _,(zR hA).trans (KeepsOthers.setCell _ _ _),((Below.refl w.heap.size W).trans (hA.mono hb.size)).setCell (p:=⟨p3,0,none⟩) (by grind) _⟩,.inr (.inr ?_)⟩;grind
   intro D V wx hall hf hWR;replace hWR:=hWR.hi (hall 4 (by decide));have f0:V 15= .int .i64 (2*A-S):=hf 0 (by decide);have f1:V 16= .slice xa xr.length xc:=hf 1 (by decide);have f2:V 17= .int .i64 (area xr):=hf 2 (by decide);have f3:V 18= .int .i64 (2*A-S-area xr):=hf 3 (by decide);clear hf hall;simp only[iH,CY,List.foldl_nil,f0,f1,f2,f3];simp only[mZ,List.setIfInBounds_toArray,List.set_cons_succ,List.set_cons_zero];clear f0 f1 f2 f3;obtain⟨k1,k2,k3,k4,k5⟩:=hWR;refine⟨k4,⟨k5,Eq.trans k2 (Eq.symm b4)⟩,⟨k2,?_⟩,k3⟩;rw[HE.out,show 2*A-(S+area xr)=2*A-S-area xr by omega];exact k1
end
section
section
variable {C:bE} {w:World}
def cL.rdV(hC:∀b o v,C b o v->w.cell? ⟨b,o,none⟩=some v){r:List V}{b o:Nat}(h:cL C (fe r) b o):RdV w (some ⟨b,o,none⟩) r:=by
 intro i hi;have h1:=u6.at r i hi;have g0:(fe r)[i*2]? =some (.int .i64 r[i].x):=by have:=congrArg (λl=>l[0]?) h1;simpa[o5,vo]using this
 have g1:(fe r)[i*2+1]? =some (.int .i64 r[i].y):=by have:=congrArg (λl=>l[1]?) h1;simpa[o5,vo]using this
 obtain⟨v0,a1,_,a3⟩:=cL.get _ _ _ h _ _ g0;obtain⟨v1,b1,_,b3⟩:=cL.get _ _ _ h _ _ g1;unfold aU at a3 b3;subst a3 b3;have en:aEv r i=r[i] :=by unfold aEv;rw[dw,fA hi];rfl
 refine⟨b,o,rfl,jp w ⟨b,_,none⟩ (hC _ _ _ a1),?_,?_⟩
 .grind
 grind
def Ew(hC:∀b o v,C b o v->w.cell? ⟨b,o,none⟩=some v){r:List V}{v:Value}(h:aU C (gL r) v):∃a c,v= .slice a r.length c/\RdV w a r/\r.length<=c/\(a=none->c=0):=by
 unfold gL aU at h;obtain⟨a,c,rfl,h1,h2,h3⟩:=h;refine⟨a,c,rfl,?_,h1,λe=>(h2 e).1⟩;cases a with
 |none=>
  have:r=[] :=by have:=congrArg fh (h2 rfl).2;rw[u6.length]at this;exact mc.1 (by grind)
  subst this;intro i hi;simp at hi
 |some ad=>
  obtain⟨b,o,sp⟩:=ad;obtain⟨h4,h5⟩:=h3 _ rfl;dsimp only at h4 h5;rcases qN r.length with hr0|hr0
  .intro i hi;omega
  .have h4:=h4 hr0;subst h4;exact h5.rdV hC
def JZ(hC:∀b o v,C b o v->w.cell? ⟨b,o,none⟩=some v):∀(l:List aE) (b o:Nat),cL C (l.map gL) b o->∃hs:List RV,hs.map RV.r=l/\(∀i,i<hs.length->b<w.heap.size/\w.cell? ⟨b,o+i,none⟩=some (RV.enc (hs.getD i default)))/\∀x∈hs,RdV w x.a x.r/\x.r.length<=x.c/\(x.a=none->x.c=0)
 |[],b,o,_=>⟨[],rfl,(λi h=>by simp at h),λx h=>by cases h⟩
 |r::l,b,o,h=>by
  rw[cv]at h;unfold cL at h;obtain⟨⟨v,h1,_,h2⟩,h3⟩:=h;obtain⟨a,c,rfl,h4,h5⟩:=Ew hC h2;obtain⟨hs,g1,g2,g3⟩:=JZ hC l b (o+1) h3;refine⟨⟨a,c,r⟩::hs,by simp[g1],?_,?_⟩
  .intro i hi;cases i with
   |zero=>exact⟨jp w ⟨b,_,none⟩ (hC _ _ _ h1),by simpa[RV.enc]using hC _ _ _ h1⟩
   |succ i=>
    grind
  grind
def Vz(hC:∀b o v,C b o v->w.cell? ⟨b,o,none⟩=some v){l:List aE}{v:Value}(h:aU C (oJ l) v):
  ∃ah ch,∃hs:List RV,v= .slice ah hs.length ch/\hs.length<=ch/\hs.map RV.r=l/\RdH w.heap.size w ah hs/\∀x∈hs,RdV w x.a x.r/\x.r.length<=x.c/\(x.a=none->x.c=0):=by
 unfold oJ aU at h;obtain⟨a,c,rfl,h1,h2,h3⟩:=h;cases a with
 |none=>
  have:l=[] :=by simpa using(h2 rfl).2
  subst this;exact⟨none,c,[],rfl,jS _,rfl,(λi hi=>by simp at hi),λx hx=>by cases hx⟩
 |some ad=>
  obtain⟨b,o,sp⟩:=ad;obtain⟨h4,h5⟩:=h3 _ rfl;dsimp only at h4 h5;rcases qN l.length with hl0|hl0
  .have:l=[] :=mc.1 hl0;subst this;exact⟨_,c,[],rfl,jS _,rfl,(λi hi=>by simp at hi),λx hx=>by cases hx⟩
  have h4:=h4 hl0;subst h4;obtain⟨hs,g1,g2,g3⟩:=JZ hC l b o h5;have hl:hs.length=l.length:=by rw[<-g1];simp
  exact⟨_,c,hs,by rw[hl],by omega,g1,λi hi=>⟨b,o,rfl,(g2 i hi).1,(g2 i hi).2⟩,g3⟩
def zl(hC:∀b o v,C b o v->w.cell? ⟨b,o,none⟩=some v){s:Shape}{v:Value}(hf:Fit s)(h:aU C (kM s) v):
  ∃o ah ch hs,v= .agg #[RV.enc o,.slice ah hs.length ch]/\RdSh w o ah hs/\hs.length<=ch/\(∀x∈o::hs,x.r.length<=x.c)/\du o hs=s:=by
 unfold kM aU at h;obtain⟨vs,rfl,h1,_⟩:=h;unfold ae at h1;obtain⟨v1,r1,rfl,h2,h3⟩:=h1;unfold ae at h3;obtain⟨v2,r2,rfl,h4,h5⟩:=h3;unfold ae at h5;subst h5;obtain⟨a,c,rfl,g1,g2⟩:=Ew hC h2;obtain⟨ah,ch,hs,rfl,k1,k2,k3,k4⟩:=Vz hC h4;have hl:hs.length=s.holes.length:=by rw[<-k2];simp
 refine⟨⟨a,c,s.outer⟩,ah,ch,hs,rfl,⟨k3,?_,by rw[hl];have:=hf.2.1;omega⟩,k1,?_,by unfold du;rw[k2]⟩
 .intro x hx;rcases aj.1 hx with rfl|hx
  .exact⟨g1,hf.1,g2.1,g2.2⟩
  .exact⟨(k4 x hx).1,hf.2.2 _ (by grind),(k4 x hx).2.1,(k4 x hx).2.2⟩
 grind
def D8{cs:List PV}{us:List Value}{a:Option Addr}{n c N:Nat}(hr:Rd w a us)(hf:jJ N a)(hn:a=none->c=0)(hc:n<=c)(hu:us.length=cs.length)(hsp:cs=[]->∀ad,a=some ad->ad.spot=none)
  (hv:∀(i:Nat) x u,cs[i]? =some x->us[i]? =some u->u.oneCell'=true/\aU (λb o x=>N<=b/\w.cell? ⟨b,o,none⟩=some x) x u):aU (λb o x=>N<=b/\w.cell? ⟨b,o,none⟩=some x) (.sl n cs) (.slice a n c):=by
 unfold aU;refine⟨a,c,rfl,hc,λha=>⟨hn ha,?_⟩,λad ha=> ?_⟩
 .cases cs with
  |nil=>rfl
  |cons x cs=>
   cases us with
   |nil=>simp at hu
   |cons u us=>obtain⟨b,off,h1,_⟩:=hr 0 u rfl;grind
 .subst ha;cases cs with
  |nil=>
   exact⟨λ_=>hsp rfl _ rfl,by unfold cL;trivial⟩
  |cons x cs=>
   cases us with
   |nil=>simp at hu
   |cons u us=>
    obtain⟨b,off,h1,_⟩:=hr 0 u rfl;cases h1;refine⟨λ_=>rfl,cL.of _ _ _ λi y hi=> ?_⟩;have hlt:i<(u::us).length:=by rw[hu];exact(rV.1 hi).1
    have hui:(u::us)[i]? =some (u::us)[i] :=fA hlt;obtain⟨b',off',h2,_,h3⟩:=hr i _ hui;cases h2;obtain⟨g1,g2⟩:=hv i y _ hi hui;exact⟨_,⟨hf _ rfl,h3⟩,g1,g2⟩
end
def VJ{C:bE}(r:List V):(j4 r).length=(fe r).length/\∀(i:Nat) x u,(fe r)[i]? =some x->(j4 r)[i]? =some u->u.oneCell'=true/\aU C x u:=by
 refine⟨by rw[DJ,u6.length],?_⟩;have key:∀(l:List V) (i:Nat) x u,(l.flatMap λv=>[PV.int .i64 v.x,PV.int .i64 v.y])[i]? =some x->(l.flatMap λv=>[cY .i64 v.x,cY .i64 v.y])[i]? =some u->u.oneCell'=true/\aU C x u:=by
  intro l;induction l with
  |nil=>grind
  |cons v l ih=>
   intro i x u h1 h2;simp only[fG,jn,rX]at h1 h2;match i with
   |0=>simp at h1 h2;subst h1 h2;exact⟨rfl,by unfold aU;rfl⟩
   |1=>simp at h1 h2;subst h1 h2;exact⟨rfl,by unfold aU;rfl⟩
   |i+2=>grind
 exact key r
def VK{C:bE}(r:List S):(ib r).length=(CV r).length/\∀(i:Nat) x u,(CV r)[i]? =some x->(ib r)[i]? =some u->u.oneCell'=true/\aU C x u:=by
 refine⟨by rw[JN,aA8.length],?_⟩;have key:∀(l:List S) (i:Nat) x u,(l.flatMap λs=>[PV.int .i64 s.a.x,PV.int .i64 s.a.y,PV.int .i64 s.b.x,PV.int .i64 s.b.y])[i]? =some x->(l.flatMap λs=>[cY .i64 s.a.x,cY .i64 s.a.y,cY .i64 s.b.x,cY .i64 s.b.y])[i]? =some u->u.oneCell'=true/\aU C x u:=by
  intro l;induction l with
  |nil=>grind
  |cons v l ih=>
   intro i x u h1 h2;simp only[fG,jn,rX]at h1 h2;match i with
   |0=>simp at h1 h2;subst h1 h2;exact⟨rfl,by unfold aU;rfl⟩
   |1=>simp at h1 h2;subst h1 h2;exact⟨rfl,by unfold aU;rfl⟩
   |2=>simp at h1 h2;subst h1 h2;exact⟨rfl,by unfold aU;rfl⟩
   |3=>simp at h1 h2;subst h1 h2;exact⟨rfl,by unfold aU;rfl⟩
   |i+4=>grind
 exact key r
def Xo{w:World}{N:Nat}{v:Value}{xs:List S}(h:w.ownsRow N 46 4 v xs.length (ib xs)):aU (λb o x=>N<=b/\w.cell? ⟨b,o,none⟩=some x) (HI xs) v:=by
 have hsp:∀a c,v= .slice a xs.length c->∀ad,a=some ad->ad.spot=none:=by
  intro a c hv ad ha;rcases h.2 with⟨h1,_⟩|⟨g,cap,cur,h1,_⟩
  .grind
  .grind
 obtain⟨a,c,rfl,h1,h2,h3,h4⟩:=Rd.ON h;obtain⟨g1,g2⟩:=VK (C:=λb o x=>N<=b/\w.cell? ⟨b,o,none⟩=some x) xs;exact D8 h1 h2 h3 h4 g1 (λ_=>hsp a c rfl) g2
def Xt{w:World}{N:Nat}{a:Option Addr}{c:Nat}{xs:List V}(h:RdV w a xs)(hf:jJ N a)(hc:xs.length<=c)(h0:0<xs.length):aU (λb o x=>N<=b/\w.cell? ⟨b,o,none⟩=some x) (gL xs) (.slice a xs.length c):=by
 obtain⟨b0,o0,rfl,_⟩:=h 0 h0;obtain⟨g1,g2⟩:=VJ (C:=λb o x=>N<=b/\w.cell? ⟨b,o,none⟩=some x) xs;refine D8 (us:=j4 xs) ?_ hf (λh=>by cases h) hc g1 (λ_ ad ha=>by cases ha;rfl) g2;intro i u hi;have hlt:i<xs.length*2:=by rw[<-DJ];exact(rV.1 hi).1
 obtain⟨k,hk⟩:∃k,i=k*2\/i=k*2+1:=⟨i/2,by omega⟩;obtain⟨b,o,he,h1,h2,h3⟩:=h k (by omega);cases he;obtain⟨f0,f1⟩:=ET xs k (by omega);grind
section
variable {fr:Bool}
def S7(s:Shape)(hf:Fit s):Sat ak true 55 [kM s] (.bool (bM s)):=by refine⟨by kernel_rfl,λC w vs hC h=> ?_⟩;unfold ae at h;obtain⟨v,r,rfl,h1,h2⟩:=h;unfold ae at h2;subst h2;obtain⟨o,ah,ch,hs,rfl,H,hch,_,rfl⟩:=zl hC hf h1;refine(DA o ah ch hs w H hch).mono ?_;rintro e w' ⟨rfl,hb⟩;exact⟨_,rfl,by unfold aU;rfl,hb⟩
def S9(s:Shape)(hf:Fit s):Sat ak true 131 [kM s] (HI (bQ s)):=by
 refine⟨by kernel_rfl,λC w vs hC h=> ?_⟩;unfold ae at h;obtain⟨v,r,rfl,h1,h2⟩:=h;unfold ae at h2;subst h2;obtain⟨o,ah,ch,hs,rfl,H,hch,_,rfl⟩:=zl hC hf h1;have hn:hs.length<=900:=by have:=hf.2.1;simpa[du]using this
 refine(S6 o ah ch hs w H hn).mono ?_;rintro e w' ⟨v,rfl,hrow,hb⟩;exact⟨_,rfl,aU.mono (λb o x h=> .inr h) _ _ (Xo hrow),hb⟩
def TJ(s:Shape)(hf:Fit s):Sat ak true 90 [kM s] (.int .i64 (if bM s then m8 s else 0)):=by refine⟨by kernel_rfl,λC w vs hC h=> ?_⟩;unfold ae at h;obtain⟨v,r,rfl,h1,h2⟩:=h;unfold ae at h2;subst h2;obtain⟨o,ah,ch,hs,rfl,H,hch,_,rfl⟩:=zl hC hf h1;refine(TI o ah ch hs w H hch).mono ?_;rintro e w' ⟨rfl,hb⟩;exact⟨_,rfl,by unfold aU;rfl,hb⟩
def Uk{w:World}{N:Nat}{v:Value}{rs:List RV}(h:w.ownsRow N 23 1 v rs.length (rs.map RV.enc))(hx:∀x∈rs,RdV w x.a x.r/\jJ N x.a/\x.r.length<=x.c/\0<x.r.length):
  aU (λb o x=>N<=b/\w.cell? ⟨b,o,none⟩=some x) (oJ (rs.map RV.r)) v:=by
 have hsp:∀a c,v= .slice a rs.length c->∀ad,a=some ad->ad.spot=none:=by
  intro a c hv ad ha;rcases h.2 with⟨h1,_⟩|⟨g,cap,cur,h1,_⟩
  .grind
  .grind
 obtain⟨a,c,rfl,h1,h2,h3,h4⟩:=Rd.ON h;unfold oJ;rw[db];refine D8 h1 h2 h3 h4 (by simp) (λ_=>hsp a c rfl) ?_;intro i x u hi hu;rw[gS,gS]at hi;rw[gS]at hu;cases hr:rs[i]? with
 |none=>grind
 |some y=>
  rw[hr]at hi hu;simp only[eE,fm]at hi hu;subst hi hu;obtain⟨k1,k2,k3,k4⟩:=hx y (Io hr);exact⟨rfl,Xt k1 k2 k3 k4⟩
def S8(s:Shape)(hf:Fit s)(hp:0<s.outer.length/\∀r∈s.holes,0<r.length):Sat ak true 56 [kM s] (oJ (aD s)):=by
 refine⟨by kernel_rfl,λC w vs hC h=> ?_⟩;unfold ae at h;obtain⟨v,r,rfl,h1,h2⟩:=h;unfold ae at h2;subst h2;obtain⟨o,ah,ch,hs,rfl,H,hch,_,rfl⟩:=zl hC hf h1;refine(S5 o ah ch hs w H λx hx=>by rcases aj.1 hx with rfl|hx;exact hp.1;exact hp.2 _ (bR.2 ⟨x,hx,rfl⟩)).mono ?_;rintro e w' ⟨v,rs,rfl,hrs,hrow,hok,hb⟩;refine⟨_,rfl,aU.mono (λb o x h=> .inr h) _ _ ?_,hb⟩;rw[<-hrs];refine Uk hrow λx hx=>⟨(hok x hx).rd,(hok x hx).fresh,(hok x hx).cap,?_⟩;have hm:x.r∈aD (du o hs):=by rw[<-hrs];exact bR.2 ⟨x,hx,rfl⟩
 unfold aD at hm;grind
end
def ye{α:Type}(fr:Bool)(A:Arl α)(pre:α->List Prop)(res:α->SV):Con:=⟨α,A.dec,pre,.val fr res⟩
def A7{f:FuncId}{fr:Bool}{α:Type}{A:Arl α}{pre:α->List Prop}{res:α->SV}(B:α->List PV)(q:α->PV)(hB:∀x,avs (A.enc x)=(B x).map .p)(hq:∀x,(res x).av= .p (q x))(h:∀x,oi (pre x)->Sat ak fr f (B x) (q x)):(ye fr A pre res).Okz f:=by intro s x hd hp;exact⟨B x,q x,(A.ok s x hd).trans (hB x),hq x,h x (jY.2 hp)⟩
def tH(l:List aE):LT.R.enc l=l.map gL:=by
 unfold LT.enc;induction l with
 |nil=>rfl
 |cons r l ih=>rw[fG,ih];rfl
def Ba(s:Shape):avs ((a1 aSh).enc s)=[kM s].map .p:=by show [SV.av (.agg [.lst .V s.outer,.lst .R s.holes])] =_;show [eJ [.p (.sl s.outer.length (fe s.outer)),.p (.sl s.holes.length (LT.R.enc s.holes))]] =_;rw[tH];rfl
def c55:Con:=ye true (a1 aSh) (λs=>[Fit s]) (λs=> .bool (bM s))
def k55:c55.Okz 55:=A7 (λs=>[kM s]) (λs=> .bool (bM s)) Ba (λ_=>rfl) λs h=>S7 s h
def aEd:Con:=ye true (a1 aSh) (λs=>[Fit s]) (λs=> .lst .S (bQ s))
def aCP:aEd.Okz 131:=A7 (λs=>[kM s]) (λs=>HI (bQ s)) Ba (λ_=>rfl) λs h=>S9 s h
def c90:Con:=ye true (a1 aSh) (λs=>[Fit s]) (λs=> .int .i64 (if bM s=true then m8 s else 0))
def k90:c90.Okz 90:=A7 (λs=>[kM s]) (λs=> .int .i64 (if bM s=true then m8 s else 0)) Ba (λ_=>rfl) λs h=>TJ s h
def c56:Con:=ye true (a1 aSh) (λs=>[Fit s,0<s.outer.length,∀r∈s.holes,0<r.length]) (λs=> .lst .R (aD s))
def k56:c56.Okz 56:=A7 (λs=>[kM s]) (λs=>oJ (aD s)) Ba (λs=>by show AV.p (.sl _ (LT.R.enc _))=_;rw[tH];rfl) λs h=>S8 s h.1 h.2
noncomputable def tS:=(((CC.adk k56).adk k90).adk aCP).adk k55
end
noncomputable def c77:Con:=con (ac (aL .V) (ac (aL .V) (a1 (aF 78)))) (λ(a,b,_)=>[a.length<=1000000,b.length<=1000000]) (λ(a,b,_)=> .iqz (dA a b))
def k77:c77.Okz 77:=bJ CC (λ(a,b,_)=>[lp 2 13 a.length (λk=>[k<=b.length,aM (λj=>cE (aEv a j) (aEv b j)=0) k]) [] bh bh]
  ) (λ(_,_,_)=>⟨_,rfl⟩) λ(a,b,u) hp=>az (aC (b.length:Int) λD=>aC (a.length:Int) λE=>(0=(0:Int)/\(0:Nat)<=a.length/\(0:Nat)<=b.length/\aM (λj=>cE (aEv a j) (aEv b j)=0) 0)/\
 (∀x:Nat,aC (x:Int) λA=>aC (aEv a x) λB=>aC (aEv b x) λC=>x<=a.length/\x<=b.length/\aM (λj=>cE (aEv a j) (aEv b j)=0) x->(A<a.length->ix A a.length/\(D<=x->1=dA a b)/\
   (¬D<=x->ix A b.length/\(¬cE B C=0->cE B C=dA a b)/\
    (¬(¬cE B C=0)->aJ (A+1)/\A+1=((x+1:Nat):Int)/\x+1<=a.length/\x+1<=b.length/\aM (λj=>cE (aEv a j) (aEv b j)=0) (x+1)/\a.length-(x+1)<a.length-x)))/\
  (¬A<a.length->(E<b.length-> -1=dA a b)/\
   (¬E<b.length->0=dA a b)))) (by kernel_rfl) (by
  change a.length<=1000000/\b.length<=1000000 at hp;have g1:∀x:Nat,(x:Int)<a.length->x<=b.length->aM (λj=>cE (aEv a j) (aEv b j)=0) x->(b.length:Int)<=x->1=dA a b:=λx h1 h2 h3 h4=>by rw[DZ (k:=x) (by omega) h2 (.inr (by omega)) h3];unfold sgn;omega
  have g2:∀x:Nat,¬(x:Int)<a.length->x<=a.length->x<=b.length->aM (λj=>cE (aEv a j) (aEv b j)=0) x->dA a b=sgn ((a.length:Int)-b.length):=λx h1 h2 h3 h4=>DZ h2 h3 (.inl (by omega)) h4;have s1:(a.length:Int)<b.length-> -1=sgn ((a.length:Int)-b.length):=λh=>by unfold sgn;omega
  have s2:(a.length:Int)=b.length->0=sgn ((a.length:Int)-b.length):=λh=>by unfold sgn;omega
  with_reducible ((repeat' first|apply cM|intro);all_goals repeat cases‹_/\_›)
  all_goals first|rfl|exact(Ka ‹_› ‹_› (by omega) (by omega)).symm|exact g1 _ ‹_› ‹_› ‹_› ‹_› |(rw[g2 _ ‹_› ‹_› ‹_› ‹_›];first|exact s1 ‹_› |omega)|exact cT ‹_› (th ‹¬¬_›)|grind)
noncomputable def t77:=CC.adk k77
noncomputable def c26:Con:=con (ac (aL .V) (a1 (aL .V))) (λ(a,b)=>[a.length<=1000000,b.length<=1000000]) (λ(a,b)=> .iqz (dA a b))
def k26:c26.Okz 26:=bJ t77 (λ(_,_)=>[]
 ) (λ(_,_)=>⟨_,rfl⟩) λ(a,b) hp=>az (a.length<=1000000/\b.length<=1000000/\dA a b=dA a b) (by kernel_rfl) (by
 change a.length<=1000000/\b.length<=1000000 at hp;omega)
noncomputable def t26:=t77.adk k26
noncomputable def SJ:Con:=con (ac (aL .V) (a1 (aL .V))) (λ(a,b)=>[a.length<=1000,b.length<=1000,0<a.length,0<b.length]) (λ(a,b)=> .iqz (cE (aEv a 0) (aEv b 0)))
def aCS:SJ.Okz 127:=bJ t26 (λ(_,_)=>[]
 ) (λ(_,_)=>⟨_,rfl⟩) λ(a,b) hp=>az (ix 0 a.length/\ix 0 b.length/\cE (aEv a 0) (aEv b 0)=cE (aEv a 0) (aEv b 0)) (by kernel_rfl) (by
 change a.length<=1000/\b.length<=1000/\0<a.length/\0<b.length at hp;exact⟨by unfold ix;omega,by unfold ix;omega,rfl⟩)
def Ef{α:Type}:∀(a:Ask α) (w:World),w.drawn<=(w.ask a).2.drawn
 | .done a,w=>bX _
 | .ask what range k,w=>by
   unfold World.ask;dsimp only;split
   .exact Ef _ w
   .exact cO (Nat.le_succ w.drawn) (Ef (k _) {w with drawn:=w.drawn+1})
def Ki(w:World)(c:Sys):w.drawn<=(w.sys c).2.drawn:=by have h:=Ef (Kernel.perform c w.os) w;unfold World.sys;grind
def Sv{p:Program}{w w':World}{at_:Addr}{u:TypeId}{k:Addr}{v:Value}{b:Bool}{l:List Addr}(h:w.viewStore p at_ u k v b= .ok (w',l)):w'.drawn=w.drawn:=by
 unfold World.viewStore at h;simp only[bind,Except.bind,pure,Except.pure]at h
 repeat' split at h
 all_goals first|(cases h;done)|skip
 all_goals (try cases h;try rfl)
def Result.drew{α:Type}(w:World):Result α->Prop
 | .ok _ w'=>w.drawn<=w'.drawn
 | .halt _ w'=>w.drawn<=w'.drawn
def zm{α:Type}(p:Program):∀(s:Sem α) (w:World),Result.drew w (s.run p w):=by
 intro s;induction s with
 |pure a=>intro w;exact bX _
 |load m a k ih=>
  intro w;unfold fz;split
  .exact ih _ w
  .split
   .exact ih _ w
   .exact bX _
 |store m a v k ih=>
  intro w;have key:∀w1:World,w1.drawn=w.drawn->Result.drew w (k.run p w1):=by intro w1 h;have:=ih w1;revert this;generalize fz p _ _=r;intro h2;cases r<;>(show w.drawn<=_;rw[<-h];exact h2)
  have h0:∀h,Result.drew (α:=α) w (.halt h w):=λ_=>bX _;cases v<;>simp only[fz];all_goals first|exact h0 _|skip
  all_goals
   split
   .split
    .exact h0 _
    .exact key _ rfl
   .split
    .rename_i h1;refine key _ ?_;unfold World.farStore at h1;split at h1
     .split at h1
      .rename_i h2;cases h1;exact Sv h2
      .cases h1
     .cases h1
    .exact h0 _
 |new o k ih=>intro w;unfold fz;exact ih _ _
 |shape r k ih=>intro w;unfold fz;exact ih _ _
 |freeze a n k ih=>
  intro w;unfold fz;have e:(w.freeze a n).drawn=w.drawn:=by unfold World.freeze;first|rfl|grind
  have:=ih (w.freeze a n);revert this;generalize fz p _ _=r;intro h2;cases r<;>(show w.drawn<=_;rw[<-e];exact h2)
 |frozen a k ih=>intro w;unfold fz;exact ih _ _
 |getObj r k ih=>
  intro w;unfold fz;split
  .exact bX _
  .exact ih _ _
  .exact bX _
 |setObj r o k ih=>
  intro w;unfold fz;split
  .exact bX _
  .exact ih _
  .exact bX _
 |choose q k ih=>
  intro w;unfold fz;split
  .exact ih _ w
  .have:=ih (q.cut (w.tape w.drawn q)) {w with drawn:=w.drawn+1};revert this;generalize fz p _ _=r;intro h;cases r<;>exact cO (Nat.le_succ _) h
 |sys c k ih=>
  intro w;unfold fz;have:=ih (w.sys c).1 (w.sys c).2;have h2:=Ki w c;revert this;generalize fz p _ _=r;intro h;cases r<;>exact cO h2 h
 |program k ih=>intro w;unfold fz;exact ih _ _
 |mark m k ih=>intro w;unfold fz;exact ih _
 |halt h=>intro w;exact bX _
section
variable {p:Program}
def iF{α:Type}{s:Sem α}{w w':World}{a:α}(h:s.run p w= .ok a w'):w.drawn<=w'.drawn:=by have:=zm p s w;rw[h]at this;exact this
def ny{α:Type}{s:Sem α}{w w':World}{e:Halt}(h:s.run p w= .halt e w'):w.drawn<=w'.drawn:=by have:=zm p s w;rw[h]at this;exact this
def xQ{α:Type}:∀(s:Sem α) (w:World) (es:Array Event),(s.runT p w es).1=s.run p w:=by simp_all
def ZD{α:Type}{s:Sem α}{w w':World}{a:α}{es es':Array Event}(h:s.runT p w es=(.ok a w',es')):w.drawn<=w'.drawn:=by have:=xQ (p:=p) s w es;rw[h]at this;exact iF this.symm
def D7{α:Type}{s:Sem α}{w w':World}{e:Halt}{es es':Array Event}(h:s.runT p w es=(.halt e w',es')):w.drawn<=w'.drawn:=by have:=xQ (p:=p) s w es;rw[h]at this;exact ny this.symm
def pi{α:Type}{s:Sem α}{w w':World}{a:α}{es:Array Event}(h:(s.runT p w es).1= .ok a w'):w.drawn<=w'.drawn:=iF ((xQ s w es).symm.trans h)
def mr{α:Type}{s:Sem α}{w w':World}{e:Halt}{es:Array Event}(h:(s.runT p w es).1= .halt e w'):w.drawn<=w'.drawn:=ny ((xQ s w es).symm.trans h)
def wd:GStep->Nat
 | .go _ w _=>w.drawn
 | .comm _ _ _ _ w _=>w.drawn
 | .spawn _ _ w _=>w.drawn
 | .count _ w _=>w.drawn
 | .timer _ _ w _=>w.drawn
 | .alone _ _ w _=>w.drawn
 | .newcoro _ _ _ w _=>w.drawn
 | .coroswitch _ _ _ w _=>w.drawn
 | .collect _ w _=>w.drawn
 | .watch _ w _=>w.drawn
 | .ended _ w _=>w.drawn
def sD(es:Array Event)(s:GStep):wd (s.after es)=wd s:=by cases s<;>rfl
def BX{c:Prop} [Decidable c]{a b:GStep}{n:Nat}(h1:n<=wd a)(h2:n<=wd b):n<=wd (if c then a else b):=by grind
def JB(fr:Frame)(v:Value)(w:World):w.drawn<=wd (endPrinting p fr v w):=by unfold endPrinting;dsimp only;split<;>exact bX _
def Jj(fr:Frame)(cs:List Frame)(d:Option Dying)(m:String)(w:World):w.drawn<=wd (endFatal p fr cs d m w):=by
 unfold endFatal;dsimp only;split
 .exact iF (by assumption)
 .exact ny (by assumption)
 .exact ny (by assumption)
def VI(fd:Nat)(t:ByteArray)(o:Outcome)(w:World):w.drawn<=wd (endWith w fd t o):=by
 have h:=Ki w (.write fd t);unfold endWith;dsimp only;split
 .rename_i e;rw[e]at h;split<;>exact h
 .rename_i e;rw[e]at h;exact h
 .rename_i e;rw[e]at h;exact h
def UU(fr:Frame)(d:Dying)(f:Fatal)(w:World):w.drawn<=wd (writeOn p fr d f w):=by
 unfold writeOn;dsimp only;split
 .exact bX _
 .split
  .exact ZD (by assumption)
  .exact D7 (by assumption)
  .exact D7 (by assumption)
  .exact D7 (by assumption)
def aA0(fr:Frame)(d:Dying)(w:World):w.drawn<=wd (die p fr d w):=by
 unfold die;split
 .exact UU _ _ _ _
 .split
  .split
   .exact bX _
   .exact VI _ _ _ _
  .split
   .exact bX _
   .split
    .exact iF (by assumption)
    .exact ny (by assumption)
   .rw[sD];split
    .rename_i heq;exact pi heq
    .rename_i heq;exact pi heq
    .rename_i heq;exact mr heq
    .rename_i heq;exact cO (mr heq) (JB _ _ _)
    .exact bX _
   .exact bX _
def Ya(fr:Frame)(cs:List Frame)(d:Option Dying)(g:Nat)(w:World):w.drawn<=wd (early p fr cs d g w):=by
 unfold early;dsimp only
 repeat' split
 all_goals first|exact bX _|(have h:=iF ‹fz p (choose (Question.early g)) w=zD _ _›;exact h)|exact ny ‹fz p (choose (Question.early g)) w=Result.halt _ _›
def DW(main:Bool)(fr:Frame)(cs:List Frame)(d:Option Dying)(v:Value)(w:World):wd (doReturn p main fr cs d v w)=w.drawn:=by
 unfold doReturn
 repeat' split
 all_goals rfl
def Sz(fr:Frame)(cs:List Frame)(d:Option Dying)(f:Deferred)(w:World):w.drawn<=wd (callDeferred p fr cs d f w):=by
 unfold callDeferred;refine BX ?_ ?_
 .exact bX _
 .rw[sD];split;all_goals first
   |exact pi ‹_›
   |exact mr ‹_›
   |exact cO (mr ‹(Sem.runT p (invoke f.target f.args) w #[]).1=Result.halt _ _›) (Jj _ _ _ _ _)
   |(split<;>exact pi ‹(Sem.runT p (invoke f.target f.args) w #[]).1=zD _ _›)
def Vc(main:Bool)(fr:Frame)(cs:List Frame)(d:Option Dying)(w:World):w.drawn<=wd (unwind p main fr cs d w):=by
 unfold unwind;split
 .rw[sD];split
  .exact pi ‹_›
  .exact mr ‹_›
 .exact Sz _ _ _ _ _
 .split
  .exact bX _
  .split
   .exact bX _
   .split
    .exact bX _
    .split
     .split
      .exact bX _
      .split
       .exact iF ‹_›
       .exact ny ‹_›
       .exact ny ‹_›
     .split
      .exact JB _ _ _
      .exact bX _
  .split
   .exact C6 (DW _ _ _ _ _ _).symm
   .rw[sD];split
    .exact cO (pi ‹_›) (C6 (DW _ _ _ _ _ _).symm)
    .exact mr ‹_›
    .exact mr ‹_›
def Am(listen:Bool)(fr:Frame)(cs:List Frame)(d:Option Dying)(s:Sem Next)(w:World):w.drawn<=wd (stepG.apply p listen fr cs d s w):=by
 unfold stepG.apply;have hr:Result.drew w (if listen=true then s.runT p w #[]else(s.run p w, #[])).1:=by
  split
  .rw[xQ];exact zm _ _ _
  .exact zm _ _ _
 rw[sD];generalize (if listen=true then s.runT p w #[]else(s.run p w, #[])).1=r at hr|-;cases r with
 |ok a w'=>
  cases a;all_goals (try exact hr)
  all_goals (dsimp only;repeat' split)
  all_goals exact hr
 |halt e w'=>
  cases e with
  |unsupported u=>cases u<;>first|exact hr|exact cO hr (Ya _ _ _ _ _)
  |fatal m=>exact cO hr (Jj _ _ _ _ _)
  |_=>exact hr
def ZQ(listen:Bool)(fr:Frame)(cs:List Frame)(d:Option Dying)(w:World):w.drawn<=wd (stepG.oper p listen fr cs d w):=by
 unfold stepG.oper;split
 .exact bX _
 .split<;>exact Am _ _ _ _ _ _
def Zt(main:Bool)(listen:Bool)(fr:Frame)(cs:List Frame)(d:Option Dying)(w:World):w.drawn<=wd (stepG.exec p main listen fr cs d w):=by
 have hleave:∀jump:Option Code,w.drawn<=wd (match fr.roundOf with
   |none=>if jump matches none|some .ret then GStep.go {frame:={fr with mode:= .returning},callers:=cs,status:= .running,dying:=d} w else .ended (.stuck "exit, goto: no such block or label" (fr.pos p)) w
   |some l=>GStep.after (seen p fr.fn ((Instr.endRound l jump).runT p w #[]).2)<|match((Instr.endRound l jump).runT p w #[]).1 with
    | .ok v w=>doReturn p main fr cs d v w
    | .halt _ w=> .ended (.stuck "range over a function: no such loop" (fr.pos p)) w):=by
  intro jump;split
  .refine BX ?_ ?_<;>exact bX _
  .rw[sD];split
   .exact cO (pi ‹_›) (C6 (DW _ _ _ _ _ _).symm)
   .exact mr ‹_›
 unfold stepG.exec;dsimp only;split;all_goals (try exact bX _)
 all_goals (try exact hleave _)
 all_goals (try exact Am _ _ _ _ _ _)
 all_goals (try exact hleave none)
 all_goals (try exact hleave (some .ret))
 .split<;>exact bX _
 .cases exitTo _ _
  .exact hleave (some (.exit _))
  .exact bX _
 .cases gotoIn _ _
  .exact hleave (some (.goto _))
  .exact bX _
 .rw[sD];split
  .exact cO (pi ‹_›) (Am _ _ _ _ _ _)
  .exact mr ‹_›
 .split
  .exact pi ‹_›
  .exact mr ‹_›
  .exact mr ‹_›
 .cases Extern.next _
  .exact bX _
  .exact Am _ _ _ _ _ _
 .refine BX (bX _) ?_;split
  .exact iF ‹_›
  .exact ny ‹_›
 .exact BX (ZQ _ _ _ _ _) (bX _)
def XV(main:Bool)(g:Goroutine)(w:World)(listen:Bool):w.drawn<=wd (stepG p main g w listen):=by
 unfold stepG;split;split
 .exact aA0 _ _ _
 .exact Zt _ _ _ _ _ _
 .exact Vc _ _ _ _ _
def sd(n:Nat):Stepped->Prop
 | .next m=>n<=m.world.drawn
 | .ended _ _=>True
def OY(gs:Array Goroutine)(rest:Rest)(w:World):sd w.drawn (look p gs rest w):=by
 unfold look;split
 .dsimp only
  repeat' split
  all_goals first|exact trivial|skip
  all_goals (have h:=iF (p:=p) (w:=w) (by assumption);exact h)
 .exact trivial
def UW{rest:Rest}{cases:Array CommCase}{w w':World}(h:waitingAt rest cases w=some w'):w.drawn<=w'.drawn:=by unfold waitingAt at h;grind
def Z0(rest:Rest)(gs:Array Goroutine)(i:Nat)(g:Goroutine)(cases:Array CommCase)(b:Bool)(shape:CommShape)(w:World):sd w.drawn (communicate p rest gs i g cases b shape w).1:=by
 unfold communicate;dsimp only
 repeat' split
 all_goals first
  |exact trivial
  |exact bX _
  |exact UW ‹_›
  |(have h:=iF (p:=p) (w:=w) (by assumption);first
     |exact h
     |(have h2:=ny (p:=p) ‹fz p (runtimePanic (RuntimeError.plain "send on closed channel")) _=Result.halt _ _›;exact cO h h2)
     |(have h2:=iF (p:=p) ‹fz p (choose (Question.extern "which waiting goroutine is the partner" _)) _=zD _ _›;exact cO h h2))
def Yb(w:World)(c:Nat):(drain w c).2.drawn=w.drawn:=by unfold drain;split<;>rfl
def Ku(m:Machine)(k:Nat)(t:Timer)(a b:Nat):(retime m k t a b).2.world.drawn=m.world.drawn:=by
 unfold retime;cases t.chan with
 |none=>rfl
 |some c=>exact Yb _ _
def WF{m m':Machine}{v:Addr}(h:timerOp.opened m v=some m'):m'.world.drawn=m.world.drawn:=by unfold timerOp.opened at h;grind
def Mh{m m':Machine}{var:Addr}{f:Nat->Timer->Value×Machine}{v:Value}{n:Nat}(hf:∀k t,(f k t).2.world.drawn=n)(h:timerOp.named m var f= .ok (v,m')):m'.world.drawn=n:=by unfold timerOp.named at h;grind
def Ub{m m':Machine}{op:TimerOp}{v:Value}(h:timerOp m op= .ok (v,m')):m'.world.drawn=m.world.drawn:=by
 unfold timerOp at h;split at h
 .split at h
  .cases h;rfl
  grind
 .exact Mh (λk t=>Ku _ _ _ _ _) h
 .split at h
  .rename_i ho;exact(Mh (λk t=>Ku _ _ _ _ _) h).trans (WF ho)
  .cases h
 .cases h;rfl
def ZC(m:Machine)(i:Nat)(listen:Bool):sd m.world.drawn (runT p m i listen).1:=by
 unfold runT;generalize (m.gs.swapAt! i {(default:Goroutine)with status:= .finished})=q;obtain⟨g,gs⟩:=q;dsimp only;have hs:=XV (p:=p) (i==0) g m.world listen;generalize stepG p (i==0) g m.world listen=s at hs|-;cases s with
 |ended o w es=>exact trivial
 |comm g cases b shape w es=>
  have:=Z0 (p:=p) m.rest gs i g cases b shape w;revert this;generalize (communicate p m.rest gs i g cases b shape w).1=r;intro h;cases r with
  |next m'=>exact cO hs h
  |ended _ _=>exact trivial
 |go g w es=>exact hs
 |spawn g c w es=>exact hs
 |count g w es=>
  dsimp only;split
  .exact trivial
  .exact hs
 |alone g on w es=>exact hs
 |collect g w es=>
  have:=OY (p:=p) (gs.setIfInBounds i g) m.rest w;dsimp only;revert this;generalize look p (gs.setIfInBounds i g) m.rest w=r;intro h;cases r with
  |next m'=>exact cO hs h
  |ended _ _=>exact trivial
 |watch g w es=>exact hs
 |newcoro g c d w es=>exact hs
 |coroswitch g c exit w es=>
  dsimp only;split
  .exact hs
  .exact hs
  .exact trivial
 |timer g op w es=>
  dsimp only;split
  .rename_i h;exact cO hs (C6 (Ub h).symm)
  .exact hs
  .exact trivial
  .exact trivial
def md(n:Nat):Move->Prop
 | .goroutine m _=>n<=m.world.drawn
 | .machine s _=>sd n s
def Xh(m:Machine)(k:Nat):sd m.world.drawn (serve p m k):=by
 unfold serve;split
 .exact trivial
 .exact bX _
 .dsimp only;split
  .exact trivial
  .exact bX _
def HY{a b:Nat}{x:Move}(h:a<=b)(hx:md b x):md a x:=by
 cases x with
 |goroutine m i=>exact cO h hx
 |machine s ops=>cases s with
  |next m=>exact cO h hx
  |ended _ _=>exact trivial
def FW(m:Machine):md m.world.drawn (askOn p m):=by
 unfold askOn;dsimp only
 repeat' split
 all_goals first
  |exact trivial
  |(have h:=iF (p:=p) (w:=m.world) (by assumption);first
     |exact h
     |exact HY h (Xh (p:=p) _ _)
     |exact cO h (iF (p:=p) (by assumption))
     |exact cO h (cO (iF (p:=p) (by assumption)) (iF (p:=p) (by assumption)))
     |exact cO h (cO (iF (p:=p) (by assumption)) (cO (iF (p:=p) (by assumption)) (iF (p:=p) (by assumption))))
     |(have h2:=iF (p:=p) ‹fz p (choose (Question.extern "clock.wait" _)) _=zD _ _›;first
        |exact cO h h2
        |(have h3:=iF (p:=p) ‹fz p (choose (Question.sched _)) _=zD _ _›;first
           |exact cO h (cO h2 h3)
           |(have h4:=iF (p:=p) ‹fz p (choose (Question.extern "sched.slice" _)) _=zD _ _›;exact cO h (cO h2 (cO h3 h4))))))
  |skip
def Pj(m:Machine):md m.world.drawn (ask p m):=by
 unfold ask;split
 .split
  .exact trivial
  .rename_i w1 h1;have h2:=OY (p:=p) m.gs m.rest w1;have h1:=iF h1;split
   .rename_i h3;rw[h3]at h2;exact HY (cO h1 h2) (FW _)
   .cases hl:look p m.gs m.rest w1 with
    |next m'=>grind
    |ended _ _=>exact trivial
  .rename_i h1;exact HY (iF h1) (FW _)
 .exact FW m
def ZZ(m:Machine):md m.world.drawn (move p m):=by
 unfold move;split
 .split
  .exact bX _
  .exact trivial
 .split
  .split
   .exact bX _
   .exact Pj _
  .exact Pj _
def Uc{m m':Machine}(h:step p m= .next m'):m.world.drawn<=m'.world.drawn:=by
 have hm:=ZZ (p:=p) m;unfold step stepT at h;cases hv:move p m with
 |goroutine m1 i=>
  rw[hv]at hm h;have:=ZC (p:=p) m1 i true;rw[h]at this;exact cO hm this
 |machine s ops=>
  rw[hv]at hm h;dsimp only at h;rw[h]at hm;exact hm
def Df:∀(n:Nat) {m m':Machine},runN p n m= .next m'->m.world.drawn<=m'.world.drawn
 |0,m,m',h=>by cases h;omega
 |n+1,m,m',h=>by
  unfold runN at h;split at h
  .rename_i m1 h1;exact cO (Uc h1) (Df n h)
  grind
def Jo{f:FuncId}{args:Array Value}{w:World}{R:Ending->World->Prop}(h:Calls p f args w R)(hn:∀w',¬R .outgrown w'):Calls p f args w λe w'=>R e w'/\w.drawn<=w'.drawn:=by
 intro cs;obtain⟨e,w',fr,h1,h2,h3⟩:=h cs;refine⟨e,w',fr,⟨h1,?_⟩,h2,h3⟩;cases e with
 |returned v=>obtain⟨n,hn⟩:=h2;exact Df n hn
 |panicked c=>obtain⟨n,hn⟩:=h2;exact Df n hn
 |outgrown=>grind
end
end Go.Proofs.YtdaeofhdgabhjaaGreat
namespace Go.Proofs
open Go.Shelf
def Tryz.sort68_ren:Go.Shelf.Ren:=⟨λ|6=>68|15=>143|14=>142|28=>195|29=>196|20=>187|21=>188|22=>189|23=>190|24=>191|25=>192|26=>193|27=>194|46=>210|47=>211|48=>212|49=>213|50=>214|57=>226|n=>n,λ|22=>24|24=>23|25=>40|3=>3|39=>134|0=>0|53=>170|55=>172|4=>4|46=>163|45=>162|50=>167|5=>5|9=>9|66=>180|70=>184|76=>193|77=>60|n=>n,λ|n=>n⟩
def Tryz.sort68:Go.Proofs.SlLaysF.n6 ak Tryz.sort68_ren:={
 mixed:=by kernel_rfl
 f6:=⟨Tryz.f68.name,by decide,Tryz.func68.trans (congrArg some (by kernel_rfl))⟩
 f14:=⟨Tryz.f142.name,by decide,Tryz.func142.trans (congrArg some (by kernel_rfl))⟩
 f15:=Tryz.func143.trans (congrArg some (by kernel_rfl))
 f20:=⟨Tryz.f187.name,by decide,Tryz.func187.trans (congrArg some (by kernel_rfl))⟩
 f21:=⟨Tryz.f188.name,by decide,Tryz.func188.trans (congrArg some (by kernel_rfl))⟩
 f22:=⟨Tryz.f189.name,by decide,Tryz.func189.trans (congrArg some (by kernel_rfl))⟩
 f23:=⟨Tryz.f190.name,by decide,Tryz.func190.trans (congrArg some (by kernel_rfl))⟩
 f24:=⟨Tryz.f191.name,by decide,Tryz.func191.trans (congrArg some (by kernel_rfl))⟩
 f25:=⟨Tryz.f192.name,by decide,Tryz.func192.trans (congrArg some (by kernel_rfl))⟩
 f26:=⟨Tryz.f193.name,by decide,Tryz.func193.trans (congrArg some (by kernel_rfl))⟩
 f27:=⟨Tryz.f194.name,by decide,Tryz.func194.trans (congrArg some (by kernel_rfl))⟩
 f28:=Tryz.func195.trans (congrArg some (by kernel_rfl))
 f29:=Tryz.func196.trans (congrArg some (by kernel_rfl))
 f46:=⟨Tryz.f210.name,by decide,Tryz.func210.trans (congrArg some (by kernel_rfl))⟩
 f47:=Tryz.func211.trans (congrArg some (by kernel_rfl))
 f48:=Tryz.func212.trans (congrArg some (by kernel_rfl))
 f49:=⟨Tryz.f213.name,by decide,Tryz.func213.trans (congrArg some (by kernel_rfl))⟩
 f50:=⟨Tryz.f214.name,by decide,Tryz.func214.trans (congrArg some (by kernel_rfl))⟩
 f57:=⟨Tryz.f226.name,by decide,Tryz.func226.trans (congrArg some (by kernel_rfl))⟩
 t0:=Tryz.underlying0
 a0:=Tryz.isAgg0
 z0:=Tryz.sizeOf0
 v0:=Tryz.zeroValue0
 t3:=pF
 a3:=Tryz.isAgg3
 z3:=Tryz.sizeOf3
 v3:=Tryz.zeroValue3
 t4:=Tryz.underlying4
 a4:=Tryz.isAgg4
 z4:=Tryz.sizeOf4
 v4:=Tryz.zeroValue4
 t5:=Tryz.underlying5
 a5:=Tryz.isAgg5
 z5:=Tryz.sizeOf5
 v5:=Tryz.zeroValue5
 t9:=Tryz.underlying9
 a9:=Tryz.isAgg9
 z9:=Tryz.sizeOf9
 v9:=Tryz.zeroValue9
 t22:=C5
 a22:=Tryz.isAgg24
 z22:=Tryz.sizeOf24
 v22:=Tryz.zeroValue24
 a24:=Tryz.isAgg23
 z24:=Tryz.sizeOf23
 t25:=Tryz.underlying40
 a25:=Tryz.isAgg40
 z25:=Tryz.sizeOf40
 v25:=Tryz.zeroValue40
 t39:=Tryz.underlying134
 a39:=Tryz.isAgg134
 z39:=Tryz.sizeOf134
 v39:=Tryz.zeroValue134
 t45:=Tryz.underlying162
 a45:=Tryz.isAgg162
 z45:=Tryz.sizeOf162
 v45:=Tryz.zeroValue162
 t46:=Tryz.underlying163
 a46:=Tryz.isAgg163
 z46:=Tryz.sizeOf163
 v46:=Tryz.zeroValue163
 t50:=Tryz.underlying167
 a50:=Tryz.isAgg167
 z50:=Tryz.sizeOf167
 v50:=Tryz.zeroValue167
 t53:=Tryz.underlying170
 a53:=Tryz.isAgg170
 z53:=Tryz.sizeOf170
 v53:=Tryz.zeroValue170
 t55:=Tryz.underlying172
 a55:=Tryz.isAgg172
 z55:=Tryz.sizeOf172
 v55:=Tryz.zeroValue172
 t66:=Tryz.underlying180
 a66:=Tryz.isAgg180
 z66:=Tryz.sizeOf180
 v66:=Tryz.zeroValue180
 t70:=Tryz.underlying184
 a70:=Tryz.isAgg184
 z70:=Tryz.sizeOf184
 v70:=Tryz.zeroValue184
 t76:=Tryz.underlying193
 a76:=Tryz.isAgg193
 z76:=Tryz.sizeOf193
 v76:=Tryz.zeroValue193
 t77:=Tryz.underlying60
 a77:=Tryz.isAgg60
 z77:=Tryz.sizeOf60
 v77:=Tryz.zeroValue60}
end Go.Proofs
namespace Go.Proofs.YtdaeofhdgabhjaaGreat
structure Lay(w w':World):Prop where
 below:Below w.heap.size w w'
 drawn:w.drawn<=w'.drawn
def Lay.grow{w w':World}(h:Lay w w'):∃q os,w'=C7 (w.drewN q) os:=by
 obtain⟨p,hp⟩:=JL h.below;refine⟨w'.drawn-w.drawn,p.os,?_⟩;have hd:=h.drawn;have hn:w'.drawn=p.n:=by rw[hp];rfl
 rw[hp];unfold grD C7 World.drewN;grind
def Oa{f:Nat}{xa ya:Option Addr}{xc yc:Nat}{xs ys:aE}{w:World}{i:Int}(hk:∃A q,avs [SV.lst .V xs,.lst .V ys] =A.map .p/\(SV.int .i64 i).av= .p q/\Sat ak false f A q)(hx:RdV w xa xs)(hy:RdV w ya ys)(lx:Len ⟨xa,xc,xs⟩)(ly:Len ⟨ya,yc,ys⟩):
  Calls ak f #[.slice xa xs.length xc,.slice ya ys.length yc] w λe w'=>e= .returned (.int .i64 i)/\Lay w w':=
 (Jo (xX hk (B:=[.sl xs.length (fe xs),.sl ys.length (fe ys)]) rfl rfl (λC v h=>by unfold aU at h;exact h)
   ((ae.one (pP hy ly)).B0 (pP hx lx))) (by grind)).mono λe w' h=>⟨h.1.1,h.1.2,h.2⟩
def yf(x y:aE):Int:=cE (aEv x 0) (aEv y 0)
section
open Go.RowKit Go.Sort Go.Shelf Go.Lib
section
variable {α:Type} [Inhabited α]
def I7{enc:α->Value}{w:World}{g n:Nat}{d:Array α}{os:Array Obj}{cur:Array Value}{t:TypeId}(hb:w.heap[g]? =some (.cells cur t (0,0))):(sortWorld enc w g 0 n d os).heap[g]? =some (.cells (putCells enc 0 d cur) t (0,0)):=by have hlt:=(wK.1 hb).1;unfold sortWorld C7 putRow mapBlock;simp only[heap_ahead];rw[Array.getElem?_append_left (by grind),Array.getElem?_modify,if_pos rfl,hb];rfl
def C8{enc:α->Value}{w:World}{g n:Nat}{d:Array α}{os:Array Obj}:w.grownBy (sortWorld enc w g 0 n d os) (some g):=by
 refine⟨rfl,rfl,rfl,?_,?_⟩
 .unfold sortWorld C7 putRow mapBlock;simp
 .intro k hk hne;unfold sortWorld C7 putRow mapBlock;simp only[heap_ahead];grind
def TP{enc:α->Value}{d:Array α}{cur:Array Value}(h:d.size<=cur.size):(putCells enc 0 d cur).toList.take d.size=d.toList.map enc:=by
 apply List.ext_getElem?;intro i;rw[o5];by_cases hi:i<d.size
 .rw[if_pos hi];unfold putCells;grind
 grind
end
def JD(g:Nat)(hg:∀args w,(callFunc g args).run ak w= .ok (.enter g args) w)(cf:aE->aE->Int)(base:Nat)(v:Value)(rs:List RV)(w:World)(hl:rs.length<=1000000)
  (hrow:w.ownsRow base 23 1 v rs.length (rs.map RV.enc)) (hok:∀x∈rs,RingOk base w v x) (hO:SWO (ltOf λx y:{x:RV//x∈rs}=>cf x.1.r y.1.r))
  (hcmp:∀x∈rs,∀y∈rs,∀wx,RdV wx x.a x.r->RdV wx y.a y.r->Calls ak g #[x.enc,y.enc] wx λe w'=>e= .returned (.int .i64 (cf x.r y.r))/\Lay wx w'):
  Calls ak 68 #[v,.func (.func g) #[] #[]] w λe w'=>e= .returned (.tuple #[])/\∃rs':List RV,rs'.Perm rs/\rs'.Pairwise (λa b=>¬cf b.r a.r<0)/\w'.ownsRow base 23 1 v rs'.length (rs'.map RV.enc)/\(∀x∈rs',RingOk base w' v x)/\w.grownBy w' v.ownBlock:=by
 by_cases hr0:rs=[]
 .subst hr0;have hv:∃p cap,v= .slice p 0 cap:=by
   rcases hrow.2 with⟨h1,_⟩|⟨gb,cap,cur,h1,_⟩
   .grind
   .grind
  obtain⟨p,cap,rfl⟩:=hv;have h:=AnyF.slices_SortFunc_none (P:=ak) (ρ:=Tryz.sort68_ren) {Tryz.sort68 with} p cap (.func (.func g) #[] #[]) w;change Calls ak 68 _ _ _ at h;refine h.mono ?_;rintro e w' ⟨rfl,rfl⟩;exact⟨rfl,[],List.Perm.refl _,List.Pairwise.nil,hrow,hok,⟨rfl,rfl,rfl,bX _,λ_ _ _=>rfl⟩⟩
 .obtain⟨x0,hx0⟩:=List.exists_mem_of_ne_nil _ hr0;have:Inhabited {x:RV//x∈rs}:=⟨⟨x0,hx0⟩⟩;rcases hrow.2 with⟨_,h1⟩|⟨gb,cap,cur,rfl,hbb,hh,hn,hcap,hsz,htk⟩
  .grind
  .obtain⟨d,hd⟩:∃d:Array {x:RV//x∈rs},d=rs.attach.toArray:=⟨_,rfl⟩;have hds:d.size=rs.length:=by rw[hd];simp
   have hdm:d.toList.map (·.1)=rs:=by rw[hd];simp
   have hcs:rs.length<=cur.size:=by rw[hsz];omega
   have hH:Holds (λx:{x:RV//x∈rs}=>RV.enc x.1) w gb 0 d:=by
    intro j hj;have e1:cur[j]? =some (RV.enc d[j]!.1):=by
     have e2:(cur.toList.take (rs.length*1))[j]? =(rs.map RV.enc)[j]? :=by rw[htk]
     rw[o5,if_pos (by omega)]at e2;have e3:(rs.map RV.enc)[j]? =some (RV.enc d[j]!.1):=by
      have e4:((d.toList.map (·.1)).map RV.enc)[j]? =some (RV.enc d[j]!.1):=by rw[di,gS];simp[hj]
      rw[hdm]at e4;exact e4
     rw[e3]at e2;simpa using e2
    refine⟨?_,?_⟩
    .rw[jo];exact(cell_of_row w gb j cur 23 (0,0) hh).trans e1
    .simp[World.frozen?,hh]
   have hblk:gb<w.heap.size:=(wK.1 hh).1;have h:=Any.slices_SortFunc (P:=ak) (ρ:=Tryz.sort68_ren) Tryz.sort68 (λx:{x:RV//x∈rs}=>RV.enc x.1) (λ_=>rfl) (λx y=>cf x.1.r y.1.r) hO g #[] gb 0 cap d w hg (by intro m os dk hdk x y;have hG:=C8 (enc:=λx:{x:RV//x∈rs}=>RV.enc x.1) (w:=w) (g:=gb) (n:=m) (d:=dk) (os:=os);have h1:=hcmp x.1 x.2 y.1 y.2 _ ((hok x.1 x.2).rd.grown (hok x.1 x.2).sep hG) ((hok y.1 y.2).rd.grown (hok y.1 y.2).sep hG);rw[show(#[RV.enc x.1,RV.enc y.1] ++(#[] :Array Value))= #[RV.enc x.1,RV.enc y.1] by simp];exact h1.mono λe w' ⟨he,hL⟩=>⟨he,hL.grow⟩) hH hblk (by omega)
   change Calls ak 68 _ _ _ at h;rw[hds]at h;refine h.mono ?_;rintro e w' ⟨rfl,d',n,os,hp,hs,rfl⟩;obtain⟨p1,_,p3⟩:=hp;have hG:=C8 (enc:=λx:{x:RV//x∈rs}=>RV.enc x.1) (w:=w) (g:=gb) (n:=n) (d:=d') (os:=os);have hperm:d'.toList.Perm d.toList:=by
    have e1:(d'.extract 0 rs.length).toList=d'.toList:=by rw[<-hds,<-p1];simp
    have e2:(d.extract 0 rs.length).toList=d.toList:=by rw[<-hds];simp
    rwa[e1,e2]at p3
   have hpr:(d'.toList.map (·.1)).Perm rs:=by have:=hperm.map (·.1);rwa[hdm]at this
   have hlen:(d'.toList.map (·.1)).length=rs.length:=hpr.length_eq;refine⟨rfl,d'.toList.map (·.1),hpr,?_,?_,?_,hG⟩
   .rw[i8,List.pairwise_iff_getElem];intro i j hi hj hij;have hj':j<d'.size:=by simpa using hj
    have:=hs i j (jS _) hij (by omega);unfold ltOf at this;grind
   .refine⟨by simp,.inr ⟨gb,cap,_,by rw[hlen],hbb,I7 hh,by omega,hcap,by unfold putCells;grind,?_⟩⟩;rw[hlen,Nat.mul_one,<-hds,<-p1,TP (by omega),di];rfl
   .intro x hx;have hx2:=hpr.mem_iff.1 hx;have ok:=hok x hx2;exact⟨ok.rd.grown ok.sep hG,ok.fresh,ok.cap,ok.len,ok.sep⟩
end
def UP{rs:List RV}:Sort.SWO (ltOf λx y:{x:RV//x∈rs}=>dA x.1.r y.1.r):=by
 have h:∀x y:{x:RV//x∈rs},ltOf (λx y:{x:RV//x∈rs}=>dA x.1.r y.1.r) x y=true↔dA x.1.r y.1.r<0:=by intro x y;unfold ltOf;rw[decide_eq_true_eq]
 refine⟨?_,?_,?_⟩
 .intro x;rw[o7,ne_eq,h];have:=JQ x.1.r;omega
 .intro x y z h1 h2;rw[h]at*;exact DE _ _ _ h1 h2
 .intro x y z h1 h2;rw[o7,ne_eq,h]at*;have e1:=qV x.1.r y.1.r;have e2:=qV y.1.r z.1.r;have e3:=qV x.1.r z.1.r;have:= @JK z.1.r y.1.r x.1.r;unfold ia at this;omega
def VQ{a b:aE}(h:¬dA b a<0):ia a b:=by have:=qV a b;unfold ia;omega
def V4{C:bE}{w:World}{b:Nat}(hC:∀b' o v,C b' o v->w.cell? ⟨b',o,none⟩=some v/\b'≠b){r:List V}{v:Value}(h:aU C (gL r) v):
  ∃a c,v= .slice a r.length c/\RdV w a r/\r.length<=c/\(0<r.length->∀ad,a=some ad->ad.block≠b)/\(a=none->c=0):=by
 obtain⟨a,c,hv,h1,h2,h0n⟩:=Ew (λb' o v h=>(hC b' o v h).1) h;refine⟨a,c,hv,h1,h2,λh0 ad ha=> ?_,h0n⟩;unfold gL aU at h;obtain⟨a',c',hv',_,_,h3⟩:=h;rw[hv]at hv';simp only[Value.slice.injEq,true_and]at hv';obtain⟨rfl,rfl⟩:=hv';obtain⟨_,h5⟩:=h3 _ ha;have hl:0<(fe r).length:=by rw[u6.length];omega
 obtain⟨u,h6,_⟩:=h5.get _ _ _ 0 _ (fA hl);grind
structure RingIn(C:bE)(w:World)(b:Nat)(x:RV):Prop where
 rep:aU C (gL x.r) x.enc
 rd:RdV w x.a x.r
 cap:x.r.length<=x.c
 sep:0<x.r.length->∀ad,x.a=some ad->ad.block≠b
 nn:x.a=none->x.c=0
def Kr{C:bE}{w:World}{b:Nat}(hC:∀b' o v,C b' o v->w.cell? ⟨b',o,none⟩=some v/\b'≠b):∀(l:List aE) (us:List Value),
  (∀(i:Nat) x,(l.map gL)[i]? =some x->∃v,us[i]? =some v/\aU C x v)->∃rs:List RV,rs.map RV.r=l/\rs.map RV.enc=us.take l.length/\∀x∈rs,RingIn C w b x
 |[],us,_=>⟨[],rfl,by simp,by simp⟩
 |r::l,us,h=>by
  obtain⟨v,h1,h2⟩:=h 0 (gL r) rfl;cases us with
  |nil=>simp at h1
  |cons u us=>
   simp at h1;subst h1;obtain⟨rs,h3,h4,h5⟩:=Kr hC l us λi x hi=>by simpa using h (i+1) x (by grind)
   obtain⟨a,c,rfl,g1,g2,g3,g4⟩:=V4 hC h2;refine⟨⟨a,c,r⟩::rs,by simp[h3],by simp[h4,RV.enc],?_⟩;intro x hx;rcases aj.1 hx with rfl|hx
   .exact⟨h2,g1,g2,g3,g4⟩
   grind
def VC{w w':World}(h:w.grownBy w' none):Below w.heap.size w w':=⟨h.os,h.tape,h.output,h.size,λk hk=>h.block k hk (by simp)⟩
def aBb(args:Array Value)(w:World):(callFunc 26 args).run ak w= .ok (.enter 26 args) w:=ky (by kernel_rfl) args w
def aAN{rs:List RV}(h:∀x∈rs,Len x):∀x∈rs,∀y∈rs,∀wx,RdV wx x.a x.r->RdV wx y.a y.r->Calls ak 26 #[x.enc,y.enc] wx λe w'=>e= .returned (.int .i64 (dA x.r y.r))/\Lay wx w':=
 λx hx y hy wx h1 h2=>Oa (k26 [.lst .V x.r,.lst .V y.r] (x.r,y.r) rfl ((jY (l:=c26.pre (x.r,y.r))).1 ⟨cO (h x hx).1 (by decide),cO (h y hy).1 (by decide)⟩)) h1 h2 (h x hx) (h y hy)
def Kq(g:Nat)(hg:∀args w,(callFunc g args).run ak w= .ok (.enter g args) w)(cf:aE->aE->Int)(l m:List aE)(hn:l.length<=1000000)(hl:∀r∈l,r.length<=1000)(hlen:m.length=l.length)
  (hO:∀rs:List RV,rs.map RV.r=l->Sort.SWO (ltOf λx y:{x:RV//x∈rs}=>cf x.1.r y.1.r))
  (hc:∀rs:List RV,rs.map RV.r=l->(∀x∈rs,Len x)->∀x∈rs,∀y∈rs,∀wx,RdV wx x.a x.r->RdV wx y.a y.r->Calls ak g #[x.enc,y.enc] wx λe w'=>e= .returned (.int .i64 (cf x.r y.r))/\Lay wx w')
  (hu:∀k:List aE,k.Perm l->k.Pairwise (λa b=>¬cf b a<0)->k=m):mS ak 68 (some l.length) [.fn (.func g) [] []] 23 1 (l.map gL) (m.map gL):=by
 have hfn:∀(C:bE) (vs:List Value),ae C [.fn (.func g) [] []] vs->vs=[.func (.func g) #[] #[]] :=by intro C vs h;unfold ae at h;obtain⟨v,r,rfl,h1,h2⟩:=h;unfold ae at h2;subst h2;unfold aU at h1;obtain⟨a,b,rfl,h3,h4⟩:=h1;unfold ae at h3 h4;subst h3;subst h4;rfl
 refine⟨by kernel_rfl,by simp[hlen],?_,?_⟩
 .intro C w b c arr vs hC hL hnc hA;rw[hfn C vs hA];have hnc:=hnc _ rfl;obtain⟨h1,h2,h3⟩:=hL.row (by decide);obtain⟨rs,g1,g2,g3⟩:=Kr hC l arr.toList λi x hi=>by obtain⟨v,k1,_,k2⟩:=hL.cells i x hi;grind
  have hrl:rs.length=l.length:=by rw[<-g1,db]
  have hr1:∀x∈rs,x.r.length<=1000:=λx hx=>hl _ (by grind);have hrow:w.ownsRow 0 23 1 (.slice (some ⟨b,0,none⟩) l.length c) rs.length (rs.map RV.enc):=
   ⟨by simp,.inr ⟨b,c,arr,by rw[hrl],jS _,hL.blk,by omega,h3,h1,by grind⟩⟩
  refine(JD g hg cf 0 _ rs w (by omega) hrow ?_ (hO rs g1) (hc rs g1 λx hx=>⟨hr1 x hx,(g3 x hx).cap,(g3 x hx).nn⟩)).mono ?_
  .intro x hx;refine⟨(g3 x hx).rd,λad _=>jS _,(g3 x hx).cap,hr1 x hx,λh0 ad ha e=>(g3 x hx).sep h0 ad ha ?_⟩;simp only[Co,fm]at e;exact e.symm
  .rintro e w' ⟨rfl,rs',hp,hs,hrow',hok',hg⟩;have hso:rs'.map RV.r=m:=by refine hu _ (by grind) ?_;rw[i8];exact hs
   obtain⟨hz,hcase⟩:=hrow';rcases hcase with⟨e,_⟩|⟨gb,cap,cur,e,_,hblk,hnc',hcm,hsz,htk⟩
   .cases e
   .simp only[Value.slice.injEq,fm,Addr.mk.injEq,and_true]at e;obtain⟨rfl,e2,rfl⟩:=e;refine⟨cur,rfl,⟨hblk,λh=>absurd h (by decide),λ_=>⟨hsz,by grind,hcm⟩,?_⟩,hg⟩;intro i x hi;rw[<-hso,di]at hi;rw[gS]at hi;cases hx:rs'[i]? with
    |none=>grind
    |some y=>
     rw[hx]at hi;simp only[eE,fm,Cb]at hi;subst hi;have hi':i<rs'.length:=(rV.1 hx).1;have hy:y∈rs:=hp.mem_iff.1 (Io hx);have h7:(rs'.map RV.enc)[i]? =some y.enc:=by rw[gS,hx];rfl
     rw[<-htk,List.getElem?_take_of_lt (by omega)]at h7;exact⟨y.enc,by grind,rfl,(g3 y hy).rep⟩
 .intro h0 C w vs hC hA;rw[hfn C vs hA];have hl0:l=[] :=mc.1 (by grind);subst hl0;refine(JD g hg cf 0 (.slice none 0 0) [] w (by simp) ⟨by simp,.inl ⟨rfl,rfl⟩⟩ (by simp) (hO [] rfl) (hc [] rfl (by simp))).mono ?_;rintro e w' ⟨rfl,rs',_,_,_,_,hg⟩;exact⟨rfl,VC hg⟩
def Oz(a b:aE):yf a b<0↔bg (aEv a 0) (aEv b 0)=true:=by unfold yf;exact xt _ _
def aAx(args:Array Value)(w:World):(callFunc 127 args).run ak w= .ok (.enter 127 args) w:=ky (by kernel_rfl) args w
def Ye{rs:List RV}:Sort.SWO (ltOf λx y:{x:RV//x∈rs}=>yf x.1.r y.1.r):=by
 have h:∀x y:{x:RV//x∈rs},ltOf (λx y:{x:RV//x∈rs}=>yf x.1.r y.1.r) x y=true↔bg (aEv x.1.r 0) (aEv y.1.r 0)=true:=by intro x y;unfold ltOf;rw[decide_eq_true_eq,Oz]
 refine⟨?_,?_,?_⟩
 .intro x;rw[o7,ne_eq,h,EJ];simp
 .intro x y z h1 h2;rw[h]at*;revert h1 h2;unfold bg;grind
 .intro x y z h1 h2;rw[o7,ne_eq,h]at*;revert h1 h2;unfold bg;grind
def Ui(l:List aE)(hn:l.length<=1000000)(hl:∀r∈l,r.length<=1000):mS ak 68 (some l.length) [.fn (.func 26) [] []] 23 1 (l.map gL) ((sr l).map gL):=
 Kq 26 aBb dA l _ hn hl (zW l).length_eq (λ_ _=>UP) (λ_ _ hL=>aAN hL)
  λk hp hs=>TX hp (hs.imp λh=>VQ h)
def T0(l:List aE)(hn:l.length<=1000000)(hl:∀r∈l,0<r.length/\r.length<=1000)(ha:∀a∈l,∀b∈l,leH a b->leH b a->a=b):mS ak 68 (some l.length) [.fn (.func 127) [] []] 23 1 (l.map gL) ((q9 l).map gL):=by
 have hm:∀rs:List RV,rs.map RV.r=l->∀x∈rs,x.r∈l:=λrs hr x hx=>by grind
 refine Kq 127 aAx yf l _ hn (λr hr=>(hl r hr).2) (l0 l).length_eq (λ_ _=>Ye) (λrs hr hL x hx y hy wx h1 h2=> ?_) λk hp hs=> ?_
 .have g1:=hl _ (hm rs hr x hx);have g2:=hl _ (hm rs hr y hy);exact Oa (aCS [.lst .V x.r,.lst .V y.r] (x.r,y.r) rfl ((jY (l:=SJ.pre (x.r,y.r))).1 ⟨g1.2,g2.2,g1.1,g2.1⟩)) h1 h2 (hL x hx) (hL y hy)
 .have hs:k.Pairwise leH:=hs.imp λ{a b} h=>by rw[Oz]at h;exact(qW _ _).1 (by simpa using h)
  exact List.Perm.eq_of_pairwise (λa b h1 h2 h3 h4=>ha a (hp.mem_iff.1 h1) b ((l0 l).mem_iff.1 h2) h3 h4) hs (TZ l) (hp.trans (l0 l).symm)
def d68:List SV->Option (List aE×Bool)
 |[.lst .R l,.fnp 26 [] []] =>some (l,true)
 |[.lst .R l,.fnp 127 [] []] =>some (l,false)
 |_=>none
def r68:List aE×Bool->List aE
 |(l,true)=>sr l
 |(l,false)=>q9 l
def p68:List aE×Bool->List Prop
 |(l,true)=>[l.length<=1000000,∀r∈l,r.length<=1000]
 |(l,false)=>[l.length<=1000000,∀r∈l,0<r.length/\r.length<=1000,∀a∈l,∀b∈l,leH a b->leH b a->a=b]
def Yc{l:List aE}{rest:List SV}{x:List aE×Bool}(h:d68 (.lst .R l::rest)=some x):(rest=[.fnp 26 [] []]/\x=(l,true))\/(rest=[.fnp 127 [] []]/\x=(l,false)):=by unfold d68 at h;grind
def c68:Con:=⟨List aE×Bool,d68,p68,.mutR .R 23 r68⟩
def k68:c68.Okz 68:=by
 intro l rest x hd hp;rcases Yc hd with⟨rfl,rfl⟩|⟨rfl,rfl⟩
 .refine⟨[.fn (.func 26) [] []],rfl,?_⟩;rw[tH];show mS _ _ _ _ _ _ _ (LT.R.enc (sr l));rw[tH];exact Ui l (hp _ bo) (hp _ (bk _ bo))
 .refine⟨[.fn (.func 127) [] []],rfl,?_⟩;rw[tH];show mS _ _ _ _ _ _ _ (LT.R.enc (q9 l));rw[tH];exact T0 l (hp _ bo) (hp _ (bk _ bo)) (hp _ (bk _ (bk _ bo)))
noncomputable def t68:=tS.adk k68
section
def EO{p:Pt}{w:Int}:∀{l:List aE} {k:Nat},k<l.length->(∀j,j<k->¬bP (aA l j) p=2/\¬bP (aA l j) p=1)->(bP (aA l k) p=2->0=fV p l w)/\(¬bP (aA l k) p=2->bP (aA l k) p=1->1=fV p l w)
 |[],k,h,_=>by simp at h
 |r::l,0,h,_=>by
  unfold fV;refine⟨λe=> ?_,λe1 e2=> ?_⟩
  .rw[if_pos (show bP r p=2 from e)]
  .rw[if_neg (show¬bP r p=2 from e1),if_pos (show bP r p=1 from e2)]
 |r::l,k+1,h,h1=>by
  unfold fV;obtain⟨e1,e2⟩:=h1 0 (by omega);rw[if_neg (show¬bP r p=2 from e1),if_neg (show¬bP r p=1 from e2)];exact EO (l:=l) (k:=k) (by simpa using h) λj hj=>h1 (j+1) (by omega)
def KQ{p:Pt}{w:Int}:∀{l:List aE},(∀j,j<l.length->¬bP (aA l j) p=2/\¬bP (aA l j) p=1)->w=fV p l w
 |[],_=>rfl
 |r::l,h1=>by
  unfold fV;obtain⟨e1,e2⟩:=h1 0 (by simp);rw[if_neg (show¬bP r p=2 from e1),if_neg (show¬bP r p=1 from e2)];exact KQ (l:=l) λj hj=>h1 (j+1) (by grind)
noncomputable def c66:Con:=con (ac aSh (a1 aT)) (λ(s,_)=>[Fit s]) (λ(s,p)=> .iqz (eI s p))
def k66:c66.Okz 66:=bJ t68 (λ(s,p)=>[cnt 7 21 s.holes.length (aM λj=>¬bP (aA s.holes j) p=2/\¬bP (aA s.holes j) p=1)]
  ) (λ(_,_)=>⟨_,rfl⟩) λ(s,p) hp=>az (aC (!bM s) λB=>Fit s/\(B=true->0=eI s p)/\
 (B=false->s.outer.length<=1000/\(¬bP s.outer p=2->bP s.outer p=eI s p)/\
  (¬(¬bP s.outer p=2)->(0=(0:Int)/\(0:Nat)<=s.holes.length/\aM (λj=>¬bP (aA s.holes j) p=2/\¬bP (aA s.holes j) p=1) 0)/\
   (∀x:Nat,aC (x:Int) λA=>aC (aA s.holes x) λC=>x<=s.holes.length/\aM (λj=>¬bP (aA s.holes j) p=2/\¬bP (aA s.holes j) p=1) x->(A<s.holes.length->ix A s.holes.length/\C.length<=1000/\(bP C p=2->0=eI s p)/\
     (¬bP C p=2->(bP C p=1->1=eI s p)/\
      (¬bP C p=1->aJ (A+1)/\A+1=((x+1:Nat):Int)/\x+1<=s.holes.length/\aM (λj=>¬bP (aA s.holes j) p=2/\¬bP (aA s.holes j) p=1) (x+1)/\s.holes.length-(x+1)<s.holes.length-x)))/\
    (¬A<s.holes.length->bP s.outer p=eI s p))))) (by kernel_rfl) (by
  change Fit s at hp;have w0:(!bM s)=true->0=eI s p:=λh=>by unfold eI;rw[if_pos h]
  have w1:(!bM s)=false->¬bP s.outer p=2->bP s.outer p=eI s p:=λh h2=>by unfold eI;grind
  have w2:(!bM s)=false->¬¬bP s.outer p=2->eI s p=fV p s.holes 2:=λh h2=>by unfold eI;grind
  have hl:∀x:Nat,(x:Int)<s.holes.length->(aA s.holes x).length<=1000:=λx h=>hp.2.2 _ (iD (by omega));have hn:=hp.2.1;have ho:=hp.1;have a2:∀x:Nat,(x:Int)<s.holes.length->aM (λj=>¬bP (aA s.holes j) p=2/\¬bP (aA s.holes j) p=1) x->bP (aA s.holes x) p=2->0=fV p s.holes 2:=λx h1 h2 h3=>(EO (by omega) h2).1 h3;have a1:∀x:Nat,(x:Int)<s.holes.length->aM (λj=>¬bP (aA s.holes j) p=2/\¬bP (aA s.holes j) p=1) x->¬bP (aA s.holes x) p=2->bP (aA s.holes x) p=1->1=fV p s.holes 2:=λx h1 h2 h3 h4=>(EO (by omega) h2).2 h3 h4;have a0:∀x:Nat,¬(x:Int)<s.holes.length->x<=s.holes.length->aM (λj=>¬bP (aA s.holes j) p=2/\¬bP (aA s.holes j) p=1) x->2=fV p s.holes 2:=λx h1 h2 h3=>by
   obtain rfl:x=s.holes.length:=by omega
   exact KQ h3
  have hf:=hp;clear hp
  repeat' first|with_reducible apply cM|with_reducible intro
  all_goals repeat with_reducible cases‹_/\aM _ _›
  all_goals first|assumption|rfl|omega|(unfold ix;omega)|(unfold aJ;omega)|exact ir _|exact w0 ‹_› |exact w1 ‹_› ‹_› |exact hl _ ‹_› |(rw[w2 ‹_› ‹_›];exact a2 _ ‹_› ‹_› ‹_›)|(rw[w2 ‹_› ‹_›];exact a1 _ ‹_› ‹_› ‹_› ‹_›)|(rw[w2 ‹_› ‹_›,th ‹¬¬bP s.outer p=2›];exact a0 _ ‹_› ‹_› ‹_›)|exact cT ‹_› ⟨‹_›,‹_›⟩)
noncomputable def t66:=t68.adk k66
def aK(s:Shape):Shape:=if bM s=true then eP s else⟨[],[]⟩
def U5{s:Shape}(h:VS s):∀a∈s.holes.map c7,∀b∈s.holes.map c7,leH a b->leH b a->a=b:=by
 have hn:=h.nodup;unfold bz aD at hn;rw[List.flatten_cons,List.nodup_append]at hn;have hn2:((s.holes.map c7).flatten).Nodup:=(I5 s.holes).nodup_iff.2 hn.2.1;have hne:∀r∈s.holes.map c7,aEv r 0∈r:=by intro r hr;obtain⟨q,hq,rfl⟩:=bR.1 hr;have h3:=(h.ring (show q∈aD s by simp[aD,hq])).three;exact fN.2 ⟨0,by rw[lv];omega,rfl⟩
 intro a ha b hb h1 h2;have e:aEv a 0=aEv b 0:=xT h1 h2;exact zH _ hn2 a ha b hb (aEv a 0) (hne a ha) (by grind)
def Db{s:Shape}(h:VS s):s.holes.map de=s.holes.map c7:=List.map_congr_left λr hr=>by unfold de;rw[(iB r).2 (h.ring (by simp[aD,hr]))];rfl
noncomputable def c57:Con:=con (a1 aSh) (λs=>[Fit s]) (λs=>aSh.enc (aK s))
def k57:c57.Okz 57:=bJ t66 (λs=>[(5,.mk Nat (λF _=>nH F 17) [15] (λk=>[k<=s.holes.length]) (λk=>[(17,.iqz (k:Int))]) (λk=>[(9,.box 26 [.lst .V (de s.outer),.own 15 .R k]),(15,.row 23 .R ((s.holes.take k).map de))]) (λk=>s.holes.length-k) bh)]
  ) (λ_=>⟨_,rfl⟩) λs hp=>az (aC (aK s) λA=>aC (0:Nat) λC=>aC (!bM s) λD=>aC ([] :List (List aEw)) λH=>Fit s/\(D=true->A.outer=([] :List aEw)/\A.holes=H)/\
 (D=false->s.outer.length<=1000/\(0=(0:Int)/\de s.outer=de s.outer/\C=0/\dX de (bD 0 s.holes)=H/\C<=s.holes.length)/\
  (∀x:Nat,aC (x:Int) λB=>aC (aA s.holes x) λE=>aC (bD x s.holes) λF=>aC (dX de F) λG=>aC (dX de F,false) λI=>x<=s.holes.length->(B<s.holes.length->ix B s.holes.length/\E.length<=1000/\x=G.length/\G.length+[de E].length<=1000000/\aJ (B+1)/\B+1=((x+1:Nat):Int)/\de s.outer=de s.outer/\(dX de F++[de E]).length=x+1/\dX de F++[de E] =dX de (bD (x+1) s.holes)/\x+1<=s.holes.length/\s.holes.length-(x+1)<s.holes.length-x)/\
   (¬B<s.holes.length->x=G.length/\G.length<=1000000/\(∀r:aE,r∈dX de F->C<r.length/\r.length<=1000)/\(∀a:aE,a∈dX de F->(∀b:aE,b∈dX de F->leH a b->leH b a->a=b))/\x=(r68 I).length/\de s.outer=A.outer/\r68 I=A.holes)))) (by kernel_rfl) (by
  change Fit s at hp;have c0:(!bM s)=true->aK s=⟨[],[]⟩:=λh=>by unfold aK;grind
  have c1:(!bM s)=false->aK s=eP s:=λh=>by unfold aK;grind
  have V:(!bM s)=false->VS s:=λh=>(lz s).1 (nb h);have hl:∀x:Nat,(x:Int)<s.holes.length->(aA s.holes x).length<=1000:=λx h=>hp.2.2 _ (iD (by omega));have hn:=hp.2.1;have ho:=hp.1;have e1:∀x:Nat,x<=s.holes.length->(dX de (bD x s.holes)).length=x:=λx h=>by grind
  have e2:∀x:Nat,(x:Int)<s.holes.length->dX de (bD x s.holes)++[de (aA s.holes x)] =dX de (bD (x+1) s.holes):=λx h=>by rw[kw (by omega),dR,lF (by omega)];rfl
  have e3:∀x:Nat,¬(x:Int)<s.holes.length->bD x s.holes=s.holes:=λx h=>ip (by omega);have g1:(!bM s)=false->∀x:Nat,¬(x:Int)<s.holes.length->∀r∈dX de (bD x s.holes),0<r.length/\r.length<=1000:=λh x hx r hr=>by rw[e3 x hx,Db (V h)]at hr;obtain⟨q,hq,rfl⟩:=bR.1 hr;rw[lv];have h3:=((V h).ring (show q∈aD s by simp[aD,hq])).three;have:=hp.2.2 q hq;omega
  have g2:(!bM s)=false->∀x:Nat,¬(x:Int)<s.holes.length->∀a∈dX de (bD x s.holes),∀b∈dX de (bD x s.holes),leH a b->leH b a->a=b:=λh x hx=>by rw[e3 x hx,Db (V h)];exact U5 (V h)
  have g3:∀l,(r68 (l,false)).length=l.length:=λl=>(l0 l).length_eq;have g4:(!bM s)=false->de s.outer=(aK s).outer:=λh=>by rw[c1 h];unfold de;rw[(iB _).2 ((V h).ring (by simp[aD]))];rfl
  have g5:(!bM s)=false->∀x:Nat,¬(x:Int)<s.holes.length->r68 (dX de (bD x s.holes),false)=(aK s).holes:=λh x hx=>by rw[e3 x hx,Db (V h),c1 h];rfl
  have hf:=hp;clear hp
  repeat' first|with_reducible apply cM|with_reducible intro
  all_goals grind)
noncomputable def t57:=t66.adk k57
noncomputable def aDz:Con:=con (a1 aS) (λs=>[bd 1000000000 s.a,bd 1000000000 s.b]) (λs=>aT.enc (gD s))
def aCc:aDz.Okz 183:=bJ t57 (λs=>[jb 3 26 (decide ((s.a.x+s.b.x).tmod 2=0)&&decide ((s.a.y+s.b.y).tmod 2=0))]
  ) (λ_=>⟨_,rfl⟩) λs hp=>az (aC (2:Int) λA=>aC (s.a.x+s.b.x) λB=>aC (s.a.y+s.b.y) λC=>aC (gD s) λD=>aC (decide (c5 B 2=0)&&decide (c5 C 2=0)) λE=>aJ B/\aJ C/\(A≠0/\(c5 B 2=0->A≠0/\decide (c5 C 2=0)=E)/\
  (¬c5 B 2=0->false=E))/\
 (∀y:Unit,(E=true->A≠0/\aJ (fU B 2)/\A≠0/\aJ (fU C 2)/\fU B 2=D.x/\fU C 2=D.y/\1=D.den)/\
  (E=false->s.a.x+s.b.x=D.x/\s.a.y+s.b.y=D.y/\2=D.den))) (by kernel_rfl) (by
  change bd 1000000000 s.a/\bd 1000000000 s.b at hp;unfold bd at hp;have k1:aJ (s.a.x+s.b.x):=bW (by omega);have k2:aJ (s.a.y+s.b.y):=bW (by omega);have q1:=pO (x:=s.a.x+s.b.x) (g:=2) (B:=4000000000) (by omega);have q2:=pO (x:=s.a.y+s.b.y) (g:=2) (B:=4000000000) (by omega);have k3:aJ (fU (s.a.x+s.b.x) 2):=bW (by omega);have k4:aJ (fU (s.a.y+s.b.y) 2):=bW (by omega);have m1:(decide (c5 (s.a.x+s.b.x) 2=0)&&decide (c5 (s.a.y+s.b.y) 2=0))=true->gD s=⟨(s.a.x+s.b.x).tdiv 2,(s.a.y+s.b.y).tdiv 2,1⟩:=λh=>by simp only[bn,decide_eq_true_eq]at h;exact if_pos h
  have m2:(decide (c5 (s.a.x+s.b.x) 2=0)&&decide (c5 (s.a.y+s.b.y) 2=0))=false->gD s=⟨s.a.x+s.b.x,s.a.y+s.b.y,2⟩:=λh=>if_neg λh2=>by grind
  grind)
noncomputable def Qs:=t57.adk aCc
noncomputable def aEa:Con:=con (ac aS (a1 aS)) (λ(_,_)=>[]) (λ(s,t)=> .bool (cP s t)
 )
def aCM:aEa.Okz 134:=bJ Qs (λ(_,_)=>[]) (λ(_,_)=>⟨_,rfl⟩) λ(s,t) _=>az ((cC s t=0->true=cP s t)/\
 (¬cC s t=0->(cC s t=1->(s.a=t.a->true=cP s t)/\
   (¬s.a=t.a->(s.a=t.b->true=cP s t)/\
    (¬s.a=t.b->(s.b=t.a->true=cP s t)/\
     (¬s.b=t.a->decide (s.b=t.b)=cP s t))))/\
  (¬cC s t=1->false=cP s t))) (by kernel_rfl) (by
  have hd:∀a b:aEw,(a==b)=decide (a=b):=λa b=>by grind
  unfold cP um;grind)
noncomputable def RX:=Qs.adk aCM
def aPS:Ar S where
 enc s:= .pro [.int .i64 s.a.x,.int .i64 s.a.y,.int .i64 s.b.x,.int .i64 s.b.y] 0
 dec s:=match s with
  | .pro [.int .i64 x,.int .i64 y,.int .i64 z,.int .i64 w] 0=>some ⟨⟨x,y⟩,⟨z,w⟩⟩
  |_=>none
 ok s a h:=by grind
 pl _:=⟨_,rfl⟩
def QP:Ar (S×Unit):=aCl 133 (ac aPS a0)
noncomputable def aEb:Con:=con (ac aS (a1 aPS)) (λ(_,_)=>[]) (λ(d,c)=> .bool (!cP c d)
 )
def aCN:aEb.Okz 133:=bJ RX (λ(_,_)=>[]) (λ(_,_)=>⟨_,rfl⟩) λ(d,c) _=>az (aC (!cP c d) λA=>A=A) (by kernel_rfl) (by rfl)
noncomputable def RY:=RX.adk aCN
noncomputable def aDA:Con:=con (ac (aL .S) (a1 QP)) (λ(l,_)=>[l.length<=1000000]) (λ(l,c)=> .iqz (fI (λd=> !cP c.1 d) l))
def aCd:aDA.Okz 182:=bJ RY (λ(l,c)=>[cnt 2 8 l.length (aM λj=>(!cP c.1 (bB l j))=false)]
  ) (λ(_,_)=>⟨_,rfl⟩) λ(l,c) hp=>az ((0=(0:Int)/\(0:Nat)<=l.length/\aM (λj=>(!cP c.1 (bB l j))=false) 0)/\
 (∀x:Nat,aC (x:Int) λA=>aC (!cP c.1 (bB l x)) λB=>x<=l.length/\aM (λj=>(!cP c.1 (bB l j))=false) x->(A<l.length->ix A l.length/\(B=true->A=fI (λd=>(!cP c.1 d)) l)/\
   (B=false->aJ (A+1)/\A+1=((x+1:Nat):Int)/\x+1<=l.length/\aM (λj=>(!cP c.1 (bB l j))=false) (x+1)/\l.length-(x+1)<l.length-x))/\
  (¬A<l.length-> -1=fI (λd=>(!cP c.1 d)) l))) (by kernel_rfl) (by
  change l.length<=1000000 at hp
  with_reducible ((repeat' first|apply cM|intro);all_goals repeat cases‹_/\_›)
  all_goals first|rfl|exact qB (t:= .S) (by omega) ‹_› ‹_› |(obtain rfl:_=l.length:=ti ‹_› (by omega);exact sf (t:= .S) ‹_›)|grind)
noncomputable def Qt:=RY.adk aCd
noncomputable def aEc:Con:=con (ac (aL .S) (a1 QP)) (λ(l,_)=>[l.length<=1000000]) (λ(l,c)=> .bool (l.any λd=> !cP c.1 d)
 )
def aCO:aEc.Okz 132:=bJ Qt (λ(_,_)=>[]) (λ(_,_)=>⟨_,rfl⟩) λ(l,c) hp=>az (l.length<=1000000/\decide (0<=fI (λd=>(!cP c.1 d)) l)=fo l (λd=>(!cP c.1 d))) (by kernel_rfl) (by change l.length<=1000000 at hp;exact⟨hp,ur _ _⟩)
noncomputable def RZ:=Qt.adk aCO
noncomputable def aD9:Con:=con (ac aSh (ac (aL .S) (a1 aS))) (λ(s,l,c)=>[Fit s,l.length<=1000000,bd 1000000000 c.a,bd 1000000000 c.b]) (λ(s,l,c)=> .bool ((l.all λe=>cP e c)&&eI s (gD c)==2))
def aCL:aD9.Okz 135:=bJ RZ (λ(_,l,c)=>[cnt 2 11 l.length (aM λj=>cP (bB l j) c=true)]
  ) (λ(_,_,_)=>⟨_,rfl⟩) λ(s,l,c) hp=>az (aC (gD c) λB=>(0=(0:Int)/\(0:Nat)<=l.length/\aM (λj=>cP (bB l j) c=true) 0)/\
 (∀x:Nat,aC (x:Int) λA=>aC (!cP (bB l x) c) λC=>x<=l.length/\aM (λj=>cP (bB l j) c=true) x->(A<l.length->ix A l.length/\(C=true->false=(tj l (λe=>cP e c)&&eI s B==2))/\
   (C=false->aJ (A+1)/\A+1=((x+1:Nat):Int)/\x+1<=l.length/\aM (λj=>cP (bB l j) c=true) (x+1)/\l.length-(x+1)<l.length-x))/\
  (¬A<l.length->bd 1000000000 c.a/\bd 1000000000 c.b/\Fit s/\decide (eI s B=2)=(tj l (λe=>cP e c)&&eI s B==2)))) (by kernel_rfl) (by
  change Fit s/\l.length<=1000000/\bd 1000000000 c.a/\bd 1000000000 c.b at hp;have n1:∀x:Nat,(x:Int)<l.length->(!cP (bB l x) c)=true->false=(tj l (λe=>cP e c)&&eI s (gD c)==2):=λx h1 h2=>by rw[Bf (t:= .S) (l:=l) (q:=λe=>cP e c) (j:=x) (by omega) (nb' h2)];rfl
  have n2:∀x:Nat,¬(x:Int)<l.length->x<=l.length->aM (λj=>cP (bB l j) c=true) x->decide (eI s (gD c)=2)=(tj l (λe=>cP e c)&&eI s (gD c)==2):=λx h1 h2 h3=>by
   obtain rfl:x=l.length:=by omega
   rw[BD (t:= .S) (l:=l) (q:=λe=>cP e c) h3,kC,fg];simp
  obtain⟨hf,hll,hb1,hb2⟩:=hp
  repeat' first|with_reducible apply cM|with_reducible intro
  all_goals repeat with_reducible cases‹_/\aM _ _›
  all_goals first|rfl|with_reducible solve_by_elim|exact cT ‹_› (nb ‹_›)|grind)
noncomputable def RW:=RZ.adk aCL
def pK(s:Shape)(v:List aEw)(i k:Nat):List (Nat×Nat):=aED s v (eM s v i) i (k-(i+1))
def tkB(s:Shape)(v:List aEw)(i k:Nat):Bool:= !((pK s v i k).any λd=> !(cP ⟨aEv v i,aEv v k⟩ (dD v d)))&&gJ s ⟨aEv v i,aEv v k⟩
section
variable {s:Shape} {v:List aEw} {i k:Nat}
def ZP:pK s v i (i+1)=eM s v i:=by unfold pK;rw[Nat.sub_self];rfl
def OD(h:i<k):pK s v i (k+1)=if tkB s v i k=true then pK s v i k++[(i,k)]else pK s v i k:=by unfold tkB pK;rw[show k+1-(i+1)=(k-(i+1))+1 by omega];show pq s v _ i (i+1+(k-(i+1)))=_;rw[show i+1+(k-(i+1))=k by omega];rfl
def aAF(h:¬(k:Int)<v.length)(h2:k<=v.length):pK s v i k=eM s v (i+1):=by
 obtain rfl:k=v.length:=by omega
 rfl
def Ev(acc:List (Nat×Nat)):∀m,(aED s v acc i m).length<=acc.length+m
 |0=>bX _
 |m+1=>by
  have:=Ev acc m;unfold aED pq;grind
def zP:∀i,(eM s v i).length<=i*v.length
 |0=>by simp[eM]
 |i+1=>by
  have h1:=zP i;have h2:=Ev (s:=s) (v:=v) (i:=i) (eM s v i) (v.length-(i+1));unfold eM;grind
def aAE(hv:v.length<=900)(hi:i<=v.length)(hk:k<=v.length):(pK s v i k).length<=820000:=by have h1:=zP (s:=s) (v:=v) i;have h2:=Ev (s:=s) (v:=v) (i:=i) (eM s v i) (k-(i+1));have h3:i*v.length<=900*900:=wC (by omega) hv;unfold pK;omega
end
noncomputable def c60:Con:=con (ac aSh (a1 (aL .V))) (λ(s,v)=>[Fit s,v.length<=900,(∀x∈v,bd 1000000000 x),(bQ s).length<=1000000]) (λ(s,v)=> .lst .P (dN s v))
def k60:c60.Okz 60:=bJ RW (λ(s,v)=>[(5,.mk Nat (λF _=>nH F 16) [10,11] (λi=>[i<=v.length]) (λi=>[(16,.iqz (i:Int)),(6,.own 10 .P (eM s v i).length),(7,.own 11 .S (eM s v i).length)]) (λi=>[(10,.row 67 .P (eM s v i)),(11,.row 46 .S ((eM s v i).map (dD v)))]) (λi=>v.length-i) λi=>
  [(8,.mk Nat (λF _=>nH F 9) [10,11] (λk=>[i<k,k<=v.length]) (λk=>[(9,.iqz (k:Int)),(6,.own 10 .P (pK s v i k).length),(7,.own 11 .S (pK s v i k).length)]) (λk=>[(10,.row 67 .P (pK s v i k)),(11,.row 46 .S ((pK s v i k).map (dD v)))]) (λk=>v.length-k) λk=>[jb 13 46 (tkB s v i k)])])]
  ) (λ(_,_)=>⟨_,rfl⟩) λ(s,v) hp=>az (aC (dD v) λF=>aC (eM s v 0) λP=>Fit s/\(0=(0:Int)/\P.length=0/\P.length=0/\eM s v 0=([] :List (Prod Nat Nat))/\dX F P=([] :List S)/\(0:Nat)<=v.length)/\
 (∀x:Nat,aC (x+1) λA=>aC (x:Int) λD=>aC (pK s v x A) λH=>aC (eM s v x) λO=>aC (eM s v A) λQ=>aC ((x+1:Nat):Int) λR=>x<=v.length->(D<v.length->aJ (D+1)/\(D+1=R/\O.length=H.length/\O.length=H.length/\eM s v x=pK s v x A/\dX F O=dX F H/\x<x+1/\x+1<=v.length)/\
   (∀x_1:Nat,aC (x,x_1) λB=>aC (x_1+1) λC=>aC (x_1:Int) λE=>aC (pK s v x C) λG=>aC (pK s v x x_1) λJ=>aC (dX F J) λK=>aC (x_1+1:Nat) λM=>aC (⟨(aEv v x),(aEv v x_1)⟩:S) λN=>x<x_1/\x_1<=v.length->(E<v.length->ix D v.length/\ix E v.length/\J.length=K.length/\K.length<=1000000/\(((!fo K (λd=>(!cP N d)))=true->Fit s/\(bQ s).length<=1000000/\bd 1000000000 N.a/\bd 1000000000 N.b/\(tj (bQ s) (λe=>cP e N)&&eI s (gD N)==2)=tkB s v x x_1)/\
      ((!fo K (λd=>(!cP N d)))=false->false=tkB s v x x_1))/\
     (∀y:Unit,(tkB s v x x_1=true->J.length=K.length/\K.length+[N].length<=1000000/\J.length=J.length/\J.length+[B].length<=1000000/\aJ (E+1)/\E+1=(M:Int)/\(pK s v x x_1++[B]).length=G.length/\(dX F J++[N]).length=G.length/\pK s v x x_1++[B] =pK s v x C/\dX F J++[N] =dX F G/\x<x_1+1/\x_1+1<=v.length/\v.length-C<v.length-x_1)/\
      (tkB s v x x_1=false->aJ (E+1)/\E+1=(M:Int)/\J.length=G.length/\J.length=G.length/\pK s v x x_1=pK s v x C/\dX F J=dX F G/\x<x_1+1/\x_1+1<=v.length/\v.length-C<v.length-x_1)))/\
    (¬E<v.length->aJ (D+1)/\D+1=R/\J.length=Q.length/\J.length=Q.length/\pK s v x x_1=eM s v A/\dX F J=dX F Q/\x+1<=v.length/\v.length-A<v.length-x)))/\
  (¬D<v.length->O.length=O.length/\eM s v x=dN s v))) (by kernel_rfl) (by
  change Fit s/\v.length<=900/\((∀x∈v,bd 1000000000 x))/\(bQ s).length<=1000000 at hp;obtain⟨hf,hv,hb,he⟩:=hp;have hb:∀x:Nat,(x:Int)<v.length->bd 1000000000 (aEv v x):=λx h=>hb _ (eC (by omega));have hL:∀i k:Nat,(i:Int)<v.length->k<=v.length->(pK s v i k).length<=820000:=λi k h1 h2=>aAE hv (by omega) h2;have z:=λi=> @ZP s v i;have sY:∀i k:Nat,i<k->tkB s v i k=true->pK s v i k++[(i,k)] =pK s v i (k+1):=λi k h h2=>by rw[OD h,if_pos h2]
  have sN:∀i k:Nat,i<k->tkB s v i k=false->pK s v i k=pK s v i (k+1):=λi k h h2=>by rw[OD h,if_neg (by rw[h2];simp)]
  have sM:∀i k:Nat,i<k->tkB s v i k=true->(pK s v i k).map (dD v)++[⟨aEv v i,aEv v k⟩] =(pK s v i (k+1)).map (dD v):=λi k h h2=>by rw[<-sY i k h h2,dR];rfl
  have pE:=λ(i k:Nat) (h:¬(k:Int)<v.length) (h2:k<=v.length)=> @aAF s v i k h h2;have uE:∀i:Nat,¬(i:Int)<v.length->i<=v.length->eM s v i=dN s v:=λi h1 h2=>by rw[show i=v.length by omega];rfl
  have tA:∀i k:Nat,(dX (dD v) (pK s v i k)).any (λd=> !cP ⟨aEv v i,aEv v k⟩ d)=(pK s v i k).any (λd=> !cP ⟨aEv v i,aEv v k⟩ (dD v d)):=λi k=>by rw[List.any_map];rfl
  have tY:∀i k:Nat,(!(dX (dD v) (pK s v i k)).any (λd=> !cP ⟨aEv v i,aEv v k⟩ d))=true->((bQ s).all (λe=>cP e ⟨aEv v i,aEv v k⟩)&&eI s (gD ⟨aEv v i,aEv v k⟩)==2)=tkB s v i k:=λi k h=>by unfold tkB;rw[<-tA,h];rfl
  have tN:∀i k:Nat,(!(dX (dD v) (pK s v i k)).any (λd=> !cP ⟨aEv v i,aEv v k⟩ d))=false->false=tkB s v i k:=λi k h=>by unfold tkB;grind
  repeat' first|with_reducible apply cM|with_reducible intro
  all_goals repeat with_reducible cases‹_<_/\_›
  all_goals first|rfl|with_reducible solve_by_elim|(rw[z];done)|(rw[db];done)|(rw[db];exact cO (hL _ _ ‹_› ‹_›) (by decide))|(rw[db];exact cO (Nat.add_le_add_right (hL _ _ ‹_› ‹_›) 1) (by decide))|exact cO (Nat.add_le_add_right (hL _ _ ‹_› ‹_›) 1) (by decide)|exact congrArg fh (sN _ _ ‹_› ‹_›)|exact congrArg (dX (dD v)) (sN _ _ ‹_› ‹_›)|exact congrArg fh (sY _ _ ‹_› ‹_›)|(rw[sM _ _ ‹_› ‹_›,db];done)|exact congrArg fh (pE _ _ ‹_› ‹_›)|exact congrArg (dX (dD v)) (pE _ _ ‹_› ‹_›)|grind)
noncomputable def t60:=RW.adk k60
end
def Eu{s:Shape}{v:List aEw}{acc:List (Nat×Nat)}{i:Nat}:∀{m:Nat} {p:Nat×Nat},p∈aED s v acc i m->p∈acc\/(p.1=i/\i<p.2/\p.2<i+1+m)
 |0,p,h=> .inl h
 |m+1,p,h=>by
  unfold aED pq at h;split at h
  .rcases bi.1 h with h|h
   .rcases Eu h with h|⟨h1,h2,h3⟩
    .exact .inl h
    omega
   grind
  .rcases Eu h with h|⟨h1,h2,h3⟩
   .exact .inl h
   omega
def Ja{s:Shape}{v:List aEw}:∀{i:Nat} {p:Nat×Nat},i<=v.length->p∈eM s v i->p.1<p.2/\p.2<v.length
 |0,p,_,h=>by simp[eM]at h
 |i+1,p,hi,h=>by
  unfold eM at h;rcases Eu h with h|⟨h1,h2,h3⟩
  .exact Ja (by omega) h
  .omega
def J7{s:Shape}{v:List aEw}{p:Nat×Nat}(h:p∈dN s v):p.1<p.2/\p.2<v.length:=Ja (bX _) h
def UM(r:aE):(aH r).length<=r.length:=by unfold aH;grind
def I6:∀l:List aE,(l.flatMap aH).length<=(l.map fh).sum
 |[] =>by simp
 |r::l=>by
  have:=I6 l;have:=UM r;grind
def JT{s:Shape}(h:VS s):(bQ s).length<=80:=by have h1:=I6 (aD s);have h2:=h.corners;unfold gH at h2;unfold bQ;omega
def VT{s:Shape}(h:VS s){r:aE}(hr:r∈(eP s).holes):3<=r.length/\r.length<=40:=by unfold eP at hr;have hr:=(l0 _).subset hr;obtain⟨q,hq,rfl⟩:=bR.1 hr;have hv:=h.ring (r:=q) (by unfold aD;grind);rw[lv];exact⟨hv.three,hv.most⟩
def AG{s:Shape}(V:VS s):0<(eP s).outer.length/\∀r∈(eP s).holes,0<r.length:=
 ⟨by have h:=V.outer.three;show 0<(c7 s.outer).length;rw[lv];omega,λr hr=>by have:=VT V hr;omega⟩
noncomputable def c17:Con:=con (a1 aSh) (λs=>[Fit s]) (λs=> .tup [.lst .V (vOf s),.iqz (eOf s)])
def k17:c17.Okz 17:=bJ t60 (λs=>[(5,.mk Nat (λF _=>nH F 14) [12] (λk=>[k<=(aD (aK s)).length]) (λk=>[(14,.iqz (k:Int)),(4,.own 12 .V ((aD (aK s)).take k).flatten.length)]) (λk=>[(12,.row 44 .V ((aD (aK s)).take k).flatten)]) (λk=>(aD (aK s)).length-k) bh)]
  ) (λ_=>⟨_,rfl⟩) λs hp=>az (Fit s/\((!bM s)=true->vOf s=([] :List aEw)/\11=eOf s)/\
 ((!bM s)=false->Fit s/\Fit (aK s)/\(0:Nat)<(aK s).outer.length/\(∀r:aE,r∈(aK s).holes->(0:Nat)<r.length)/\(0=(0:Int)/\(ft (bD 0 (aD (aK s)))).length=0/\ft (bD 0 (aD (aK s)))=([] :List aEw)/\(0:Nat)<=(aD (aK s)).length)/\
  (∀x:Nat,x<=(aD (aK s)).length->((x:Int)<(aD (aK s)).length->ix (x:Int) (aD (aK s)).length/\(ft (bD x (aD (aK s)))).length=(ft (bD x (aD (aK s)))).length/\(ft (bD x (aD (aK s)))).length+(aA (aD (aK s)) x).length<=1000000/\aJ ((x:Int)+1)/\(x:Int)+1=((x+1:Nat):Int)/\(ft (bD x (aD (aK s)))++aA (aD (aK s)) x).length=(ft (bD (x+1) (aD (aK s)))).length/\ft (bD x (aD (aK s)))++aA (aD (aK s)) x=ft (bD (x+1) (aD (aK s)))/\x+1<=(aD (aK s)).length/\(aD (aK s)).length-(x+1)<(aD (aK s)).length-x)/\
   (¬(x:Int)<(aD (aK s)).length->(ft (bD x (aD (aK s)))).length=(ft (bD x (aD (aK s)))).length/\ft (bD x (aD (aK s)))=vOf s/\0=eOf s)))) (by kernel_rfl) (by
  change Fit s at hp;have hq:=jW s;have v0:(!bM s)=true->vOf s=[] :=λh=>by unfold vOf;grind
  have v1:(!bM s)=true->11=eOf s:=λh=>by unfold eOf;grind
  have v2:(!bM s)=false->0=eOf s:=λh=>by unfold eOf;grind
  have c1:(!bM s)=false->aK s=eP s:=λh=>by unfold aK;grind
  have V:(!bM s)=false->VS s:=λh=>(lz s).1 (nb h);have f1:(!bM s)=false->Fit (aK s):=λh=>by rw[c1 h];exact LZ hp
  have f2:(!bM s)=false->0<(aK s).outer.length:=λh=>by rw[c1 h];exact(AG (V h)).1
  have f3:(!bM s)=false->∀r∈(aK s).holes,0<r.length:=λh=>by rw[c1 h];exact(AG (V h)).2
  have f4:(!bM s)=false->(aD (aK s)).flatten.length<=80:=λh=>by rw[c1 h];exact Ek (V h)
  have f5:(!bM s)=false->(aD (aK s)).flatten=vOf s:=λh=>by rw[c1 h];unfold vOf;rw[<-hq,nb h];rfl
  have f6:(!bM s)=false->(aD (aK s)).length<=1000:=λh=>by have:=(f1 h).2.1;unfold aD;grind
  generalize aD (aK s)=L at f4 f5 f6|-;have e1:∀x:Nat,(x:Int)<L.length->(L.take x).flatten++aA L x=(L.take (x+1)).flatten:=λx h=>by rw[kw (by omega),wJ,So,lF (by omega)]
  have e2:∀x:Nat,(L.take x).flatten.length<=L.flatten.length:=λx=>by
   conv=>rhs;rw[<-tX x L,wJ,gi]
   omega
  have e4:(!bM s)=false->∀x:Nat,(x:Int)<L.length->(L.take x).flatten.length+(aA L x).length<=1000000:=λh x hx=>by grind
  have e5:(!bM s)=false->∀x:Nat,¬(x:Int)<L.length->(L.take x).flatten=vOf s:=λh x hx=>by rw[ip (by omega),f5 h]
  have e6:(!bM s)=false->∀x:Nat,x<=L.length->aJ ((x:Int)+1):=λh x hx=>bW (by grind);clear e2 c1 V
  repeat' first|with_reducible apply cM|with_reducible intro
  all_goals grind)
noncomputable def t17:=t60.adk k17
noncomputable def c19:Con:=con (a1 aSh) (λs=>[Fit s]) (λs=> .tup [.lst .S (dOf s),.iqz (eOf s)])
def k19:c19.Okz 19:=bJ t17 (λs=>[(6,.mk Nat (λF _=>nH F 21) [16] (λk=>[k<=(dN s (vOf s)).length]) (λk=>[(21,.iqz (k:Int)),(6,.own 16 .S k)]) (λk=>[(16,.row 46 .S (((dN s (vOf s)).map (dD (vOf s))).take k))]) (λk=>(dN s (vOf s)).length-k) bh)]
  ) (λ_=>⟨_,rfl⟩) λs hp=>az (Fit s/\(¬eOf s=0->dOf s=([] :List S)/\eOf s=eOf s)/\
 (¬(¬eOf s=0)->Fit s/\(vOf s).length<=900/\(∀x:aEw,x∈vOf s->bd 1000000000 x)/\(bQ s).length<=1000000/\(0=(0:Int)/\(0:Nat)=0/\bD 0 (dX (dD (vOf s)) (dN s (vOf s)))=([] :List S)/\(0:Nat)<=(dN s (vOf s)).length)/\
  (∀x:Nat,x<=(dN s (vOf s)).length->((x:Int)<(dN s (vOf s)).length->ix (x:Int) (dN s (vOf s)).length/\ix 0 2/\ix ((aY (dN s (vOf s)) x).1:Int) (vOf s).length/\ix 1 2/\ix ((aY (dN s (vOf s)) x).2:Int) (vOf s).length/\x=(bD x (dX (dD (vOf s)) (dN s (vOf s)))).length/\(bD x (dX (dD (vOf s)) (dN s (vOf s)))).length+[(⟨(aEv (vOf s) (aY (dN s (vOf s)) x).1),(aEv (vOf s) (aY (dN s (vOf s)) x).2)⟩:S)].length<=1000000/\aJ ((x:Int)+1)/\(x:Int)+1=((x+1:Nat):Int)/\(bD x (dX (dD (vOf s)) (dN s (vOf s)))++[(⟨(aEv (vOf s) (aY (dN s (vOf s)) x).1),(aEv (vOf s) (aY (dN s (vOf s)) x).2)⟩:S)]).length=x+1/\bD x (dX (dD (vOf s)) (dN s (vOf s)))++[(⟨(aEv (vOf s) (aY (dN s (vOf s)) x).1),(aEv (vOf s) (aY (dN s (vOf s)) x).2)⟩:S)] =bD (x+1) (dX (dD (vOf s)) (dN s (vOf s)))/\x+1<=(dN s (vOf s)).length/\(dN s (vOf s)).length-(x+1)<(dN s (vOf s)).length-x)/\
   (¬(x:Int)<(dN s (vOf s)).length->x=(bD x (dX (dD (vOf s)) (dN s (vOf s)))).length/\bD x (dX (dD (vOf s)) (dN s (vOf s)))=dOf s/\0=eOf s)))) (by kernel_rfl) (by
  change Fit s at hp;have hq:=jW s;have d0:¬eOf s=0->dOf s=[] :=λh=>(aAZ h).1;have R:¬¬eOf s=0->bI s=true:=λh=>Oo h;have V:¬¬eOf s=0->VS s:=λh=>vsR (R h);have hvl:=pf s;have hvb:∀x∈vOf s,bd 1000000000 x:=λx hx=>by obtain⟨i,hi,rfl⟩:=fN.1 hx;exact BE hi (by decide)
  have he:¬¬eOf s=0->(bQ s).length<=1000000:=λh=>by have:=JT (V h);omega
  have dE:¬¬eOf s=0->(dN s (vOf s)).map (dD (vOf s))=dOf s:=λh=>by rw[GI (R h)];rw[sO (R h)];exact(GG (V h) (λx hx=>(ri s).subset hx) ((ri s).nodup_iff.2 (V h).nodup)).1
  have pL:(dN s (vOf s)).length<=6400:=by have:=zP (s:=s) (v:=vOf s) (vOf s).length;have h2:(vOf s).length*(vOf s).length<=80*80:=wC hvl hvl;unfold dN;omega
  have pM:∀p∈dN s (vOf s),p.1<p.2/\p.2<(vOf s).length:=λp hp=>J7 hp;generalize dN s (vOf s)=P at dE pL pM|-;have pA:∀x:Nat,(x:Int)<P.length->(aY P x).1<(vOf s).length/\(aY P x).2<(vOf s).length:=λx h=>by
   have h2:aY P x∈P:=by rw[oA (by omega)];exact mg _
   grind
  have p1:∀x:Nat,(x:Int)<P.length->ix ((aY P x).1:Int) (vOf s).length:=λx h=>eW (pA x h).1;have p2:∀x:Nat,(x:Int)<P.length->ix ((aY P x).2:Int) (vOf s).length:=λx h=>eW (pA x h).2;have e1:∀x:Nat,x<=P.length->(bD x (P.map (dD (vOf s)))).length=x:=λx h=>by grind
  have e2:∀x:Nat,(x:Int)<P.length->bD x (P.map (dD (vOf s)))++[⟨aEv (vOf s) (aY P x).1,aEv (vOf s) (aY P x).2⟩] =bD (x+1) (P.map (dD (vOf s))):=λx h=>by rw[kw (by grind),jR,oA (by omega)];rfl
  have e3:¬¬eOf s=0->∀x:Nat,¬(x:Int)<P.length->bD x (P.map (dD (vOf s)))=dOf s:=λh x hx=>by rw[ip (by grind),dE h]
  clear pM dE pA hq
  repeat' first|with_reducible apply cM|with_reducible intro
  all_goals grind)
noncomputable def t19:=t17.adk k19
def eB(v:List aEw)(i j k n:Nat):Bool:=n !=i&&n !=j&&n !=k&&dL (QT (aEv v i) (aEv v j) (aEv v k)) (aEv v n) !=0
noncomputable def aDZ:Con:=con (ac (aL .V) (a1 aV)) (λ(l,_)=>[l.length<=1000000]) (λ(l,v)=> .iqz (fI (λu=>decide (v=u)) l))
def R9:aDZ.Okz 150:=bJ t19 (λ(l,v)=>[cnt 2 8 l.length (aM λj=>decide (v=aEv l j)=false)]
  ) (λ(_,_)=>⟨_,rfl⟩) λ(l,v) hp=>az ((0=(0:Int)/\(0:Nat)<=l.length/\aM (λj=>decide (v=aEv l j)=false) 0)/\
 (∀x:Nat,aC (x:Int) λA=>x<=l.length/\aM (λj=>decide (v=aEv l j)=false) x->(A<l.length->ix A l.length/\(v=(aEv l x)->A=fI (λu=>decide (v=u)) l)/\
   (¬v=(aEv l x)->aJ (A+1)/\A+1=((x+1:Nat):Int)/\x+1<=l.length/\aM (λj=>decide (v=aEv l j)=false) (x+1)/\l.length-(x+1)<l.length-x))/\
  (¬A<l.length-> -1=fI (λu=>decide (v=u)) l))) (by kernel_rfl) (by
  change l.length<=1000000 at hp
  with_reducible ((repeat' first|apply cM|intro);all_goals repeat cases‹_/\_›)
  all_goals first|rfl|exact qB (t:= .V) (by omega) (decide_eq_true ‹_›) ‹_› |(obtain rfl:_=l.length:=ti ‹_› (by omega);exact sf (t:= .V) ‹_›)|grind)
noncomputable def RL:=t19.adk R9
def iJ(v:V):Int:=if 0<v.y\/(v.y=0/\0<v.x)then 0 else 1
def aG:Ar (List V) where
 enc v:= .pro [.pro [.lst .V v,.junk,.junk] 0] 0
 dec s:=match s with
  | .pro [.pro [r,.junk,.junk] 0] 0=>oc .V r
  |_=>none
 ok s a h:=by
  split at h
  .have e1:=qt h;simp only[SV.av,avs,e1]
  .cases h
 pl _:=⟨_,rfl⟩
def aQ:Ar Nat where
 enc n:= .pro [.int .i64 (n:Int)] 0
 dec s:=match s with
  | .pro [.int .i64 (.ofNat n)] 0=>some n
  |_=>none
 ok s a h:=by split at h<;>cases h;rfl
 pl _:=⟨_,rfl⟩
def lW(v:List V)(p x y:Nat):Int:=
 let a:=aEy (aEv v x) (aEv v p)
 let b:=aEy (aEv v y) (aEv v p)
 if iJ a-iJ b=0 then-turn ⟨0,0⟩ a b else iJ a-iJ b
noncomputable def aDe:Con:=con (a1 aV) (λ_=>[]) (λv=> .iqz (iJ v)
 )
def aBS:aDe.Okz 223:=bJ RL bh (λ_=>⟨_,rfl⟩) λv _=>az ((0<v.y->0=iJ v)/\
 (¬0<v.y->(v.y=0->(0<v.x->0=iJ v)/\
   (¬0<v.x->1=iJ v))/\
  (¬v.y=0->1=iJ v))) (by kernel_rfl) (by
  refine⟨λh=>(if_pos (.inl h)).symm,λh=>⟨λh2=>⟨λh3=>(if_pos (.inr ⟨h2,h3⟩)).symm,λh3=>(if_neg ?_).symm⟩,λh2=>(if_neg ?_).symm⟩⟩<;>omega)
noncomputable def Qa:=RL.adk aBS
def Mw(v:V):0<=iJ v/\iJ v<=1:=by unfold iJ;omega
def Ys(a b c:V): -1<=turn a b c/\turn a b c<=1:=by unfold turn sgn;omega
noncomputable def aDf:Con:=con (ac aN (ac aN (ac aG (a1 aQ)))) (λ(x,y,v,p)=>[x<v.length,y<v.length,p<v.length,v.length<=1000000,(∀u∈v,bd 500000000 u)]) (λ(x,y,v,p)=> .iqz (lW v p x y)
 )
def R6:aDf.Okz 222:=bJ Qa (λ(_,_,_,_)=>[]) (λ(_,_,_,_)=>⟨_,rfl⟩) λ(x,y,v,p) hp=>az (aC (aEv v p) λA=>aC (aEv v x) λB=>aC (aEv v y) λC=>aC (aEy B A) λD=>aC (aEy C A) λE=>aC (⟨0,0⟩:V) λF=>ix (x:Int) v.length/\ix (p:Int) v.length/\bd 1000000000 B/\bd 1000000000 A/\ix (y:Int) v.length/\ix (p:Int) v.length/\bd 1000000000 C/\bd 1000000000 A/\aJ (iJ D-iJ E)/\(¬iJ D-iJ E=0->iJ D-iJ E=lW v p x y)/\
 (¬(¬iJ D-iJ E=0)->bd 1000000000 F/\bd 1000000000 D/\bd 1000000000 E/\aJ (0-turn F D E)/\0-turn F D E=lW v p x y)) (by kernel_rfl) (by
  change x<v.length/\y<v.length/\p<v.length/\v.length<=1000000/\((∀u∈v,bd 500000000 u))at hp;obtain⟨hx,hy,hq,hl,hb⟩:=hp;have hb:∀i:Nat,i<v.length->bd 500000000 (aEv v i):=λi h=>hb _ (eC h);have bx:=hb x hx;have by_:=hb y hy;have bp:=hb p hq;have e1:=Mw (aEy (aEv v x) (aEv v p));have e2:=Mw (aEy (aEv v y) (aEv v p));have e3:=Ys ⟨0,0⟩ (aEy (aEv v x) (aEv v p)) (aEy (aEv v y) (aEv v p));have sb:∀a b:V,bd 500000000 a->bd 500000000 b->bd 1000000000 (aEy a b):=λa b h1 h2=>by unfold bd aEy at*;grind
  refine⟨eW hx,eW hq,bx.mono,bp.mono,eW hy,eW hq,by_.mono,bp.mono,bW (by omega),λh=>(if_neg h).symm,λh=>⟨by unfold bd;grind,sb _ _ bx bp,sb _ _ by_ bp,bW (by omega),?_⟩⟩;rw[show lW v p x y=_ from if_pos (th h)];omega)
noncomputable def aBI:=Qa.adk R6
end Go.Proofs.YtdaeofhdgabhjaaGreat
