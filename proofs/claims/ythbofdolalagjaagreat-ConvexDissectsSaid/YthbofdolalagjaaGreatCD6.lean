/- Part 6 of what the statement stands on -/
import Derived.Test.YthbofdolalagjaaGreatCD5
import Derived.Test.YthbofdolalagjaaGreatRows
import Derived.ProofKit
import Derived.Carry
import Derived.SizedLaws
import Derived.Deep.SlicePairs
import Derived.Lib.SmallJoins
set_option linter.all false
set_option maxRecDepth 100000
set_option maxHeartbeats 8000000
open List renaming length->aA,length_pos_of_mem->Lu,getElem_mem->jr,not_mem_nil->cp,mem_append->bz,mem_singleton->cI,mem_map->bn,length_map->dq,getD->lk,filter->vG,set->pj,map->eP,take->ak,take_succ_eq_append_getElem->lC,getElem_map->kz,take_of_length_le->jB,range->bT,range_succ->pW,filter_append->mJ,map_append->dV,drop->fE,length_singleton->wV,length_drop->FH,length_take->mK,mem_cons_self->cR,Nodup->rV,pairwise_map->kG,Pairwise.imp_of_mem->Lv,flatMap_cons->fw,length_append->eR,length_cons->iE,flatMap->mL,flatMap_append->wi,append_assoc->kw,take_add_one->nO,foldl_append->Bw,any_eq_true->kX,take_length->ri,mem_range->cP,any_eq_false->tW,getElem_of_mem->jQ,all_eq_false->vF,all_eq_true->cC,any->jT,all->od,mem_flatMap->dL,sum_append->nM,getElem_take->FI,mem_cons_of_mem->cM,filter_cons_of_pos->vA,filter_cons_of_neg->FN,length_filter_le->Fj,length_range->y4,cons.injEq->re,getElem_range->u9,mem_cons->bO,map_cons->dU,replicate->dO,flatten_cons->mI,map_map->du,map_congr_left->lg,getD_eq_getElem?_getD->fY,Pairwise.imp->LY,length_replicate->Bu,mem_flatten->ml,mem_append_left->iS,Pairwise.nil->wU,mem_append_right->iF,mem_iff_getElem->gv,getElem_drop->V6,append_nil->vC,mem_filter->eY,length_eq_zero_iff->pg
open Nat renaming mod_lt->cG,le_refl->bR,zero_le->lh,mod_eq_of_lt->dK,le_antisymm->w7,lt_or_ge->pV,zero_add->ku,add_mod_right->mh,mod_add_mod->kW,le_trans->cZ,mod_self->io
open Bool renaming true->aE,false->aK,false_or->zJ,true_and->jq,eq_iff_iff->gR,and_eq_true->cD,not_not->FM,or_eq_true->jd,not_eq_true'->rP,not_eq_false->WO,eq_false_iff->pZ,not_eq_false'->Lr
open Option renaming some->aD,none->aM
open And renaming intro->cJ
open Prod renaming snd->Bi
open Int renaming tmod->dA,toNat_natCast->ju,tdiv->fe,le_of_lt->fZ,mul_nonneg->cF,mul_pos->bJ,mul_comm->gu
open Go.IntKind renaming i64->kJ,wrap->Bz
open Go.Proofs.Tryz renaming prog->bi,underlying23->WK,underlying3->zA,underlying24->Fl,underlying26->WM
open Go.DataW renaming weights->pk,weightsEach->WN
open Go.Addr renaming add->FW,add_mid->y6
open Go.World renaming cell?_spot->Lw
open Ne renaming symm->kZ
open Classical renaming byContradiction->dS
open Go.RowKit
open Go.Proofs.YthbofdolalagjaaGreat.Geo
open Go.Proofs.YthbofdolalagjaaGreat.Geo renaming nth->aI7,S->aI9,V->aI8,sub->aJa,gG->aJb,fX->aJg,Fan->aJh,Faces->aJi,Tab->aJd
noncomputable section
namespace Go.Proofs.YthbofdolalagjaaGreat
section
def jl(v:List V)(L:List (List Int))(i j:Nat):Bool:=decide (0<=turn (aI7 v i) (aI7 v (jj L i j (-1))) (aI7 v (jj L i j 1)))
structure ArOk(v:List V)(L:List (List Int))(i j:Nat):Prop where
 iL:i<aA L
 mem:(j:Int)∈bK L i
 rng:∀x∈bK L i,0<=x/\x.toNat<aA v
 len:aA (bK L i)<=1000000
def ArOk.around{v:List V}{L:List (List Int)}{i j:Nat}(h:ArOk v L i j)(st:Int):((jj L i j st:Nat):Int)∈bK L i/\jj L i j st<aA v:=by
 unfold jj;dsimp only;have h0:0<aA (bK L i):=Lu h.mem;generalize ((gq (bK L i) (j:Int):Int)+st+aA (bK L i)).toNat=k;have hm:dj (bK L i) (k % (aA (bK L i)))∈bK L i:=by rw[show dj (bK L i) (k % (aA (bK L i)))=_ from qt (cG _ h0)];exact jr _
 obtain⟨h1,h2⟩:=h.rng _ hm;grind
def aIa:Con:=con (ac aGr (ac aN (a1 aN))) (λ(g,i,j)=>[aA g.1<=1000000,aA g.2.1<=aA g.1,(∀u∈g.1,bd 1000000000 u),ArOk g.1 g.2.1 i j]) (λ(g,i,j)=> .bool (jl g.1 g.2.1 i j)
 )
def aGE:aIa.Okz 167:=bI UX ae λ(g,i,j) hp=>bD (aO (aI7 g.1 i) λA=>aO (bK g.2.fst i) λB=>aO (aI7 g.1 (jj g.2.fst i j 1)) λD=>aO (aI7 g.1 (jj g.2.fst i j (-1))) λF=>aA g.fst<=1000000/\(aA g.2.fst)<=1000000/\i<(aA g.2.fst)/\(j:Int)∈bK g.2.fst i/\(aA B)<=1000000/\(∀x:Int,x∈bK g.2.fst i->0<=x)/\((-1:Int)=1\/(-1:Int)= -1)/\(aA g.fst)<=1000000/\(aA g.2.fst)<=1000000/\i<(aA g.2.fst)/\(j:Int)∈bK g.2.fst i/\(aA B)<=1000000/\(∀x:Int,x∈bK g.2.fst i->0<=x)/\((1:Int)=1\/(1:Int)= -1)/\ix (i:Int) (aA g.1)/\ix (jj g.2.fst i j (-1):Int) (aA g.1)/\ix (jj g.2.fst i j 1:Int) (aA g.1)/\bd 1000000000 A/\bd 1000000000 F/\bd 1000000000 D/\decide (0<=turn A F D)=jl g.1 g.2.1 i j) (by change (aA g.1)<=1000000/\(aA g.2.1)<=(aA g.1)/\((∀u∈g.1,bd 1000000000 u))/\ArOk g.1 g.2.1 i j at hp;obtain⟨h1,h2,h3,h4⟩:=hp;have a1:=(h4.around (-1)).2;have a2:=(h4.around 1).2;have bN:∀i:Nat,i<aA g.1->bd 1000000000 (aI7 g.1 i):=λi h=>h3 _ (dh h);have r:∀x∈bK g.2.1 i,0<=x:=λx hx=>(h4.rng x hx).1;have iL:=h4.iL;have iv:i<aA g.1:=aC;have l2:aA g.2.1<=1000000:=aC;exact⟨h1,l2,iL,h4.mem,h4.len,r,.inr rfl,h1,l2,iL,h4.mem,h4.len,r,.inl rfl,fS iv,fS a1,fS a2,bN _ iv,bN _ a1,bN _ a2,rfl⟩)
def UW:=UX.adk aGE
def xn(l:List Int)(q:Int):List Int:=l.filter λy=> !(y==q)
def Eg(L:List (List Int))(i j:Nat):List (List Int):=(L.set j (xn (bK L j) i)).set i (xn (bK L i) j)
def stS(v:List V)(P:List (Nat×Nat)):Nat->List (List Int)->List (List Int)×List (Nat×Nat)
 |0,L=>(L,[])
 |k+1,L=>
  let r:=stS v P k L
  let p:=bC P k
  if jl v r.1 p.1 p.2=aE/\jl v r.1 p.2 p.1=aE then(Eg r.1 p.1 p.2,r.2)else(r.1,r.2++[p])
def sG(s:Shape)(k:Nat):List (List Int)×List (Nat×Nat):=stS (vOf s) (pG s) k (oG s)
def soG(s:Shape):List (List Int):=(sG s (aA (pG s))).1
def spG(s:Shape):List (Nat×Nat):=(sG s (aA (pG s))).2
def Q5(v:List V)(P:List (Nat×Nat))(L:List (List Int)):∀k,aA (stS v P k L).1=aA L
 |0=>rfl
 |k+1=>by
  have:=Q5 v P L k;unfold stS;dsimp only;split
  .unfold Eg;grind
  .exact this
def Am(s:Shape)(k:Nat):aA (sG s k).1=aA (vOf s):=(Q5 _ _ _ k).trans (aEY s)
def Dz(v:List V)(P:List (Nat×Nat))(L:List (List Int)):∀k,aA (stS v P k L).2<=k
 |0=>bR _
 |k+1=>by
  have:=Dz v P L k;unfold stS;grind
def It(v:List V)(P:List (Nat×Nat))(L:List (List Int)):∀k,k<=aA P->∀p∈(stS v P k L).2,p∈P
 |0,_,p,hp=>(cp hp).elim
 |k+1,hk,p,hp=>by
  have ih:=It v P L k aC;unfold stS at hp;dsimp only at hp;split at hp
  .exact ih p hp
  .rcases bz.1 hp with hp|hp
   .exact ih p hp
   .rw[cI.1 hp,om aC];grind
variable{s:Shape}
def Jf{k:Nat}(h1:jl (vOf s) (sG s k).1 (bC (pG s) k).1 (bC (pG s) k).2=aE)(h2:jl (vOf s) (sG s k).1 (bC (pG s) k).2 (bC (pG s) k).1=aE):
 sG s (k+1)=(Eg (sG s k).1 (bC (pG s) k).1 (bC (pG s) k).2,(sG s k).2):=if_pos ⟨h1,h2⟩
def BE{k:Nat}(h:jl (vOf s) (sG s k).1 (bC (pG s) k).1 (bC (pG s) k).2=aK\/jl (vOf s) (sG s k).1 (bC (pG s) k).2 (bC (pG s) k).1=aK):
  sG s (k+1)=((sG s k).1,(sG s k).2++[((bC (pG s) k).1,(bC (pG s) k).2)]):=if_neg λh2=>by
 rcases h with h|h
 .exact absurd (h.symm.trans h2.1) bg
 .exact absurd (h.symm.trans h2.2) bg
def Ea(hv:bL s=aE){p:Nat×Nat}(h:p∈pG s):p.1<(aA (vOf s))/\p.2<aA (vOf s):=by obtain⟨d,hd,rfl⟩:=bn.1 h;obtain⟨h1,h2⟩:=(vu hv).2 d hd;exact⟨o5 h1,o5 h2⟩
def uT(s:Shape):aA (pG s)=aA (dOf s):=dq ..
def SOk(s:Shape):Prop:=∀k,k<aA (pG s)->ArOk (vOf s) (sG s k).1 (bC (pG s) k).1 (bC (pG s) k).2/\ArOk (vOf s) (sG s k).1 (bC (pG s) k).2 (bC (pG s) k).1/\(bC (pG s) k).2≠(bC (pG s) k).1
def aIR:Con:=LD (a1 aSh) (λs=>[Fit s,bL s=aE,GOk s,SOk s]) (λs=> .tup [.ptr 60 0,.own 20000005 .P (aA (spG s))]) (λs=>[(60,aD (.box 113 [.lst .V (vOf s),.owF 15000005 (aA (vOf s)),.own 18000005 .I (aA (vOf s))])),(15000005,aD (.fam 111 3 .I (soG s) [])),(18000005,aD (.row 3 .I (nG s))),(20000005,aD (.row 69 .P (spG s)))])
def aHl:aIR.Okz 105:=SK (qO UW.o) (st:=aE) (raw:=wC) (λs=>[(10003,.mk Unit (λ_ _=>aD ()) [60,20000005] ae (λ_=>[(4,.ptr 60 0),(6,.own 20000005 .P 0)]) (λ_=>[(60,.box 113 [.lst .V (vOf s),.owF 15000005 (aA (vOf s)),.own 18000005 .I (aA (vOf s))]),(20000005,.row 69 .P [])]) (λ_=>0) ae),
  lp 4 16 (aA (pG s)) ae [20000005] (λk=>[(6,.own 20000005 .P (aA (sG s k).2))]) (λk=>[(15000005,.fam 111 3 .I (sG s k).1 []),(20000005,.row 69 .P (sG s k).2),(0,.box 0 [.undef])])]
  ) λs hp=>bD (aO (pG s) λA=>aO (vOf s) λB=>aO (0:Nat) λG=>aO ([] :List (Prod Nat Nat)) λO=>aO ([] :List Int) λP=>Fit s/\bL s=aE/\GOk s/\(G=0/\vOf s=vOf s/\(aA B)=(aA B)/\(aA B)=(aA B)/\O=O)/\
 (∀y:Unit,(0=(0:Int)/\G=(aA O)/\oG s=oG s/\O=O/\G<=aA A)/\
  (∀x:Nat,aO (x+1) λC=>aO (sG s x) λD=>aO (sG s C) λE=>aO (x:Int) λF=>aO (bC A x) λH=>aO (H.1,H.2) λI=>aO (H.1:Int) λJ=>aO (H.2:Int) λK=>aO ((x+1:Nat):Int) λM=>aO (aA (D.2++[I])) λQ=>aO (lk D.1 H.1 P) λR=>aO (lk D.1 H.2 P) λS=>aO (H.1,SV.ownf 15000005 LT.I H.1 (aA R)) λT=>x<=aA A->qiq (F<aA A) (ix F (aA A)/\x<(aA A)/\ix 0 2/\ix 1 2/\(aA B)=(aA D.1)/\(aA B)=(aA (nG s))/\(aA B)<=1000000/\(aA D.fst)<=(aA B)/\(∀u:V,u∈vOf s->bd 1000000000 u)/\ArOk B D.fst H.1 H.2/\qbq (jl B D.fst H.1 H.2) (ix 1 2/\ix 0 2/\(aA B)=(aA D.1)/\(aA B)=(aA (nG s))/\(aA B)<=1000000/\(aA D.fst)<=(aA B)/\(∀u:V,u∈vOf s->bd 1000000000 u)/\ArOk B D.fst H.2 H.1/\qbq (jl B D.fst H.2 H.1) (ix 0 2/\ix 1 2/\ix J (aA B)/\H.1<(aA D.1)/\H.1<(aA D.1)/\(aA R)=(aA R)/\G<(aA R)/\(aA R)<=1000000/\ix J (aA B)/\H.1=H.1/\H.1<(aA D.1)/\ix K (aA B)/\H.2<(aA D.1)/\H.2≠T.fst/\H.2<(aA D.1)/\(aA S)=(aA S)/\G<(aA S)/\H.2≠T.fst/\(aA S)<=1000000/\ix K (aA B)/\H.2=H.2/\H.2<(aA D.1)/\aX (F+1)/\H.2<(aA D.1)/\(aA (vG (λy=>(!y==J)) S))=(aA (vG (λy=>(!y==J)) S))/\H.2≠T.fst/\H.1<(aA (pj D.1 H.2 (vG (λy=>(!y==J)) S)))/\(aA (vG (λy=>(!y==K)) R))=(aA (vG (λy=>(!y==K)) R))/\F+1=M/\(aA D.2)=(aA E.2)/\pj (pj D.1 H.2 (vG (λy=>(!y==J)) S)) H.1 (vG (λy=>(!y==K)) R)=E.1/\D.2=E.2/\x+1<=(aA A)/\(aA A)-C<aA A-x) (aA D.2=(aA D.2)/\(aA D.2)+[I].length<=1000000/\aX (F+1)/\F+1=M/\Q=(aA E.2)/\D.1=E.1/\D.2++[I] =E.2/\x+1<=(aA A)/\(aA A)-C<aA A-x)) (aA D.2=(aA D.2)/\(aA D.2)+[I].length<=1000000/\aX (F+1)/\F+1=M/\Q=(aA E.2)/\D.1=E.1/\D.2++[I] =E.2/\x+1<=(aA A)/\(aA A)-C<aA A-x)) (aA D.2=(aA (spG s))/\vOf s=vOf s/\(aA B)=(aA B)/\(aA B)=(aA B)/\D.1=soG s/\nG s=nG s/\D.2=spG s)))) (by
  change Fit s/\bL s=aE/\GOk s/\SOk s at hp;obtain⟨hf,hv,hg,hs⟩:=hp;have n80:aA (vOf s)<=80:=mv s;have pl:aA (pG s)<=6400:=by rw[uT];exact(vu hv).1
  have vb:∀u∈vOf s,bd 1000000000 u:=λu hu=>by obtain⟨i,hi,rfl⟩:=fC.1 hu;exact qv hi bg
  have nl:aA (nG s)=aA (vOf s):=Jl s _;have gl:=Am s;have p1:∀x:Nat,(x:Int)<aA (pG s)->(bC (pG s) x).1<(aA (vOf s))/\(bC (pG s) x).2<aA (vOf s):=λx h=>Ea hv (by rw[om aC];grind);have hS:∀x:Nat,(x:Int)<aA (pG s)->_:=λx h=>hs x aC;have q1:∀x:Nat,(x:Int)<aA (pG s)->0<aA (lk (sG s x).1 (bC (pG s) x).1 ([] :List Int)):=λx h=>Lu (hS x h).1.mem;have q2:∀x:Nat,(x:Int)<aA (pG s)->0<aA (lk (sG s x).1 (bC (pG s) x).2 ([] :List Int)):=λx h=>Lu (hS x h).2.1.mem;have q3:∀x:Nat,(x:Int)<aA (pG s)->aA (lk (sG s x).1 (bC (pG s) x).1 ([] :List Int))<=1000000:=λx h=>(hS x h).1.len;have q4:∀x:Nat,(x:Int)<aA (pG s)->aA (lk (sG s x).1 (bC (pG s) x).2 ([] :List Int))<=1000000:=λx h=>(hS x h).2.1.len;have q5:∀x:Nat,x<=aA (pG s)->aA (sG s x).2<=6400:=λx h=>by have:aA (sG s x).2<=x:=Dz _ _ _ x;omega
  have a1:∀x:Nat,aA (vOf s)=aA (sG s x).1:=λx=>(gl x).symm;have a2:∀x:Nat,aA (sG s x).1<=aA (vOf s):=λx=>Nat.le_of_eq (gl x);have a3:∀x:Nat,(x:Int)<aA (pG s)->ArOk (vOf s) (sG s x).1 (bC (pG s) x).1 (bC (pG s) x).2:=λx h=>(hS x h).1;have a4:∀x:Nat,(x:Int)<aA (pG s)->ArOk (vOf s) (sG s x).1 (bC (pG s) x).2 (bC (pG s) x).1:=λx h=>(hS x h).2.1;have a5:∀x:Nat,(x:Int)<aA (pG s)->ix ((bC (pG s) x).1:Int) (aA (vOf s)):=λx h=>fS (p1 x h).1;have a6:∀x:Nat,(x:Int)<aA (pG s)->ix ((bC (pG s) x).2:Int) (aA (vOf s)):=λx h=>fS (p1 x h).2;have a7:∀x:Nat,(x:Int)<aA (pG s)->(bC (pG s) x).1<aA (sG s x).1:=λx h=>aH;have a8:∀x:Nat,(x:Int)<aA (pG s)->(bC (pG s) x).2<aA (sG s x).1:=λx h=>aH;have a9:∀x:Nat,(x:Int)<aA (pG s)->(bC (pG s) x).2≠(bC (pG s) x).1:=λx h=>(hS x h).2.2;have b1:∀x j:Nat,∀l:List Int,(x:Int)<aA (pG s)->(bC (pG s) x).1<aA ((sG s x).1.set j l):=λx j l h=>aH;have b2:∀x:Nat,jl (vOf s) (sG s x).1 (bC (pG s) x).1 (bC (pG s) x).2=aE->jl (vOf s) (sG s x).1 (bC (pG s) x).2 (bC (pG s) x).1=aE->pj (pj (sG s x).1 (bC (pG s) x).2 (vG (λy=>(!y==((bC (pG s) x).1:Int))) (lk (sG s x).1 (bC (pG s) x).2 ([] :List Int)))) (bC (pG s) x).1 (vG (λy=>(!y==((bC (pG s) x).2:Int))) (lk (sG s x).1 (bC (pG s) x).1 ([] :List Int)))=(sG s (x+1)).1:=λx h h2=>by rw[Jf h h2];rfl
  have b3:∀x:Nat,jl (vOf s) (sG s x).1 (bC (pG s) x).1 (bC (pG s) x).2=aE->jl (vOf s) (sG s x).1 (bC (pG s) x).2 (bC (pG s) x).1=aE->(sG s x).2=(sG s (x+1)).2:=λx h h2=>by rw[Jf h h2]
  have b4:∀x:Nat,jl (vOf s) (sG s x).1 (bC (pG s) x).1 (bC (pG s) x).2=aK->(sG s x).1=(sG s (x+1)).1:=λx h=>by rw[BE (.inl h)]
  have b5:∀x:Nat,jl (vOf s) (sG s x).1 (bC (pG s) x).2 (bC (pG s) x).1=aK->(sG s x).1=(sG s (x+1)).1:=λx h=>by rw[BE (.inr h)]
  have b6:∀x:Nat,jl (vOf s) (sG s x).1 (bC (pG s) x).1 (bC (pG s) x).2=aK->(sG s x).2++[((bC (pG s) x).1,(bC (pG s) x).2)] =(sG s (x+1)).2:=λx h=>by rw[BE (.inl h)]
  have b7:∀x:Nat,jl (vOf s) (sG s x).1 (bC (pG s) x).2 (bC (pG s) x).1=aK->(sG s x).2++[((bC (pG s) x).1,(bC (pG s) x).2)] =(sG s (x+1)).2:=λx h=>by rw[BE (.inr h)]
  have b8:∀x:Nat,∀z:Nat×Nat,x<=aA (pG s)->aA (sG s x).2+[z].length<=1000000:=λx z h=>aH;have b9:∀x:Nat,¬(x:Int)<aA (pG s)->x<=aA (pG s)->sG s x=sG s (aA (pG s)):=λx h h2=>aH;have c9:∀x:Nat,x<=aA (pG s)->aX ((x:Int)+1):=λx h=>bP aC;clear hS hs gl
  with_reducible ((repeat' first|apply cJ|intro);all_goals repeat cases‹_/\_›)
  all_goals first|(with_reducible first|assumption|rfl|exact a1 _|exact a2 _|exact vb _ aJ|exact a3 _ aJ|exact a4 _ aJ|exact a5 _ aJ|exact a6 _ aJ|exact a7 _ aJ|exact a8 _ aJ|exact a9 _ aJ|exact q1 _ aJ|exact q2 _ aJ|exact q3 _ aJ|exact q4 _ aJ|exact b1 _ _ _ aJ|exact b2 _ aJ aJ|exact b3 _ aJ aJ|exact congrArg aA (b3 _ aJ aJ)|exact b4 _ aJ|exact b5 _ aJ|exact b6 _ aJ|exact b7 _ aJ|exact congrArg aA (b6 _ aJ)|exact congrArg aA (b7 _ aJ)|exact b8 _ _ aJ)|omega|(unfold ix;omega)|(unfold aX;omega)|exact rfl|exact congrArg Prod.fst (b9 _ aJ aJ)|exact congrArg Bi (b9 _ aJ aJ)|exact congrArg (λy=>aA y.2) (b9 _ aJ aJ))
def VG:=UW.adk aHl
def eV(s:Shape):Int:=if bL s=aE then 0 else 11
def sdG(s:Shape):List aI9:=if bL s=aE then(spG s).map (dH (vOf s))else []
def c51:Con:=con (a1 aSh) (λs=>[Fit s,(bL s=aE->GOk s/\SOk s)]) (λs=> .tup [.lst .S (sdG s),.iqz (eV s)])
def k51:c51.Okz 48:=bI VG (λs=>[lp 6 19 (aA (spG s)) ae [40] (λk=>[(6,.own 40 .S k)]) (λk=>[(40,.row 46 .S (((spG s).map (dH (vOf s))).take k))])]
 ) λs hp=>bD (aO (spG s) λA=>aO (vOf s) λB=>aO (eP (dH B) A) λF=>aO (!bL s) λK=>aO ([] :List aI9) λL=>Fit s/\qbq K (sdG s=L/\11=eV s) (Fit s/\bL s=aE/\GOk s/\SOk s/\(0=(0:Int)/\(0:Nat)=0/\ak 0 F=L/\(0:Nat)<=aA A)/\
 (∀x:Nat,aO (x:Int) λC=>aO (bC A x) λD=>aO (ak x F) λG=>aO (⟨(aI7 B D.1),(aI7 B D.2)⟩:aI9) λJ=>x<=aA A->qiq (C<aA A) (ix C (aA A)/\x<(aA A)/\ix 0 2/\ix (D.1:Int) (aA B)/\ix 1 2/\ix (D.2:Int) (aA B)/\x=(aA G)/\(aA G)+[J].length<=1000000/\qnr C x (aA (ak x F++[J])=x+1/\ak x F++[J] =ak (x+1) F/\x+1<=(aA A)/\(aA A)-(x+1)<aA A-x)) (x=(aA G)/\ak x F=sdG s/\0=eV s)))) (by
 change Fit s/\((bL s=aE->GOk s/\SOk s))at hp;obtain⟨hf,hv⟩:=hp;have n80:aA (vOf s)<=80:=mv s;have sd0:(!bL s)=aE->sdG s=[] :=λh=>by unfold sdG;grind
 have ev0:(!bL s)=aE->11=eV s:=λh=>by unfold eV;grind
 have ev1:(!bL s)=aK->0=eV s:=λh=>by unfold eV;grind
 have hv1:(!bL s)=aK->bL s=aE:=λh=>nb h;have hv2:(!bL s)=aK->GOk s:=λh=>(hv (nb h)).1;have hv3:(!bL s)=aK->SOk s:=λh=>(hv (nb h)).2;have sd1:(!bL s)=aK->(spG s).map (dH (vOf s))=sdG s:=λh=>by unfold sdG;grind
 have sl:(!bL s)=aK->aA (spG s)<=6400:=λh=>by have h1:aA (spG s)<=aA (pG s):=Dz _ _ _ _;have h2:=(vu (nb h)).1;rw[uT]at h1;omega
 have p1:(!bL s)=aK->∀x:Nat,(x:Int)<aA (spG s)->(bC (spG s) x).1<(aA (vOf s))/\(bC (spG s) x).2<aA (vOf s):=λhh x h=>Ea (nb hh) (It _ _ _ _ (bR _) _ (by rw[om (aC:x<aA (spG s))];exact jr _));have p2:(!bL s)=aK->∀x:Nat,(x:Int)<aA (spG s)->ix ((bC (spG s) x).1:Int) (aA (vOf s)):=λhh x h=>fS (p1 hh x h).1;have p3:(!bL s)=aK->∀x:Nat,(x:Int)<aA (spG s)->ix ((bC (spG s) x).2:Int) (aA (vOf s)):=λhh x h=>fS (p1 hh x h).2;have e1:∀x:Nat,x<=aA (spG s)->aA (ak x ((spG s).map (dH (vOf s))))=x:=λx h=>aH;have e2:∀x:Nat,(x:Int)<aA (spG s)->ak x ((spG s).map (dH (vOf s)))++[⟨aI7 (vOf s) (bC (spG s) x).1,aI7 (vOf s) (bC (spG s) x).2⟩] =ak (x+1) ((spG s).map (dH (vOf s))):=λx h=>by rw[lC aH,kz,om aC];rfl
 have e3:(!bL s)=aK->∀x:Nat,¬(x:Int)<aA (spG s)->ak x ((spG s).map (dH (vOf s)))=sdG s:=λhh x h=>by rw[jB aH];exact sd1 hh
 have e4:(!bL s)=aK->∀x:Nat,x<=aA (spG s)->aX ((x:Int)+1):=λhh x h=>bP aH;have e5:(!bL s)=aK->∀x:Nat,∀z:aI9,x<=aA (spG s)->aA (ak x ((spG s).map (dH (vOf s))))+[z].length<=1000000:=λhh x z h=>aH;have e6:∀x:Nat,∀z:aI9,x<=aA (spG s)->aA (ak x ((spG s).map (dH (vOf s)))++[z])=x+1:=λx z h=>aH;clear hv p1 sd1
 with_reducible ((repeat' first|apply cJ|intro);all_goals repeat cases‹_/\_›)
 all_goals first|rfl|with_reducible solve_by_elim|(with_reducible first|assumption|rfl|exact p2 aJ _ aJ|exact p3 aJ _ aJ|exact(e1 _ aJ).symm|exact e3 aJ _ aJ|exact e4 aJ _ aJ|exact e5 aJ _ _ aJ)|omega|grind)
def t51:=VG.adk k51
end
section
def VC:=t51.adk Vf
def yJ(r:List aI8)(k:Nat):Bool:=decide (turn (aI7 r ((k+aA r-1) % (aA r))) (aI7 r k) (aI7 r ((k+1) % (aA r)))≠0)
def iZ(r:List aI8)(k:Nat):List aI8:=((bT k).filter (yJ r)).map (aI7 r)
def fG(r:List aI8):List aI8:=iZ r (aA r)
def zf(r:List aI8)(k:Nat):iZ r (k+1)=if yJ r k=aE then iZ r k++[aI7 r k]else iZ r k:=by unfold iZ;rw[pW,mJ,dV];grind
def DP(r:List aI8):∀k,aA (iZ r k)<=k
 |0=>bR _
 |k+1=>by
  have:=DP r k;rw[zf];grind
def He(r:List aI8):∀k,k<=aA r->∀u∈iZ r k,u∈r
 |0,_,u,h=>(cp h).elim
 |k+1,hk,u,h=>by
  rw[zf]at h;split at h
  .rcases bz.1 h with h|h
   .exact He r k aC u h
   .rw[cI.1 h];exact dh aC
  .exact He r k aC u h
def aIQ:Con:=con (a1 (aL .V)) (λr=>[aA r<=1000,(∀u∈r,bd 1000000000 u),0<aA (fG r)]) (λr=> .lst .V (bo (fG r)))
def aHk:aIQ.Okz 106:=bI VC (λr=>[lp 4 12 (aA r) ae [40] (λk=>[(3,.own 40 .V (aA (iZ r k)))]) (λk=>[(40,.row 44 .V (iZ r k))])]
  ) λr hp=>bD (aO (0:Nat) λC=>aO (aA r:Int) λK=>(0=(0:Int)/\(aA (iZ r 0))=0/\iZ r 0=([] :List aI8)/\C<=aA r)/\
 (∀x:Nat,aO (x+1) λA=>aO (x:Int) λB=>aO (iZ r x) λD=>aO (aI7 r x) λE=>aO (aI7 r (A % (aA r))) λG=>aO (aI7 D (dt D)) λI=>aO (fE 0 D) λJ=>aO (B+aA r-1) λL=>aO (dA L K) λM=>aO (aA (iZ r A)) λN=>aO (aI7 r M.toNat) λO=>aO ((x+1:Nat):Int) λP=>x<=aA r->qiq (B<aA r) (ix B (aA r)/\aX (B+aA r)/\aX L/\K≠0/\ix M (aA r)/\aX (B+1)/\K≠0/\ix ((A % (aA r):Nat):Int) (aA r)/\bd 1000000000 O/\bd 1000000000 E/\bd 1000000000 G/\qiq (¬turn O E G=0) (aA D=(aA D)/\(aA D)+[E].length<=1000000/\aX (B+1)/\B+1=P/\(aA (iZ r x++[E]))=N/\iZ r x++[E] =iZ r A/\x+1<=(aA r)/\(aA r)-A<aA r-x) (aX (B+1)/\B+1=P/\(aA D)=N/\iZ r x=iZ r A/\x+1<=(aA r)/\(aA r)-A<aA r-x)) (aA D=(aA D)/\C<(aA D)/\(aA D)<=1000/\(aA D)=(aA D)/\(aA D)<=1000/\(0<=fI (λx_1=>decide (I=x_1)) D/\fI (λx_1=>decide (I=x_1)) D<=aA D)/\(fI (λx_1=>decide (I=x_1)) D).toNat+(aA D-(fI (λx_1=>decide (I=x_1)) D).toNat)<=(aA D)/\C<(aA (ak (aA D-(fI (λx_1=>decide (I=x_1)) D).toNat) (fE (fI (λx_1=>decide (I=x_1)) D).toNat D)))/\(aA (ak (aA D-(fI (λx_1=>decide (I=x_1)) D).toNat) (fE (fI (λx_1=>decide (I=x_1)) D).toNat D)))<=1000/\(0<=fI (λx_1=>decide (I=x_1)) D/\fI (λx_1=>decide (I=x_1)) D<=aA D)/\(aA (ak (aA D-(fI (λx_1=>decide (I=x_1)) D).toNat) (fE (fI (λx_1=>decide (I=x_1)) D).toNat D)))=(aA (ak (aA D-(fI (λx_1=>decide (I=x_1)) D).toNat) (fE (fI (λx_1=>decide (I=x_1)) D).toNat D)))/\0+(fI (λx_1=>decide (I=x_1)) D).toNat<=(aA D)/\(aA (ak (aA D-(fI (λx_1=>decide (I=x_1)) D).toNat) (fE (fI (λx_1=>decide (I=x_1)) D).toNat D)))+aA (ak (fI (λx_1=>decide (I=x_1)) D).toNat J)<=1000000/\(aA (ak (aA D-(fI (λx_1=>decide (I=x_1)) D).toNat) (fE (fI (λx_1=>decide (I=x_1)) D).toNat D)++ak (fI (λx_1=>decide (I=x_1)) D).toNat J))=(aA (ak (aA D-(fI (λx_1=>decide (I=x_1)) D).toNat) (fE (fI (λx_1=>decide (I=x_1)) D).toNat D)++ak (fI (λx_1=>decide (I=x_1)) D).toNat J))/\ak (aA D-(fI (λx_1=>decide (I=x_1)) D).toNat) (fE (fI (λx_1=>decide (I=x_1)) D).toNat D)++ak (fI (λx_1=>decide (I=x_1)) D).toNat J=bo (fG r)))) (by
  change (aA r)<=1000/\((∀u∈r,bd 1000000000 u))/\0<(aA (fG r)) at hp;obtain⟨hl,hb,hc⟩:=hp;have bN:∀i:Nat,i<aA r->bd 1000000000 (aI7 r i):=λi h=>hb _ (dh h);have tm:∀x:Nat,(x:Int)<aA r->dA ((x:Int)+aA r-1) (aA r:Int)=(((x+aA r-1) % (aA r):Nat):Int):=λx h=>aH;have lt:∀x:Nat,(x:Int)<aA r->(x+aA r-1) % (aA r)<aA r:=λx h=>cG _ aC;have lt2:∀x:Nat,(x:Int)<aA r->(x+1) % (aA r)<aA r:=λx h=>cG _ aC;have f1:∀x:Nat,(x:Int)<aA r->aX ((x:Int)+aA r):=λx h=>bP aC;have f2:∀x:Nat,(x:Int)<aA r->aX ((x:Int)+aA r-1):=λx h=>bP aC;have f3:∀x:Nat,(x:Int)<aA r->(aA r:Int)≠0:=λx h=>aC;have f4:∀x:Nat,(x:Int)<aA r->ix (dA ((x:Int)+aA r-1) (aA r:Int)) (aA r):=λx h=>by rw[tm x h];exact fS (lt x h)
  have f5:∀x:Nat,(x:Int)<aA r->aX ((x:Int)+1):=λx h=>bP aC;have f6:∀x:Nat,(x:Int)<aA r->ix (((x+1) % (aA r):Nat):Int) (aA r):=λx h=>fS (lt2 x h);have f7:∀x:Nat,(x:Int)<aA r->bd 1000000000 (aI7 r (dA ((x:Int)+aA r-1) (aA r:Int)).toNat):=λx h=>by rw[tm x h];exact bN _ (lt x h)
  have f8:∀x:Nat,(x:Int)<aA r->bd 1000000000 (aI7 r x):=λx h=>bN _ aC;have f9:∀x:Nat,(x:Int)<aA r->bd 1000000000 (aI7 r ((x+1) % (aA r))):=λx h=>bN _ (lt2 x h);have f10:∀x:Nat,(x:Int)<aA r->¬turn (aI7 r (dA ((x:Int)+aA r-1) (aA r:Int)).toNat) (aI7 r x) (aI7 r ((x+1) % (aA r)))=0->iZ r x++[aI7 r x] =iZ r (x+1):=λx h h2=>by rw[tm x h,ju]at h2;rw[zf,if_pos (show yJ r x=aE from decide_eq_true h2)]
  have f11:∀x:Nat,(x:Int)<aA r->¬¬turn (aI7 r (dA ((x:Int)+aA r-1) (aA r:Int)).toNat) (aI7 r x) (aI7 r ((x+1) % (aA r)))=0->iZ r x=iZ r (x+1):=λx h h2=>by rw[tm x h,ju]at h2;rw[zf,if_neg (show¬yJ r x=aE from λh3=>h2 (of_decide_eq_true h3))]
  have f12:∀x:Nat,∀z:aI8,x<=aA r->aA (iZ r x)+[z].length<=1000000:=λx z h=>by have:=DP r x;simp only[wV];omega
  have g0:∀x:Nat,¬(x:Int)<aA r->x<=aA r->iZ r x=fG r:=λx h h2=>by rw[(aC:x=aA r)];rfl
  have g1:aA (fG r)<=1000:=by have:=DP r (aA r);have h:aA (fG r)=aA (iZ r (aA r)):=rfl;omega
  have hlt:=nR hc;have hf:fI (λx=>decide (aI7 (fG r) (dt (fG r))=x)) (fG r)=(dt (fG r):Int):=by
   symm;exact s8 (t:= .V) hlt (decide_eq_true rfl) λj hj=>decide_eq_false λe=>by have:=Fv (fG r) (aA (fG r)) j hj;rw[show dw (fG r) (aA (fG r))=dt (fG r)from rfl,e]at this;exact absurd ((G9 (aI7 (fG r) j)).symm.trans this) bg
  refine⟨⟨rfl,rfl,rfl,lh _⟩,λx hx=>⟨?_,λh=> ?_⟩⟩
  .repeat' first|with_reducible apply cJ|with_reducible intro
   all_goals repeat with_reducible cases‹_/\_›
   all_goals first|with_reducible assumption|with_reducible rfl|with_reducible exact f1 _ aJ|with_reducible exact f2 _ aJ|with_reducible exact f3 _ aJ|with_reducible exact f4 _ aJ|with_reducible exact f5 _ aJ|with_reducible exact f6 _ aJ|with_reducible exact f7 _ aJ|with_reducible exact f8 _ aJ|with_reducible exact f9 _ aJ|with_reducible exact f10 _ aJ aJ|with_reducible exact f11 _ aJ aJ|with_reducible exact congrArg aA (f10 _ aJ aJ)|with_reducible exact congrArg aA (f11 _ aJ aJ)|with_reducible exact f12 _ _ aJ|omega|(unfold ix;omega)|(unfold aX;omega)
  .rw[g0 x h hx,hf,ju];unfold bo;generalize dt (fG r)=k at hlt|-;have e1:ak (aA (fG r)-k) (fE k (fG r))=fE k (fG r):=jB aH;have e2:ak k (fE 0 (fG r))=ak k (fG r):=rfl;have e3:aA (fE k (fG r))=aA (fG r)-k:=FH ..;have e4:aA (ak k (fG r))<=aA (fG r):=by rw[mK];omega
   rw[e1,e2];refine⟨rfl,hc,g1,rfl,g1,⟨aC,aC⟩,aC,aC,aC,⟨aC,aC⟩,rfl,aC,aC,rfl,rfl⟩)
def VF:=VC.adk aHk
def nxP(s:Shape):List (Nat×Nat):=(bT (aA (vOf s))).map λi=>(i,(dj (nG s) i).toNat)
def j7(p:Nat×Nat):List (Nat×Nat):=[p,(p.2,p.1)]
def hsG(s:Shape):List (Nat×Nat):=nxP s++(spG s).flatMap j7
def nxH(L:List (List Int))(h:Nat×Nat):Nat×Nat:=(h.2,jj L h.2 h.1 (-1))
def trc(v:List aI8)(L:List (List Int)):Nat->List (Nat×Nat)->Nat×Nat->List aI8->List (Nat×Nat)×List aI8
 |0,S,_,r=>(S,r)
 |f+1,S,h,r=>if h∈S then(S,r)else trc v L f (S++[h]) (nxH L h) (r++[aI7 v h.1])
def trU(v:List aI8):Nat:=aA v*aA v+1
def pcs(v:List aI8)(L:List (List Int))(H:List (Nat×Nat)):Nat->List (Nat×Nat)×List aU
 |0=>([],[])
 |k+1=>((trc v L (trU v) (pcs v L H k).1 (bC H k) []).1,if 0<(aA (trc v L (trU v) (pcs v L H k).1 (bC H k) []).2) then(pcs v L H k).2++[bo (fG (trc v L (trU v) (pcs v L H k).1 (bC H k) []).2)]else(pcs v L H k).2)
def pcK(s:Shape)(k:Nat):List (Nat×Nat)×List aU:=pcs (vOf s) (soG s) (hsG s) k
def pcG(s:Shape):List aU:=if bL s=aE then dG (pcK s (aA (hsG s))).2 else []
def tM(s:Shape):Prop:=(∀i j:Nat,(j:Int)∈bK (soG s) i->ArOk (vOf s) (soG s) i j/\ArOk (vOf s) (soG s) j i)/\(∀h∈hsG s,ArOk (vOf s) (soG s) h.2 h.1)/\(∀i,i<aA (vOf s)->0<=dj (nG s) i)/\
 ∀k,k<aA (hsG s)->0<aA (trc (vOf s) (soG s) (trU (vOf s)) (pcK s k).1 (bC (hsG s) k) []).2->aA (trc (vOf s) (soG s) (trU (vOf s)) (pcK s k).1 (bC (hsG s) k) []).2<=1000/\0<aA (fG (trc (vOf s) (soG s) (trU (vOf s)) (pcK s k).1 (bC (hsG s) k) []).2)
abbrev TrY:=List (Nat×Nat)×(Nat×Nat)×List aI8
structure TrOk(v:List aI8)(L:List (List Int))(S0:List (Nat×Nat))(h0:Nat×Nat)(y:TrY):Prop where
 le:aA S0<=aA y.1
 run:trc v L (trU v-(aA y.1-aA S0)) y.1 y.2.1 y.2.2=trc v L (trU v) S0 h0 []
 nd:y.1.Nodup
 rng:∀p∈y.1,p.1<(aA v)/\p.2<aA v
 at_:ArOk v L y.2.1.2 y.2.1.1
 len:aA y.2.2<=aA y.1
 pts:∀u∈y.2.2,bd 1000000000 u
def DD:∀(m:Nat) (l:List Nat),l.Nodup->(∀x∈l,x<m)->aA l<=m
 |0,l,_,h=>by
  cases l with
  |nil=>simp
  |cons x l=>exact absurd (h x cR) aC
 |m+1,l,hn,h=>by
  have h1:=DD m (l.erase m) (hn.erase m) λx hx=>aH;grind
variable{S:List (Nat×Nat)}
def aDv{n:Nat}(hn:S.Nodup)(h:∀p∈S,p.1<n/\p.2<n):aA S<=n*n:=by
 have dv:∀p:Nat×Nat,p.2<n->(p.2+p.1*n)/n=p.1/\(p.2+p.1*n) % n=p.2:=λp hp=>by rw[Nat.add_mul_div_right _ _ aC,Nat.add_mul_mod_self_right,Nat.div_eq_of_lt hp,dK hp];simp
 have h1:=DD (n*n) (S.map λp=>p.2+p.1*n) (by
  unfold rV;rw[kG];refine Lv (λ{p q} hp hq hne e=>hne ?_) hn;grind) λx hx=>by
  obtain⟨p,hp,rfl⟩:=bn.1 hx;obtain⟨h2,h3⟩:=h p hp;have:(p.1+1)*n<=n*n:=Nat.mul_le_mul_right n h2;grind
 grind
variable{v:List aI8}{L:List (List Int)}
def SU{f:Nat}{h:Nat×Nat}{r:List aI8}(hS:h∈S):trc v L f S h r=(S,r):=by
 cases f with
 |zero=>rfl
 |succ f=>exact if_pos hS
def Qp{f:Nat}{h:Nat×Nat}{r:List aI8}(hS:h∉S):trc v L (f+1) S h r=trc v L f (S++[h]) (nxH L h) (r++[aI7 v h.1]):=if_neg hS
variable{S0:List (Nat×Nat)}{h0:Nat×Nat}
def TrOk.start(h1:S0.Nodup)(h2:∀p∈S0,p.1<(aA v)/\p.2<aA v)(h3:ArOk v L h0.2 h0.1):TrOk v L S0 h0 (S0,h0,[]) where
 le:=bR _
 run:=aH
 nd:=h1
 rng:=h2
 at_:=h3
 len:=lh _
 pts:=λu hu=>(cp hu).elim
variable{y:TrY}
def TrOk.lt(T:TrOk v L S0 h0 y):aA y.1<trU v:=by have:=aDv T.nd T.rng;unfold trU;omega
def TrOk.step(T:TrOk v L S0 h0 y)(hsym:∀i j:Nat,(j:Int)∈bK L i->ArOk v L i j/\ArOk v L j i)(hL:aA L=aA v)(hb:∀u∈v,bd 1000000000 u)(hn:y.2.1∉y.1):
  TrOk v L S0 h0 (mW y.1 y.2.1,nxH L y.2.1,y.2.2++[aI7 v y.2.1.1]):=by
 obtain⟨S,h,r⟩:=y;have hlt:=T.lt;have hle:=T.le;have e:mW S h=S++[h] :=if_neg hn;have hA:ArOk v L h.2 h.1:=T.at_;have h1:=(hsym _ _ (hA.around (-1)).1).2;have h2:h.1<aA v:=by have:=(hA.rng _ hA.mem).2;omega
 have h3:h.2<aA v:=by have:=hA.iL;omega
 dsimp only at hlt hle|-;rw[e];refine⟨aH,?_,?_,?_,h1,?_,?_⟩
 .rw[<-T.run];dsimp only;rw[show trU v-(aA S-aA S0)=(trU v-(aA (S++[h])-aA S0))+1 by grind];exact(Qp hn).symm
 .rw[List.nodup_append];exact⟨T.nd,af,λa ha b hb e=>hn aH⟩
 .intro p hp;rcases bz.1 hp with hp|hp
  .exact T.rng p hp
  grind
 .have:=T.len;grind
 .intro u hu;rcases bz.1 hu with hu|hu
  .exact T.pts u hu
  .rw[cI.1 hu];exact hb _ (dh h2)
def TrOk.stop(T:TrOk v L S0 h0 y)(hn:y.2.1∈y.1):trc v L (trU v) S0 h0 [] =(y.1,y.2.2):=by rw[<-T.run];exact SU hn
def xb(s:Shape)(k:Nat):pcK s (k+1)=((trc (vOf s) (soG s) (trU (vOf s)) (pcK s k).1 (bC (hsG s) k) []).1,if 0<(aA (trc (vOf s) (soG s) (trU (vOf s)) (pcK s k).1 (bC (hsG s) k) []).2) then(pcK s k).2++[bo (fG (trc (vOf s) (soG s) (trU (vOf s)) (pcK s k).1 (bC (hsG s) k) []).2)]else(pcK s k).2):=rfl
def aDu{s:Shape}{k:Nat}(T:TrOk (vOf s) (soG s) (pcK s k).1 (bC (hsG s) k) y)(hm:y.2.1∈y.1)(h:0<aA y.2.2):pcK s (k+1)=(y.1,(pcK s k).2++[bo (fG y.2.2)]):=by rw[xb,T.stop hm];grind
def aET{s:Shape}{k:Nat}(T:TrOk (vOf s) (soG s) (pcK s k).1 (bC (hsG s) k) y)(hm:y.2.1∈y.1)(h:¬0<aA y.2.2):pcK s (k+1)=(y.1,(pcK s k).2):=by rw[xb,T.stop hm];grind
theorem RQ(s:Shape):∀k,aA (pcK s k).2<=k
 |0=>bR _
 |k+1=>by
  have:=RQ s k;rw[xb];grind
def I5{s:Shape}(hp:tM s):∀k,k<=aA (hsG s)->∀r∈(pcK s k).2,aA r<=1000
 |0,_,r,hr=>(cp hr).elim
 |k+1,hk,r,hr=>by
  have ih:=I5 hp k aC;rw[xb]at hr;dsimp only at hr;split at hr
  .rename_i h;rcases bz.1 hr with hr|hr
   .exact ih r hr
   .rw[cI.1 hr,je];have h1:=(hp.2.2.2 k aC h).1;have h2:=DP (trc (vOf s) (soG s) (trU (vOf s)) (pcK s k).1 (bC (hsG s) k) []).2 (aA (trc (vOf s) (soG s) (trU (vOf s)) (pcK s k).1 (bC (hsG s) k) []).2);unfold fG;omega
  grind
def Rg(s:Shape):aA (nxP s)=aA (vOf s):=by unfold nxP;grind
def Ik:∀l:List (Nat×Nat),aA (l.flatMap j7)=2*aA l
 |[] =>rfl
 |p::l=>by rw[fw,eR,Ik l,iE];show 2+_=_;omega
def aDX(s:Shape):aA (hsG s)=aA (vOf s)+2*aA (spG s):=by unfold hsG;rw[eR,Rg,Ik]
def pcS(s:Shape)(k:Nat):List (Nat×Nat):=(pcK s k).1
def pcR(s:Shape)(k:Nat):List aU:=(pcK s k).2
def c48:Con:=con (a1 aSh) (λs=>[Fit s,(bL s=aE->GOk s/\SOk s/\tM s)]) (λs=> .tup [.lst .R (pcG s),.iqz (eV s)])
def k48:c48.Okz 43:=bI VF (λs=>[lp 6 30 (aA (vOf s)) ae [40] (λk=>[(6,.own 40 .P k)]) (λk=>[(40,.row 69 .P ((nxP s).take k))]) λk=>[jU 8 [(7,.iqz (k:Int)),(8,.iqz ((dj (nG s) k).toNat:Nat))]],
 lp 11 44 (aA (spG s)) ae [40] (λk=>[(6,.own 40 .P (aA (vOf s)+2*k))]) (λk=>[(40,.row 69 .P (nxP s++((spG s).take k).flatMap j7))]),
 lp 18 61 (aA (hsG s)) (λk=>[(pcS s k).Nodup,∀p∈(pcS s k),p.1<(aA (vOf s))/\p.2<aA (vOf s)]) [60] (λk=>[(12,.own 60 .R (aA (pcR s k)))]) (λk=>[(60,.row 23 .R (pcR s k)),(46,.mp (pcS s k))]) λk=>
 [(22,.mk TrY (λF L=>match F.at 16,L.at 46 with
 | .ptr b 0,aD (.mp ks)=>(match L.at b with
 |some (.box _ [.int _ i,.int _ j])=>aD (ks,(i.toNat,j.toNat),match F.at 15 with| .own t _ _=>(match L.at t with|some (.row _ .V r)=>r|_=>[])|_=>[])
 |_=>aM)
 |_,_=>aM) [68,70] (λy=>[TrOk (vOf s) (soG s) (pcS s k) (bC (hsG s) k) y]) (λy=>[(15,.own 70 .V (aA y.2.2)),(16,.ptr 68 0),(12,.own 60 .R (aA (pcR s k)))])
 (λy=>[(68,.box 69 [.iqz (y.2.1.1:Nat),.iqz (y.2.1.2:Nat)]),(70,.row 44 .V y.2.2),(46,.mp y.1)]) (λy=>trU (vOf s)-aA y.1) λ_=>[])]]
 ) λs hp=>bD (aO (nG s) λA=>aO (vOf s) λB=>aO (spG s) λC=>aO (soG s) λD=>aO (hsG s) λE=>aO (nxP s) λF=>aO (0:Nat) λI=>aO (0:Int) λJ=>aO (!bL s) λY=>aO ([] :List aI8) λb=>aO ([] :List (List aI8)) λi=>aO ([] :List (Prod Nat Nat)) λj=>Fit s/\qbq Y (pcG s=i/\11=eV s) (Fit s/\bL s=aE/\GOk s/\SOk s/\(0=J/\I=0/\ak 0 F=j/\I<=aA B)/\
 (∀x:Nat,aO (x:Int) λH=>aO (x,(dj A x).toNat) λT=>aO (ak x F) λW=>x<=aA B->qiq (H<aA B) ((ix H (aA B)/\x<(aA A)/\H=x/\dj A x=(dj A x).toNat)/\
   (∀y:Unit,x=(aA W)/\(aA W)+[T].length<=1000000/\qnr H x (aA (ak x F++[T])=x+1/\ak x F++[T] =ak (x+1) F/\x+1<=(aA B)/\(aA B)-(x+1)<aA B-x))) ((0=J/\x=aA B+2*0/\ak x F=nxP s++mL j7 (ak 0 C)/\I<=aA C)/\
   (∀x_1:Nat,aO (x_1+1) λK=>aO (x_1:Int) λO=>aO (bC C x_1) λQ=>aO (Q.1,Q.2) λR=>aO (Q.2,Q.1) λS=>aO (ak x_1 C) λa=>aO (aA B+2*x_1:Nat) λk=>aO (nxP s++mL j7 a) λl=>x_1<=aA C->qiq (O<aA C) (ix O (aA C)/\x_1<(aA C)/\ix 1 2/\ix 0 2/\(aA B)+2*x_1=(aA l)/\(aA l)+[R,S].length<=1000000/\qnr O x_1 (aA (nxP s++mL j7 a++[R,S])=aA B+2*K/\nxP s++mL j7 a++[R,S] =nxP s++mL j7 (ak K C)/\x_1+1<=(aA C)/\(aA C)-K<aA C-x_1)) ((0=J/\(aA (pcR s 0))=0/\pcR s 0=i/\j=pcS s 0/\I<=(aA E)/\rV (pcS s 0)/\(∀p:Prod Nat Nat,p∈pcS s 0->p.1<(aA B)/\p.2<aA B))/\
     (∀x_2:Nat,aO (x_2+1) λG=>aO (pcR s x_2) λM=>aO (x_2:Int) λN=>aO (pcS s x_2) λP=>aO (bC E x_2) λU=>aO (x_2+1:Nat) λX=>aO (aA (pcR s G)) λZ=>aO (pcR s x_2,aE) λd=>aO (bC l x_2) λm=>x_2<=(aA E)/\rV P/\(∀p:Prod Nat Nat,p∈pcS s x_2->p.1<(aA B)/\p.2<aA B)->qiq (N<(k:Int)) (ix N (aA B+2*x_1)/\x_2<(aA l)/\(aA b=0/\(aA M)=(aA M)/\(m.1:Int)=m.1/\(m.2:Int)=m.2/\b=b/\pcS s x_2=pcS s x_2/\TrOk B D P U (pcS s x_2,((m.1,m.2),b)))/\
       (∀x_3:TrY,aO (fG x_3.2.2) λV=>aO (x_3.2.1.1:Int) λc=>aO (aI7 B x_3.2.1.1) λe=>aO (x_3.2.2++[e]) λf=>aO (x_3.2.1.1,x_3.2.1.2) λg=>aO (aA x_3.2.2:Int) λh=>TrOk B D P U x_3->rV x_3.1/\qiq (g∈x_3.1) (qiq (0<h) (aA x_3.2.2=(aA x_3.2.2)/\(aA x_3.2.2)<=1000/\(∀u:aI8,u∈x_3.2.2->bd 1000000000 u)/\I<(aA V)/\(aA M)=(aA M)/\(aA M)+[bo V].length<=1000000/\aX (N+1)/\N+1=(X:Int)/\(aA (pcR s x_2++[bo V]))=Z/\pcR s x_2++[bo V] =pcR s G/\x_3.1=pcS s G/\x_2+1<=(aA E)/\rV (pcS s G)/\(∀p:Prod Nat Nat,p∈pcS s G->p.1<(aA B)/\p.2<aA B)/\(aA E)-G<aA E-x_2) (aX (N+1)/\N+1=(X:Int)/\(aA M)=Z/\pcR s x_2=pcR s G/\x_3.1=pcS s G/\x_2+1<=(aA E)/\rV (pcS s G)/\(∀p:Prod Nat Nat,p∈pcS s G->p.1<(aA B)/\p.2<aA B)/\(aA E)-G<aA E-x_2)) (rV x_3.1/\ix 0 2/\ix c (aA B)/\(aA x_3.2.2)=(aA x_3.2.2)/\(aA x_3.2.2)+[e].length<=1000000/\ix 1 2/\ix 1 2/\ix 0 2/\(aA B)=(aA D)/\(aA B)=(aA A)/\(aA B)<=1000000/\(aA D)<=1000000/\x_3.2.1.2<(aA D)/\c∈bK D x_3.2.1.2/\(aA (bK D x_3.2.1.2))<=1000000/\(∀x_4:Int,x_4∈bK D x_3.2.1.2->0<=x_4)/\((-1:Int)=1\/(-1:Int)= -1)/\(aA f)=(aA f)/\(aA M)=(aA M)/\(x_3.2.1.2:Int)=x_3.2.1.2/\(jj D x_3.2.1.2 x_3.2.1.1 (-1):Int)=jj D x_3.2.1.2 x_3.2.1.1 (-1)/\x_3.2.2++[e] =x_3.2.2++[e]/\mW x_3.1 g=mW x_3.1 g/\TrOk B D P U (mW x_3.1 g,((x_3.2.1.2,jj D x_3.2.1.2 x_3.2.1.1 (-1)),x_3.2.2++[e]))/\trU B-aA (mW x_3.1 g)<trU B-aA x_3.1))) (aA M=(aA M)/\(aA M)<=1000000/\(∀r:aU,r∈pcR s x_2->aA r<=1000)/\(aA M)=(aA (r68 d))/\r68 d=pcG s/\0=eV s)))))))) (by
 change Fit s/\((bL s=aE->GOk s/\SOk s/\tM s))at hp;obtain⟨hf,hv⟩:=hp;have n80:aA (vOf s)<=80:=mv s;have hT:(!bL s)=aK->bL s=aE:=λh=>nb h;have hg:(!bL s)=aK->GOk s:=λh=>(hv (nb h)).1;have hs:(!bL s)=aK->SOk s:=λh=>(hv (nb h)).2.1;have hP:(!bL s)=aK->tM s:=λh=>(hv (nb h)).2.2;have sd0:(!bL s)=aE->pcG s=[] :=λh=>by unfold pcG;grind
 have ev0:(!bL s)=aE->11=eV s:=λh=>by unfold eV;grind
 have ev1:(!bL s)=aK->0=eV s:=λh=>by unfold eV;grind
 have sl:(!bL s)=aK->aA (spG s)<=6400:=λh=>by have h1:aA (spG s)<=aA (pG s):=Dz _ _ _ _;have h2:=(vu (nb h)).1;rw[uT]at h1;omega
 have hl:=aDX s;have nl:aA (nG s)=aA (vOf s):=Jl s _;have gl:aA (soG s)=aA (vOf s):=Am s _;have xl:=Rg s;have vb:∀u∈vOf s,bd 1000000000 u:=λu hu=>by obtain⟨i,hi,rfl⟩:=fC.1 hu;exact qv hi bg
 have a1:∀x:Nat,(x:Int)<aA (vOf s)->x<aA (nG s):=λx h=>aC;have a2:(!bL s)=aK->∀x:Nat,(x:Int)<aA (vOf s)->dj (nG s) x=(dj (nG s) x).toNat:=λh x hx=>(Int.toNat_of_nonneg ((hP h).2.2.1 x aC)).symm;have a3:∀x:Nat,x<=aA (vOf s)->aA (ak x (nxP s))=x:=λx h=>aH;have a4:∀x:Nat,(x:Int)<aA (vOf s)->ak x (nxP s)++[(x,(dj (nG s) x).toNat)] =ak (x+1) (nxP s):=λx h=>by rw[lC (aC:x<aA (nxP s))];unfold nxP;grind
 have a5:∀x:Nat,∀z:Nat×Nat,(x:Int)<aA (vOf s)->aA (ak x (nxP s))+[z].length<=1000000:=λx z h=>aH;have a6:∀x:Nat,∀z:Nat×Nat,(x:Int)<aA (vOf s)->aA (ak x (nxP s)++[z])=x+1:=λx z h=>aH;have a7:∀x:Nat,(x:Int)<aA (vOf s)->aX ((x:Int)+1):=λx h=>bP aC;have b0:∀x:Nat,¬(x:Int)<aA (vOf s)->x<=aA (vOf s)->x=aA (vOf s)+2*0:=λx h h2=>aC;have b1:∀x:Nat,¬(x:Int)<aA (vOf s)->ak x (nxP s)=nxP s++mL j7 (ak 0 (spG s)):=λx h=>by rw[jB aC];simp
 have b2:∀x:Nat,x<=aA (spG s)->aA (nxP s++mL j7 (ak x (spG s)))=aA (vOf s)+2*x:=λx h=>by rw[eR,xl,Ik,mK];omega
 have b3:(!bL s)=aK->∀x:Nat,∀z u:Nat×Nat,x<=aA (spG s)->aA (nxP s++mL j7 (ak x (spG s)))+[z,u].length<=1000000:=λh x z u hx=>aH;have b4:(!bL s)=aK->∀x:Nat,(x:Int)<aA (spG s)->aX ((x:Int)+1):=λh x hx=>bP aH;have b5:∀x:Nat,∀z u:Nat×Nat,x<=aA (spG s)->aA (nxP s++mL j7 (ak x (spG s))++[z,u])=aA (vOf s)+2*(x+1):=λx z u hx=>by rw[eR,b2 x hx];grind
 have b6:∀x:Nat,(x:Int)<aA (spG s)->nxP s++mL j7 (ak x (spG s))++[((bC (spG s) x).1,(bC (spG s) x).2),((bC (spG s) x).2,(bC (spG s) x).1)] =nxP s++mL j7 (ak (x+1) (spG s)):=λx h=>by rw[lC (aC:x<aA (spG s)),wi,<-kw,om aC];rfl
 have hH:∀x:Nat,¬(x:Int)<aA (spG s)->nxP s++mL j7 (ak x (spG s))=hsG s:=λx h=>by rw[jB aC];rfl
 have c1:∀x y:Nat,¬(x:Int)<aA (spG s)->x<=aA (spG s)->(y:Int)<((aA (vOf s)+2*x:Nat):Int)->y<aA (hsG s):=λx y h h2 h3=>aC;have c2:∀x y:Nat,x<=aA (spG s)->(y:Int)<((aA (vOf s)+2*x:Nat):Int)->y<aA (nxP s++mL j7 (ak x (spG s))):=λx y h2 h3=>aH;have c3:(!bL s)=aK->∀x y:Nat,¬(x:Int)<aA (spG s)->x<=aA (spG s)->(y:Int)<((aA (vOf s)+2*x:Nat):Int)->rV (pcS s y)->(∀p:Nat×Nat,p∈(pcS s y)->p.1<(aA (vOf s))/\p.2<aA (vOf s))->TrOk (vOf s) (soG s) (pcS s y) (bC (hsG s) y) ((pcS s y),(((bC (nxP s++mL j7 (ak x (spG s))) y).1,(bC (nxP s++mL j7 (ak x (spG s))) y).2),([] :List aI8))):=λh x y h1 h2 h3 h4 h5=>by rw[hH x h1];refine TrOk.start h4 h5 ((hP h).2.1 _ ?_);have:=c1 x y h1 h2 h3;rw[om this];grind
 have d1:(!bL s)=aK->∀x y:Nat,¬(x:Int)<aA (spG s)->x<=aA (spG s)->(y:Int)<((aA (vOf s)+2*x:Nat):Int)->∀z:TrY,TrOk (vOf s) (soG s) (pcS s y) (bC (hsG s) y) z->z.2.1∈z.1->0<(aA z.2.2:Int)->aA z.2.2<=1000/\0<aA (fG z.2.2):=λh x y h1 h2 h3 z T hm hz=>by have e:=T.stop hm;unfold pcS at e;have:=(hP h).2.2.2 y (c1 x y h1 h2 h3);grind
 have d2:(!bL s)=aK->∀y:Nat,y<=aA (hsG s)->aA (pcR s y)<=20000:=λh y hy=>by have h1:aA (pcR s y)<=y:=RQ s y;grind
 have d3:(!bL s)=aK->∀y:Nat,y<=aA (hsG s)->∀q:aU,aA (pcR s y)+[q].length<=1000000:=λh y hy q=>by have:=d2 h y hy;simp only[wV];omega
 have d4:(!bL s)=aK->∀y:Nat,y<=aA (hsG s)->aX ((y:Int)+1):=λh y hy=>bP (by have:=sl h;omega);have t1:∀(y:Nat) (z:TrY),TrOk (vOf s) (soG s) (pcS s y) (bC (hsG s) y) z->z.2.1∈z.1->0<(aA z.2.2:Int)->(pcR s y)++[bo (fG z.2.2)] =pcR s (y+1):=λy z T hm hz=>(congrArg Bi (aDu T hm aC)).symm;have t2:∀(y:Nat) (z:TrY),TrOk (vOf s) (soG s) (pcS s y) (bC (hsG s) y) z->z.2.1∈z.1->¬0<(aA z.2.2:Int)->pcR s y=pcR s (y+1):=λy z T hm hz=>(congrArg Bi (aET T hm aC)).symm;have t3:∀(y:Nat) (z:TrY),TrOk (vOf s) (soG s) (pcS s y) (bC (hsG s) y) z->z.2.1∈z.1->z.1=(pcS s (y+1)):=λy z T hm=>by unfold pcS at*;rw[xb,T.stop hm]
 have t4:∀(y:Nat) (z:TrY),TrOk (vOf s) (soG s) (pcS s y) (bC (hsG s) y) z->z.2.1∈z.1->(pcS s (y+1)).Nodup:=λy z T hm=>by rw[<-t3 y z T hm];exact T.nd
 have t5:∀(y:Nat) (z:TrY),TrOk (vOf s) (soG s) (pcS s y) (bC (hsG s) y) z->z.2.1∈z.1->∀p:Nat×Nat,p∈(pcS s (y+1))->p.1<(aA (vOf s))/\p.2<aA (vOf s):=λy z T hm=>by rw[<-t3 y z T hm];exact T.rng
 have r0:∀(y:Nat) (z:TrY),TrOk (vOf s) (soG s) (pcS s y) (bC (hsG s) y) z->ArOk (vOf s) (soG s) z.2.1.2 z.2.1.1:=λy z T=>T.at_;have r1:∀(y:Nat) (z:TrY),TrOk (vOf s) (soG s) (pcS s y) (bC (hsG s) y) z->z.2.1.1<aA (vOf s):=λy z T=>by have:=(T.at_.rng _ T.at_.mem).2;omega
 have r2:∀(y:Nat) (z:TrY),TrOk (vOf s) (soG s) (pcS s y) (bC (hsG s) y) z->ix (z.2.1.1:Int) (aA (vOf s)):=λy z T=>fS (r1 y z T);have r3:∀(y:Nat) (z:TrY),TrOk (vOf s) (soG s) (pcS s y) (bC (hsG s) y) z->∀q:aI8,aA z.2.2+[q].length<=1000000:=λy z T q=>by have h1:=T.lt;have h2:=T.len;unfold trU at h1;have:aA (vOf s)*aA (vOf s)<=80*80:=Nat.mul_le_mul n80 n80;simp only[wV];omega
 have r4:∀(y:Nat) (z:TrY),TrOk (vOf s) (soG s) (pcS s y) (bC (hsG s) y) z->∀x∈bK (soG s) z.2.1.2,0<=x:=λy z T x hx=>(T.at_.rng x hx).1;have r5:(!bL s)=aK->∀(y:Nat) (z:TrY),TrOk (vOf s) (soG s) (pcS s y) (bC (hsG s) y) z->z.2.1∉z.1->TrOk (vOf s) (soG s) (pcS s y) (bC (hsG s) y) (mW z.1 z.2.1,nxH (soG s) z.2.1,z.2.2++[aI7 (vOf s) z.2.1.1]):=λh y z T hm=>T.step (hP h).1 gl vb hm;have r6:∀(y:Nat) (z:TrY),TrOk (vOf s) (soG s) (pcS s y) (bC (hsG s) y) z->z.2.1∉z.1->trU (vOf s)-aA (mW z.1 z.2.1)<trU (vOf s)-aA z.1:=λy z T hm=>by have:=T.lt;rw[show mW z.1 z.2.1=z.1++[z.2.1]from if_neg hm,eR];simp;omega
 have e1:(!bL s)=aK->∀x y:Nat,¬(x:Int)<aA (spG s)->x<=aA (spG s)->¬(y:Int)<((aA (vOf s)+2*x:Nat):Int)->y<=aA (hsG s)->r68 ((pcR s y),aE)=pcG s:=λh x y h1 h2 h3 h4=>by rw[(aC:y=aA (hsG s))];unfold pcG;rw[nb h,if_pos rfl];rfl
 have e2:∀l:List aU,aA l=aA (r68 (l,aE)):=λl=>(vJ l).length_eq.symm;have e3:(!bL s)=aK->∀y:Nat,y<=aA (hsG s)->∀r∈(pcR s y),aA r<=1000:=λh y hy=>I5 (hP h) y hy;have e4:(!bL s)=aK->∀y:Nat,y<=aA (hsG s)->aA (pcR s y)<=1000000:=λh y hy=>aH;have e5:(pcS s 0).Nodup:=List.nodup_nil;have hT2:(!bL s)=aK->bL s=aE:=hT;clear hv hT hP
 repeat' first|with_reducible apply cJ|with_reducible intro
 all_goals repeat with_reducible cases‹_/\_›
 all_goals first|with_reducible assumption|with_reducible rfl|with_reducible exact sd0 aJ|with_reducible exact ev0 aJ|with_reducible exact ev1 aJ|with_reducible exact hT2 aJ|with_reducible exact hg aJ|with_reducible exact hs aJ|with_reducible exact a1 _ aJ|with_reducible exact a2 aJ _ aJ|with_reducible exact(a3 _ aJ).symm|with_reducible exact a4 _ aJ|with_reducible exact a5 _ _ aJ|with_reducible exact a6 _ _ aJ|with_reducible exact a7 _ aJ|with_reducible exact b0 _ aJ aJ|with_reducible exact b1 _ aJ|with_reducible exact(b2 _ aJ).symm|with_reducible exact b3 aJ _ _ _ aJ|with_reducible exact b4 aJ _ aJ|with_reducible exact b5 _ _ _ aJ|with_reducible exact b6 _ aJ|with_reducible exact c2 _ _ aJ aJ|exact c3 aJ _ _ aJ aJ aJ aJ aJ|exact(d1 aJ _ _ aJ aJ aJ _ aJ aJ aJ).1|exact(d1 aJ _ _ aJ aJ aJ _ aJ aJ aJ).2|with_reducible exact d3 aJ _ aJ _|with_reducible exact d4 aJ _ aJ|with_reducible exact(TrOk.nd aJ)|with_reducible exact(TrOk.pts aJ _ aJ)|exact t1 _ _ aJ aJ aJ|exact congrArg aA (t1 _ _ aJ aJ aJ)|exact t2 _ _ aJ aJ aJ|exact congrArg aA (t2 _ _ aJ aJ aJ)|exact t3 _ _ aJ aJ|exact t4 _ _ aJ aJ|exact(t5 _ _ aJ aJ _ aJ).1|exact(t5 _ _ aJ aJ _ aJ).2|with_reducible exact r2 _ _ aJ|with_reducible exact r3 _ _ aJ _|with_reducible exact(r0 _ _ aJ).iL|with_reducible exact(r0 _ _ aJ).mem|with_reducible exact(r0 _ _ aJ).len|with_reducible exact r4 _ _ aJ _ aJ|exact r5 aJ _ _ aJ aJ|exact r6 _ _ aJ aJ|with_reducible exact e1 aJ _ _ aJ aJ aJ aJ|with_reducible exact e2 _|with_reducible exact e3 aJ _ aJ _ aJ|with_reducible exact e4 aJ _ aJ|omega|(unfold ix;omega)|(unfold aX;omega)|exact .inr rfl|exact e5|exact(cp aJ).elim|exact rfl)
def t48:=VF.adk k48
end
section
abbrev Q4:=Int×Int×Int×Int
def m8(q:Q4)(p:Int×Int):Q4:=
 if p.1<0 then(if q.1*(p.2-p.1)< -p.1*q.2.1 then(-p.1,p.2-p.1,q.2.2)else q)
 else if p.2<0 then(if p.1*q.2.2.2<q.2.2.1*(p.1-p.2)then(q.1,q.2.1,p.1,p.1-p.2)else q)else q
def pP(p:Int×Int):Bool:=decide (p.1<=0)&&decide (p.2<=0)
def vI:∀(l:List (Int×Int)) (q:Q4),l0 l q.1 q.2.1 q.2.2.1 q.2.2.2=(!(l.any pP)&&decide ((l.foldl m8 q).1*(l.foldl m8 q).2.2.2<(l.foldl m8 q).2.2.1*(l.foldl m8 q).2.1))
 |[],q=>by simp[l0] <;>congr
 |(a,b)::l,(ln,ld,hn,hd)=>by
  unfold l0;rw[List.any_cons,List.foldl_cons];by_cases h1:a<=0/\b<=0
  .have:pP (a,b)=aE:=by unfold pP;simp[h1.1,h1.2]
   grind
  .have h2:pP (a,b)=aK:=by unfold pP;rw[Bool.and_eq_false_iff,decide_eq_false_iff_not,decide_eq_false_iff_not];omega
   rw[if_neg h1,h2,zJ];unfold m8;dsimp only;by_cases h3:a<0
   .rw[if_pos h3,if_pos h3];by_cases h4:ln*(b-a)< -a*ld
    .rw[if_pos h4,if_pos h4];exact vI l (-a,b-a,hn,hd)
    .rw[if_neg h4,if_neg h4];exact vI l (ln,ld,hn,hd)
   .rw[if_neg h3,if_neg h3];by_cases h5:b<0
    .rw[if_pos h5,if_pos h5];by_cases h4:a*hd<hn*(a-b)
     .rw[if_pos h4,if_pos h4];exact vI l (ln,ld,a,a-b)
     .rw[if_neg h4,if_neg h4];exact vI l (ln,ld,hn,hd)
    .rw[if_neg h5,if_neg h5];exact vI l (ln,ld,hn,hd)
def qI(s e:S):Int×Int:=(cross (aJa e.b e.a) (aJa s.a e.a),cross (aJa e.b e.a) (aJa s.b e.a))
def sO(s:S)(r:aU):List (Int×Int):=(aW r).map (qI s)
def stE(s:S)(r:aU)(k:Nat):Q4:=((sO s r).take k).foldl m8 (0,1,1,1)
def lnE(s:S)(r:aU)(k:Nat):Int:=(stE s r k).1
def ldE(s:S)(r:aU)(k:Nat):Int:=(stE s r k).2.1
def hnE(s:S)(r:aU)(k:Nat):Int:=(stE s r k).2.2.1
def hdE(s:S)(r:aU)(k:Nat):Int:=(stE s r k).2.2.2
def ibd(m x:Int):Prop:= -m<=x/\x<=m
def mG(s:S)(r:aU)(k:Nat):Prop:=((sO s r).take k).any pP=aK/\ibd 1600000000 (lnE s r k)/\ibd 1600000000 (ldE s r k)/\ibd 1600000000 (hnE s r k)/\ibd 1600000000 (hdE s r k)
def aAk(s:S)(r:aU):mG s r 0:=by unfold mG lnE ldE hnE hdE stE ibd;simp
variable{s:S}{r:aU}
def ON{k:Nat}(hk:k<aA (aW r)):(sO s r)[k]? =aD (qI s (aW r)[k]):=by unfold sO;grind
def PM{k:Nat}(hk:k<aA (aW r)):stE s r (k+1)=m8 (stE s r k) (qI s (aW r)[k]):=by unfold stE;rw[nO,ON hk,Bw];rfl
def aAl{k:Nat}(hk:k<aA (aW r))(h:mG s r k)(ho:pP (qI s (aW r)[k])=aK)
  (ha:ibd 800000000 (qI s (aW r)[k]).1) (hb:ibd 800000000 (qI s (aW r)[k]).2):mG s r (k+1):=by
 obtain⟨h1,h2,h3,h4,h5⟩:=h;unfold mG;refine⟨?_,?_⟩
 .rw[nO,ON hk,List.any_append,h1];simp[ho]
 .unfold lnE ldE hnE hdE at*;rw[PM hk];generalize qI s (aW r)[k] =p at ha hb|-;generalize stE s r k=q at h2 h3 h4 h5|-;obtain⟨a,b⟩:=p;obtain⟨ln,ld,hn,hd⟩:=q;unfold ibd at*;dsimp only at*;unfold m8;grind
def Yt{k:Nat}(hk:k<aA (aW r))(ho:pP (qI s (aW r)[k])=aE):eJ s r=aK:=by have h:=vI (sO s r) (0,1,1,1);have hm:(sO s r).any pP=aE:=kX.2 ⟨_,bn.2 ⟨_,jr hk,rfl⟩,ho⟩;rw[hm]at h;exact h
def Yv(h:mG s r (aA (aW r))):eJ s r=decide (lnE s r (aA (aW r))*hdE s r (aA (aW r))<hnE s r (aA (aW r))*ldE s r (aA (aW r))):=by
 have hl:aA (sO s r)=aA (aW r):=by unfold sO;rw[dq]
 have h1:=h.1;have e:=vI (sO s r) (0,1,1,1);unfold lnE ldE hnE hdE stE;rw[<-hl,ri]at h1|-;rw[h1]at e;exact e
def aA5(h:VR r){e:S}(he:e∈aW r):bF e.a 10000=aE/\bF e.b 10000=aE:=by have h3:=h.three;unfold aW at he;rw[if_neg aC]at he;obtain⟨i,hi,rfl⟩:=bn.1 he;have hi:=cP.1 hi;exact⟨mM (xg h.near i hi) aC,mM (xg h.near _ (cG _ aC)) aC⟩
end
section
def tC:=(t48.adk k93).adk k92
structure ROk(r:aU):Prop where
 three:3<=aA r
 len:aA r<=1000
 near:∀v∈r,bd 10000 v
def eG(s:S)(r:aU)(k:Nat):Int×Int:=qI s (bh r k)
def gA(s:S)(r:aU)(k:Nat):Int:=(eG s r k).1
def gB(s:S)(r:aU)(k:Nat):Int:=(eG s r k).2
def gO(s:S)(r:aU)(k:Nat):Bool:=pP (eG s r k)
variable{r:aU}
def Ox(h:3<=aA r):aA (aW r)=aA r:=by unfold aW;grind
def DJ(h:3<=aA r){k:Nat}(hk:k<aA (aW r)):(aW r)[k] =bh r k:=by have:∀(l:List S) (hl:l=(bT (aA r)).map (bh r)) (hk:k<aA l),l[k] =bh r k:=λl hl hk=>aH;exact this _ (by unfold aW;grind) hk
def aIf:Con:=con (ac aS (a1 (aL .V))) (λ(s,r)=>[bd 10000 s.a,bd 10000 s.b,ROk r]) (λ(s,r)=> .bool (eJ s r))
def aGJ:aIf.Okz 173:=bI tC (λ(s,r)=>[(3,.mk Nat (λF _=>nA F 16) [] (λk=>[k<=aA r,mG s r k]) (λk=>[(16,.iqz (k:Int)),(5,.iqz (lnE s r k)),(6,.iqz (ldE s r k)),(7,.iqz (hnE s r k)),(8,.iqz (hdE s r k))]) ae (λk=>aA r-k) λk=>
  [jU 7 [(12,.iqz (gA s r k)),(13,.iqz (gB s r k))],jb 8 43 (gO s r k),jPU 15 [gO s r k=aK] [(5,.iqz (lnE s r (k+1))),(6,.iqz (ldE s r (k+1))),(7,.iqz (hnE s r (k+1))),(8,.iqz (hdE s r (k+1)))]])]
  ) λ(s,r) hp=>bD ((0=(0:Int)/\0=lnE s r 0/\1=ldE s r 0/\1=hnE s r 0/\1=hdE s r 0/\(0:Nat)<=(aA r)/\mG s r 0)/\
 (∀x:Nat,aO (x+1) λA=>aO (x:Int) λB=>aO (aI7 r x) λC=>aO (aI7 r (A % (aA r))) λE=>aO (aJa E C) λF=>aO (0-gA s r x) λG=>aO (aJa s.a C) λH=>aO (aJa s.b C) λI=>aO (gB s r x-gA s r x) λJ=>aO (gA s r x-gB s r x) λK=>x<=(aA r)/\mG s r x->qiq (B<aA r) ((ix B (aA r)/\aX (B+1)/\(aA r:Int)≠0/\ix ((A % (aA r):Nat):Int) (aA r)/\bd 1000000000 E/\bd 1000000000 C/\(bd 1000000000 s.a/\bd 1000000000 C/\cOK F H/\bd 1000000000 s.b/\bd 1000000000 C/\cOK F I/\cross F H=gA s r x/\cross F I=gB s r x)/\
    (∀y:Unit,(qiq (gA s r x<=0) (decide (gB s r x<=0)=gO s r x) (aK=gO s r x))/\
     (∀y_1:Unit,qbq (gO s r x) (aK=eJ s r) (qiq (gA s r x<0) (aX G/\aX (G*ldE s r x)/\aX J/\aX (lnE s r x*J)/\qiq (lnE s r x*J<G*ldE s r x) (aX G/\aX J/\0-gA s r x=lnE s r A/\gB s r x-gA s r x=ldE s r A/\hnE s r x=hnE s r A/\hdE s r x=hdE s r A/\gO s r x=aK) (lnE s r x=lnE s r A/\ldE s r x=ldE s r A/\hnE s r x=hnE s r A/\hdE s r x=hdE s r A/\gO s r x=aK)) (qiq (gB s r x<0) (aX (gA s r x*hdE s r x)/\aX K/\aX (hnE s r x*K)/\qiq (gA s r x*hdE s r x<hnE s r x*K) (aX K/\lnE s r x=lnE s r A/\ldE s r x=ldE s r A/\gA s r x=hnE s r A/\gA s r x-gB s r x=hdE s r A/\gO s r x=aK) (lnE s r x=lnE s r A/\ldE s r x=ldE s r A/\hnE s r x=hnE s r A/\hdE s r x=hdE s r A/\gO s r x=aK)) (lnE s r x=lnE s r A/\ldE s r x=ldE s r A/\hnE s r x=hnE s r A/\hdE s r x=hdE s r A/\gO s r x=aK))))))/\
   (∀y:Unit,gO s r x=aK->qnr B x (lnE s r A=lnE s r A/\ldE s r A=ldE s r A/\hnE s r A=hnE s r A/\hdE s r A=hdE s r A/\x+1<=(aA r)/\mG s r A/\(aA r)-A<aA r-x))) (aX (lnE s r x*hdE s r x)/\aX (hnE s r x*ldE s r x)/\decide (lnE s r x*hdE s r x<hnE s r x*ldE s r x)=eJ s r))) (by
  change bd 10000 s.a/\bd 10000 s.b/\ROk r at hp;obtain⟨ha,hb,h3⟩:=hp;have l3:=h3.three;have hl:=h3.len;have hN:∀i:Nat,i<aA r->bd 10000 (aI7 r i):=λi h=>h3.near _ (dh h);have el:aA (aW r)=aA r:=Ox l3;have md:∀i:Nat,(i:Int)<aA r->(i+1) % (aA r)<aA r:=λi h=>cG _ aC;have ha9:bd 1000000000 s.a:=ha.mono;have hb9:bd 1000000000 s.b:=hb.mono;have e9a:∀i:Nat,(i:Int)<aA r->bd 1000000000 (aI7 r i):=λi h=>(hN i aC).mono;have e9b:∀i:Nat,(i:Int)<aA r->bd 1000000000 (aI7 r ((i+1) % (aA r))):=λi h=>(hN _ (md i h)).mono;have x1:∀i:Nat,(i:Int)<aA r->ix (((i+1) % (aA r):Nat):Int) (aA r):=λi h=>fS (md i h);have cA:∀(v:V) (i:Nat),bd 10000 v->(i:Int)<aA r->cOK (aJa (aI7 r ((i+1) % (aA r))) (aI7 r i)) (aJa v (aI7 r i)):=λv i hv h=>by have:=pu (j0 (hN _ (md i h)) (hN i aC)) (j0 hv (hN i aC));unfold cOK;omega
  have bA:∀i:Nat,(i:Int)<aA r->ibd 800000000 (gA s r i)/\ibd 800000000 (gB s r i):=λi h=>by have h0:bd 10000 (nxt r i):=hN _ (md i h);have h1:=pu (j0 h0 (hN i aC)) (j0 ha (hN i aC));have h2:=pu (j0 h0 (hN i aC)) (j0 hb (hN i aC));unfold gA gB eG qI ibd bh;dsimp only;unfold cross;omega
  have sN:∀i:Nat,(i:Int)<aA r->stE s r (i+1)=m8 (stE s r i) (eG s r i):=λi h=>by rw[PM (aC:i<aA (aW r)),DJ l3];rfl
  have iN:∀i:Nat,(i:Int)<aA r->mG s r i->gO s r i=aK->mG s r (i+1):=λi h h1 h2=>by
   have hb:=bA i h;have hk:i<aA (aW r):=aC;have e:eG s r i=qI s (aW r)[i] :=by rw[DJ l3];rfl
   refine aAl hk h1 ?_ ?_ ?_
   .rw[<-e];exact h2
   .rw[<-e];exact hb.1
   .rw[<-e];exact hb.2
  have oY:∀i:Nat,(i:Int)<aA r->gO s r i=aE->aK=eJ s r:=λi h h2=>by symm;refine Yt (k:=i) (aC:i<aA (aW r)) ?_;rw[DJ l3];exact h2
  have oE:∀i:Nat,¬(i:Int)<aA r->i<=aA r->mG s r i->decide (lnE s r i*hdE s r i<hnE s r i*ldE s r i)=eJ s r:=λi h h2 h3=>by obtain rfl:i=aA r:=aC;rw[<-el]at h3|-;rw[Yv h3]
  have o1:∀i:Nat,gA s r i<=0->decide (gB s r i<=0)=gO s r i:=λi h=>by unfold gO pP;rw[decide_eq_true (show(eG s r i).1<=0 from h)];rfl
  have o2:∀i:Nat,¬gA s r i<=0->aK=gO s r i:=λi h=>by unfold gO pP;rw[decide_eq_false (show¬(eG s r i).1<=0 from h)];rfl
  have nN:∀x:Int,0-x= -x:=λx=>aC;have s1:∀i:Nat,(i:Int)<aA r->gA s r i<0->lnE s r i*(gB s r i-gA s r i)<(0-gA s r i)*ldE s r i->stE s r (i+1)=(0-gA s r i,gB s r i-gA s r i,hnE s r i,hdE s r i):=λi h h1 h2=>by rw[sN i h];unfold m8;rw[if_pos (show(eG s r i).1<0 from h1)];rw[nN]at h2;exact(if_pos (show(stE s r i).1*((eG s r i).2-(eG s r i).1)< -(eG s r i).1*(stE s r i).2.1 from h2)).trans (by rw[nN];rfl)
  have s2:∀i:Nat,(i:Int)<aA r->gA s r i<0->¬lnE s r i*(gB s r i-gA s r i)<(0-gA s r i)*ldE s r i->stE s r (i+1)=stE s r i:=λi h h1 h2=>by rw[sN i h];unfold m8;rw[if_pos (show(eG s r i).1<0 from h1)];rw[nN]at h2;exact if_neg h2
  have s3:∀i:Nat,(i:Int)<aA r->¬gA s r i<0->gB s r i<0->gA s r i*hdE s r i<hnE s r i*(gA s r i-gB s r i)->stE s r (i+1)=(lnE s r i,ldE s r i,gA s r i,gA s r i-gB s r i):=λi h h1 h2 h3=>by rw[sN i h];unfold m8;rw[if_neg (show¬(eG s r i).1<0 from h1),if_pos (show(eG s r i).2<0 from h2)];exact if_pos h3
  have s4:∀i:Nat,(i:Int)<aA r->¬gA s r i<0->gB s r i<0->¬gA s r i*hdE s r i<hnE s r i*(gA s r i-gB s r i)->stE s r (i+1)=stE s r i:=λi h h1 h2 h3=>by rw[sN i h];unfold m8;rw[if_neg (show¬(eG s r i).1<0 from h1),if_pos (show(eG s r i).2<0 from h2)];exact if_neg h3
  have s5:∀i:Nat,(i:Int)<aA r->¬gA s r i<0->¬gB s r i<0->stE s r (i+1)=stE s r i:=λi h h1 h2=>by rw[sN i h];unfold m8;rw[if_neg (show¬(eG s r i).1<0 from h1)];exact if_neg (show¬(eG s r i).2<0 from h2)
  have w:∀i:Nat,(i:Int)<aA r->mG s r i->aX (0-gA s r i)/\aX ((0-gA s r i)*ldE s r i)/\aX (gB s r i-gA s r i)/\aX (lnE s r i*(gB s r i-gA s r i))/\aX (gA s r i*hdE s r i)/\aX (gA s r i-gB s r i)/\aX (hnE s r i*(gA s r i-gB s r i)):=λi h hI=>by obtain⟨h1,h2⟩:=bA i h;obtain⟨_,g1,g2,g3,g4⟩:=hI;unfold ibd at h1 h2 g1 g2 g3 g4;have m1:=jE (x:=0-gA s r i) (y:=ldE s r i) (A:=1600000000) (B:=1600000000) aC aC;have m2:=jE (x:=lnE s r i) (y:=gB s r i-gA s r i) (A:=1600000000) (B:=1600000000) aC aC;have m3:=jE (x:=gA s r i) (y:=hdE s r i) (A:=1600000000) (B:=1600000000) aC aC;have m4:=jE (x:=hnE s r i) (y:=gA s r i-gB s r i) (A:=1600000000) (B:=1600000000) aC aC;exact⟨bP aC,bP aC,bP aC,bP aC,bP aC,bP aC,bP aC⟩
  have wE:∀i:Nat,mG s r i->aX (lnE s r i*hdE s r i)/\aX (hnE s r i*ldE s r i):=λi hI=>by obtain⟨_,g1,g2,g3,g4⟩:=hI;unfold ibd at g1 g2 g3 g4;have m1:=jE (x:=lnE s r i) (y:=hdE s r i) (A:=1600000000) (B:=1600000000) aC aC;have m2:=jE (x:=hnE s r i) (y:=ldE s r i) (A:=1600000000) (B:=1600000000) aC aC;exact⟨bP aC,bP aC⟩
  have z:=aAk s r;have q1:∀i:Nat,(i:Int)<aA r->gA s r i<0->lnE s r i*(gB s r i-gA s r i)<(0-gA s r i)*ldE s r i->0-gA s r i=lnE s r (i+1)/\gB s r i-gA s r i=ldE s r (i+1)/\hnE s r i=hnE s r (i+1)/\hdE s r i=hdE s r (i+1):=λi h0 h1 h2=>by have e:=s1 i h0 h1 h2;exact⟨(congrArg (λq:Q4=>q.1) e).symm,(congrArg (λq:Q4=>q.2.1) e).symm,(congrArg (λq:Q4=>q.2.2.1) e).symm,(congrArg (λq:Q4=>q.2.2.2) e).symm⟩
  have q2:∀i:Nat,(i:Int)<aA r->gA s r i<0->¬lnE s r i*(gB s r i-gA s r i)<(0-gA s r i)*ldE s r i->lnE s r i=lnE s r (i+1)/\ldE s r i=ldE s r (i+1)/\hnE s r i=hnE s r (i+1)/\hdE s r i=hdE s r (i+1):=λi h0 h1 h2=>by have e:=s2 i h0 h1 h2;exact⟨(congrArg (λq:Q4=>q.1) e).symm,(congrArg (λq:Q4=>q.2.1) e).symm,(congrArg (λq:Q4=>q.2.2.1) e).symm,(congrArg (λq:Q4=>q.2.2.2) e).symm⟩
  have q3:∀i:Nat,(i:Int)<aA r->¬gA s r i<0->gB s r i<0->gA s r i*hdE s r i<hnE s r i*(gA s r i-gB s r i)->lnE s r i=lnE s r (i+1)/\ldE s r i=ldE s r (i+1)/\gA s r i=hnE s r (i+1)/\gA s r i-gB s r i=hdE s r (i+1):=λi h0 h1 h2 h3=>by have e:=s3 i h0 h1 h2 h3;exact⟨(congrArg (λq:Q4=>q.1) e).symm,(congrArg (λq:Q4=>q.2.1) e).symm,(congrArg (λq:Q4=>q.2.2.1) e).symm,(congrArg (λq:Q4=>q.2.2.2) e).symm⟩
  have q4:∀i:Nat,(i:Int)<aA r->¬gA s r i<0->gB s r i<0->¬gA s r i*hdE s r i<hnE s r i*(gA s r i-gB s r i)->lnE s r i=lnE s r (i+1)/\ldE s r i=ldE s r (i+1)/\hnE s r i=hnE s r (i+1)/\hdE s r i=hdE s r (i+1):=λi h0 h1 h2 h3=>by have e:=s4 i h0 h1 h2 h3;exact⟨(congrArg (λq:Q4=>q.1) e).symm,(congrArg (λq:Q4=>q.2.1) e).symm,(congrArg (λq:Q4=>q.2.2.1) e).symm,(congrArg (λq:Q4=>q.2.2.2) e).symm⟩
  have q5:∀i:Nat,(i:Int)<aA r->¬gA s r i<0->¬gB s r i<0->lnE s r i=lnE s r (i+1)/\ldE s r i=ldE s r (i+1)/\hnE s r i=hnE s r (i+1)/\hdE s r i=hdE s r (i+1):=λi h0 h1 h2=>by have e:=s5 i h0 h1 h2;exact⟨(congrArg (λq:Q4=>q.1) e).symm,(congrArg (λq:Q4=>q.2.1) e).symm,(congrArg (λq:Q4=>q.2.2.1) e).symm,(congrArg (λq:Q4=>q.2.2.2) e).symm⟩
  clear sN bA nN s1 s2 s3 s4 s5 hN md
  repeat' first|with_reducible apply cJ|with_reducible intro
  all_goals repeat with_reducible cases‹_/\mG _ _ _›
  all_goals first|assumption|with_reducible rfl|(with_reducible exact e9a _ aJ)|(with_reducible exact e9b _ aJ)|(with_reducible exact x1 _ aJ)|(with_reducible exact cA _ _ aJ aJ)|(with_reducible exact oY _ aJ aJ)|(with_reducible exact oE _ aJ aJ aJ)|(with_reducible exact o1 _ aJ)|(with_reducible exact o2 _ aJ)|(with_reducible exact(w _ aJ aJ).1)|(with_reducible exact(w _ aJ aJ).2.1)|(with_reducible exact(w _ aJ aJ).2.2.1)|(with_reducible exact(w _ aJ aJ).2.2.2.1)|(with_reducible exact(w _ aJ aJ).2.2.2.2.1)|(with_reducible exact(w _ aJ aJ).2.2.2.2.2.1)|(with_reducible exact(w _ aJ aJ).2.2.2.2.2.2)|(with_reducible exact(wE _ aJ).1)|(with_reducible exact(wE _ aJ).2)|(with_reducible exact iN _ aJ aJ aJ)|(with_reducible exact(q1 _ aJ aJ aJ).1)|(with_reducible exact(q1 _ aJ aJ aJ).2.1)|(with_reducible exact(q1 _ aJ aJ aJ).2.2.1)|(with_reducible exact(q1 _ aJ aJ aJ).2.2.2)|(with_reducible exact(q2 _ aJ aJ aJ).1)|(with_reducible exact(q2 _ aJ aJ aJ).2.1)|(with_reducible exact(q2 _ aJ aJ aJ).2.2.1)|(with_reducible exact(q2 _ aJ aJ aJ).2.2.2)|(with_reducible exact(q3 _ aJ aJ aJ aJ).1)|(with_reducible exact(q3 _ aJ aJ aJ aJ).2.1)|(with_reducible exact(q3 _ aJ aJ aJ aJ).2.2.1)|(with_reducible exact(q3 _ aJ aJ aJ aJ).2.2.2)|(with_reducible exact(q4 _ aJ aJ aJ aJ).1)|(with_reducible exact(q4 _ aJ aJ aJ aJ).2.1)|(with_reducible exact(q4 _ aJ aJ aJ aJ).2.2.1)|(with_reducible exact(q4 _ aJ aJ aJ aJ).2.2.2)|(with_reducible exact(q5 _ aJ aJ aJ).1)|(with_reducible exact(q5 _ aJ aJ aJ).2.1)|(with_reducible exact(q5 _ aJ aJ aJ).2.2.1)|(with_reducible exact(q5 _ aJ aJ aJ).2.2.2)|omega|(unfold ix;omega)|(unfold aX;omega)|rfl)
def Ub:=tC.adk aGJ
def mF(r:aU):Pt:=gg (aI7 r 0) (aI7 r 1) (aI7 r 2)
def aEe(h:ROk r): -1000000<=(mF r).x/\(mF r).x<=1000000/\ -1000000<=(mF r).y/\(mF r).y<=1000000/\0<=(mF r).den/\(mF r).den<=100:=by have v:∀i,i<aA r->bd 10000 (aI7 r i):=λi hi=>h.near _ (dh hi);have l3:=h.three;have v0:=v 0 aC;have v1:=v 1 aC;have v2:=v 2 aC;unfold bd at v0 v1 v2;have q1:=rr (x:=(aI7 r 0).x+(aI7 r 1).x+(aI7 r 2).x) (g:=3) (B:=30000) aC;have q2:=rr (x:=(aI7 r 0).y+(aI7 r 1).y+(aI7 r 2).y) (g:=3) (B:=30000) aC;unfold mF gg;grind
def Tn{p:Pt}(h:3<=aA r):oi r p=(bT (aA r)).all λi=>decide (0<((aI7 r ((i+1) % (aA r))).x-(aI7 r i).x)*(p.y-(aI7 r i).y*p.den)-((aI7 r ((i+1) % (aA r))).y-(aI7 r i).y)*(p.x-(aI7 r i).x*p.den)):=by unfold oi aW;rw[if_neg aC,List.all_map];rfl
def aEr{t:LT}{l:List t.ty}{q:t.ty->Bool}{j:Nat}(hj:j<aA l)(h:q (t.nth l j)=aE):l.any q=aE:=
 kX.2 ⟨_,jr hj,by rw[<-t.nth_eq l hj];exact h⟩
def J5{t:LT}{l:List t.ty}{q:t.ty->Bool}(h:aY (λj=>q (t.nth l j)=aK) (aA l)):l.any q=aK:=
 tW.2 λx hx=>by obtain⟨j,hj,rfl⟩:=jQ hx;have:=h j hj;dsimp only at this;rw[t.nth_eq l hj]at this;grind
def aIe:Con:=con (a1 (aL .V)) (λr=>[ROk r]) (λr=>aT.enc (mF r)
 )
def aGI:aIe.Okz 175:=bI Ub ae λr hp=>bD (aO (mF r) λA=>aO (3:Int) λB=>aO (aI7 r 0) λC=>aO (aI7 r 1) λD=>aO (aI7 r 2) λE=>aO (C.x+D.x+E.x) λF=>aO (C.y+D.y+E.y) λG=>ix 0 (aA r)/\ix 1 (aA r)/\aX (C.x+D.x)/\ix 2 (aA r)/\aX F/\ix 0 (aA r)/\ix 1 (aA r)/\aX (C.y+D.y)/\ix 2 (aA r)/\aX G/\B≠0/\qiq (dA F 3=0) (B≠0/\qiq (dA G 3=0) (B≠0/\aX (fe F 3)/\B≠0/\aX (fe G 3)/\fe F 3=A.x/\fe G 3=A.y/\1=A.den) (C.x+D.x+E.x=A.x/\C.y+D.y+E.y=A.y/\3=A.den)) (C.x+D.x+E.x=A.x/\C.y+D.y+E.y=A.y/\3=A.den)) (by
 change ROk r at hp;have v:∀i,i<aA r->bd 10000 (aI7 r i):=λi h=>hp.near _ (dh h);have l3:=hp.three;have v0:=v 0 aC;have v1:=v 1 aC;have v2:=v 2 aC;have m1:dA ((aI7 r 0).x+(aI7 r 1).x+(aI7 r 2).x) 3=0->dA ((aI7 r 0).y+(aI7 r 1).y+(aI7 r 2).y) 3=0->mF r=⟨fe ((aI7 r 0).x+(aI7 r 1).x+(aI7 r 2).x) 3,fe ((aI7 r 0).y+(aI7 r 1).y+(aI7 r 2).y) 3,1⟩:=λh1 h2=>if_pos ⟨h1,h2⟩;have m2:¬(dA ((aI7 r 0).x+(aI7 r 1).x+(aI7 r 2).x) 3=0/\dA ((aI7 r 0).y+(aI7 r 1).y+(aI7 r 2).y) 3=0)->mF r=⟨(aI7 r 0).x+(aI7 r 1).x+(aI7 r 2).x,(aI7 r 0).y+(aI7 r 1).y+(aI7 r 2).y,3⟩:=λh=>if_neg h;unfold bd at v0 v1 v2;have q1:=rr (x:=(aI7 r 0).x+(aI7 r 1).x+(aI7 r 2).x) (g:=3) (B:=4000000000) aC;have q2:=rr (x:=(aI7 r 0).y+(aI7 r 1).y+(aI7 r 2).y) (g:=3) (B:=4000000000) aC;have x0:ix 0 (aA r):=⟨aC,aC⟩;have x1:ix 1 (aA r):=⟨aC,aC⟩;have x2:ix 2 (aA r):=⟨aC,aC⟩;refine⟨x0,x1,bP aC,x2,bP aC,x0,x1,bP aC,x2,bP aC,bg,λh1=>⟨bg,λh2=>⟨bg,bP aC,bg,bP aC,?_⟩,λh2=> ?_⟩,λh1=> ?_⟩
 .grind
 .grind
 grind)
def Ua:=Ub.adk aGI
def aIc:Con:=con (ac (aL .V) (a1 aT)) (λ(r,p)=>[ROk r,-1000000<=p.x,p.x<=1000000,-1000000<=p.y,p.y<=1000000,0<=p.den,p.den<=100]) (λ(r,p)=> .bool (oi r p))
def aGG:aIc.Okz 174:=bI Ua (λ(r,p)=>[cnt 2 10 (aA r) (aY λi=>0<((aI7 r ((i+1) % (aA r))).x-(aI7 r i).x)*(p.y-(aI7 r i).y*p.den)-((aI7 r ((i+1) % (aA r))).y-(aI7 r i).y)*(p.x-(aI7 r i).x*p.den))]
  ) λ(r,p) hp=>bD ((0=(0:Int)/\(0:Nat)<=(aA r)/\aY (λi=>0<((aI7 r ((i+1) % (aA r))).x-(aI7 r i).x)*(p.y-(aI7 r i).y*p.den)-((aI7 r ((i+1) % (aA r))).y-(aI7 r i).y)*(p.x-(aI7 r i).x*p.den)) 0)/\
 (∀x:Nat,aO (x+1) λA=>aO (x:Int) λB=>aO (aI7 r x) λC=>aO (aI7 r (A % (aA r))) λE=>aO (aJa E C) λF=>aO (p.y-C.y*p.den) λG=>aO (p.x-C.x*p.den) λH=>x<=(aA r)/\aY (λi=>0<((aI7 r ((i+1) % (aA r))).x-(aI7 r i).x)*(p.y-(aI7 r i).y*p.den)-((aI7 r ((i+1) % (aA r))).y-(aI7 r i).y)*(p.x-(aI7 r i).x*p.den)) x->qiq (B<aA r) (ix B (aA r)/\aX (B+1)/\(aA r:Int)≠0/\ix ((A % (aA r):Nat):Int) (aA r)/\bd 1000000000 E/\bd 1000000000 C/\aX (C.y*p.den)/\aX G/\aX (F.x*G)/\aX (C.x*p.den)/\aX H/\aX (F.y*H)/\aX (F.x*G-F.y*H)/\qiq (F.x*G-F.y*H<=0) (aK=oi r p) (qnr B x (x+1<=(aA r)/\aY (λi=>0<((aI7 r ((i+1) % (aA r))).x-(aI7 r i).x)*(p.y-(aI7 r i).y*p.den)-((aI7 r ((i+1) % (aA r))).y-(aI7 r i).y)*(p.x-(aI7 r i).x*p.den)) A/\(aA r)-A<aA r-x))) (aE=oi r p))) (by
  change ROk r/\ -1000000<=p.x/\p.x<=1000000/\ -1000000<=p.y/\p.y<=1000000/\0<=p.den/\p.den<=100 at hp;obtain⟨hr,px1,px2,py1,py2,pd1,pd2⟩:=hp;have l3:=hr.three;have hl:=hr.len;have v:∀i,i<aA r->bd 10000 (aI7 r i):=λi h=>hr.near _ (dh h);have md:∀i:Nat,(i:Int)<aA r->(i+1) % (aA r)<aA r:=λi h=>cG _ aC;have x1:∀i:Nat,(i:Int)<aA r->ix (((i+1) % (aA r):Nat):Int) (aA r):=λi h=>fS (md i h);have b1:∀i:Nat,(i:Int)<aA r->bd 1000000000 (aI7 r i):=λi h=>(v i aC).mono;have b2:∀i:Nat,(i:Int)<aA r->bd 1000000000 (aI7 r ((i+1) % (aA r))):=λi h=>(v _ (md i h)).mono;have k:∀a:Int,-10000<=a/\a<=10000-> -1000000<=a*p.den/\a*p.den<=1000000:=λa h=>by have:=jE (x:=a) (y:=p.den) (A:=10000) (B:=100) ⟨h.1,h.2⟩ ⟨aC,aC⟩;omega
  have m:∀a b:Int,-20000<=a/\a<=20000-> -2000000<=b/\b<=2000000-> -40000000000<=a*b/\a*b<=40000000000:=λa b h1 h2=>by have:=jE (x:=a) (y:=b) (A:=20000) (B:=2000000) h1 h2;omega
  have w:∀i:Nat,(i:Int)<aA r->aX ((aI7 r i).y*p.den)/\aX (p.y-(aI7 r i).y*p.den)/\aX ((aJa (aI7 r ((i+1) % (aA r))) (aI7 r i)).x*(p.y-(aI7 r i).y*p.den))/\aX ((aI7 r i).x*p.den)/\aX (p.x-(aI7 r i).x*p.den)/\aX ((aJa (aI7 r ((i+1) % (aA r))) (aI7 r i)).y*(p.x-(aI7 r i).x*p.den))/\aX ((aJa (aI7 r ((i+1) % (aA r))) (aI7 r i)).x*(p.y-(aI7 r i).y*p.den)-(aJa (aI7 r ((i+1) % (aA r))) (aI7 r i)).y*(p.x-(aI7 r i).x*p.den)):=λi h=>by
   have h1:=v i aC;have h2:=v _ (md i h);unfold bd at h1 h2;have k1:=k _ (aC: -10000<=(aI7 r i).x/\(aI7 r i).x<=10000);have k2:=k _ (aC: -10000<=(aI7 r i).y/\(aI7 r i).y<=10000);have d1: -20000<=(aJa (aI7 r ((i+1) % (aA r))) (aI7 r i)).x/\(aJa (aI7 r ((i+1) % (aA r))) (aI7 r i)).x<=20000:=by unfold aJa;dsimp only;omega
   have d2: -20000<=(aJa (aI7 r ((i+1) % (aA r))) (aI7 r i)).y/\(aJa (aI7 r ((i+1) % (aA r))) (aI7 r i)).y<=20000:=by unfold aJa;dsimp only;omega
   have m1:=m _ (p.y-(aI7 r i).y*p.den) d1 aC;have m2:=m _ (p.x-(aI7 r i).x*p.den) d2 aC;exact⟨bP aC,bP aC,bP aC,bP aC,bP aC,bP aC,bP aC⟩
  have no:∀i:Nat,(i:Int)<aA r->(aJa (aI7 r ((i+1) % (aA r))) (aI7 r i)).x*(p.y-(aI7 r i).y*p.den)-(aJa (aI7 r ((i+1) % (aA r))) (aI7 r i)).y*(p.x-(aI7 r i).x*p.den)<=0->aK=oi r p:=λi h h2=>by rw[Tn l3];symm;refine vF.2 ⟨i,cP.2 aC,?_⟩;intro h3;have:=of_decide_eq_true h3;unfold aJa at h2;grind
  have yes:∀i:Nat,¬(i:Int)<aA r->i<=aA r->aY (λi=>0<((aI7 r ((i+1) % (aA r))).x-(aI7 r i).x)*(p.y-(aI7 r i).y*p.den)-((aI7 r ((i+1) % (aA r))).y-(aI7 r i).y)*(p.x-(aI7 r i).x*p.den)) i->aE=oi r p:=λi h h2 h3=>by rw[Tn l3];symm;refine cC.2 λj hj=>decide_eq_true (h3 j ?_);grind
  have nx:∀i:Nat,¬(aJa (aI7 r ((i+1) % (aA r))) (aI7 r i)).x*(p.y-(aI7 r i).y*p.den)-(aJa (aI7 r ((i+1) % (aA r))) (aI7 r i)).y*(p.x-(aI7 r i).x*p.den)<=0->0<((aI7 r ((i+1) % (aA r))).x-(aI7 r i).x)*(p.y-(aI7 r i).y*p.den)-((aI7 r ((i+1) % (aA r))).y-(aI7 r i).y)*(p.x-(aI7 r i).x*p.den):=λi h=>by unfold aJa at h;grind
  clear k m v md
  with_reducible ((repeat' first|apply cJ|intro);all_goals repeat cases‹_/\_›)
  all_goals first|rfl|with_reducible solve_by_elim|(with_reducible first|assumption|rfl|exact(w _ aJ).1|exact(w _ aJ).2.1|exact(w _ aJ).2.2.1|exact(w _ aJ).2.2.2.1|exact(w _ aJ).2.2.2.2.1|exact(w _ aJ).2.2.2.2.2.1|exact(w _ aJ).2.2.2.2.2.2)|exact cO aJ (nx _ aJ)|omega|grind)
def UY:=Ua.adk aGG
def aId:Con:=con (ac (aL .V) (a1 (aL .V))) (λ(a,b)=>[ROk a,ROk b]) (λ(a,b)=> .bool ((aW a).any λs=>eJ s b))
def aGH:aId.Okz 172:=bI UY (λ(a,b)=>[cnt 2 10 (aA (aW a)) (aY λi=>eJ (az (aW a) i) b=aK)]
  ) λ(a,b) hp=>bD (aO (aW a) λB=>aA a<=1000/\(0=(0:Int)/\(0:Nat)<=(aA B)/\aY (λi=>eJ (az B i) b=aK) 0)/\
 (∀x:Nat,aO (x:Int) λA=>aO (az B x) λC=>x<=(aA B)/\aY (λi=>eJ (az B i) b=aK) x->qiq (A<aA B) (ix A (aA B)/\x<(aA B)/\bd 10000 C.a/\bd 10000 C.b/\ROk b/\qbq (eJ C b) (aE=jT B (λs=>eJ s b)) (qnr A x (x+1<=(aA B)/\aY (λi=>eJ (az B i) b=aK) (x+1)/\(aA B)-(x+1)<aA B-x))) (aK=jT B (λs=>eJ s b)))) (by
  change ROk a/\ROk b at hp;obtain⟨ha,hb⟩:=hp;have la:=ha.three;have lb:=ha.len;have el:=Ox la;have e1:∀i:Nat,(i:Int)<aA (aW a)->bd 10000 (az (aW a) i).a/\bd 10000 (az (aW a) i).b:=λi h=>by rw[iV (aC:i<aA (aW a)),DJ la];exact⟨ha.near _ (dh aC),ha.near _ (dh (cG _ aC))⟩
  have yes:∀i:Nat,(i:Int)<aA (aW a)->eJ (az (aW a) i) b=aE->aE=jT (aW a) (λs=>eJ s b):=λi h h2=>
   (aEr (t:= .S) (l:=aW a) (q:=λs=>eJ s b) (j:=i) aC h2).symm
  have no:∀i:Nat,¬(i:Int)<aA (aW a)->i<=aA (aW a)->aY (λi=>eJ (az (aW a) i) b=aK) i->aK=jT (aW a) (λs=>eJ s b):=λi h h2 h3=>by obtain rfl:i=aA (aW a):=aC;exact(J5 (t:= .S) (l:=aW a) (q:=λs=>eJ s b) h3).symm
  with_reducible ((repeat' first|apply cJ|intro);all_goals repeat cases‹_/\_›)
  all_goals first|rfl|with_reducible solve_by_elim|(with_reducible first|assumption|rfl|exact(e1 _ aJ).1|exact(e1 _ aJ).2)|grind)
def UZ:=UY.adk aGH
def aIV:Con:=con (ac (aL .V) (a1 (aL .V))) (λ(a,b)=>[ROk a,ROk b]) (λ(a,b)=> .bool (gP a b)
 )
def aHp:aIV.Okz 110:=bI UZ ae λ(a,b) hp=>bD (aO (mF a) λA=>ROk a/\ROk b/\qbq (jT (aW a) (λs=>eJ s b)) (aE=gP a b) (ROk b/\ROk a/\qbq (jT (aW b) (λs=>eJ s a)) (aE=gP a b) (ROk a/\ROk b/\ -1000000<=A.x/\A.x<=1000000/\ -1000000<=A.y/\A.y<=1000000/\0<=A.den/\A.den<=100/\oi b A=gP a b))) (by change ROk a/\ROk b at hp;obtain⟨ha,hb⟩:=hp;have c:=aEe ha;have o:gP a b=((jT (aW a) λs=>eJ s b)||((jT (aW b) λs=>eJ s a)||oi b (mF a))):=rfl;grind)
def VK:=UZ.adk aHp
def aIX:Con:=con (ac aSh (a1 (aL .V))) (λ(s,r)=>[Fit s,ROk r,aA (ao s)<=1000000,(∀e∈ao s,bF e.a 10000=aE/\bF e.b 10000=aE)]) (λ(s,r)=> .bool (mq s r))
def aHr:aIX.Okz 118:=bI VK (λ(s,r)=>[cnt 2 10 (aA (ao s)) (aY λi=>eJ (az (ao s) i) r=aK)]
  ) λ(s,r) hp=>bD (aO (ao s) λB=>Fit s/\(0=(0:Int)/\(0:Nat)<=(aA B)/\aY (λi=>eJ (az B i) r=aK) 0)/\
 (∀x:Nat,aO (x:Int) λA=>aO (az B x) λC=>x<=(aA B)/\aY (λi=>eJ (az B i) r=aK) x->qiq (A<aA B) (ix A (aA B)/\bd 10000 C.a/\bd 10000 C.b/\ROk r/\qbq (eJ C r) (aK=mq s r) (qnr A x (x+1<=(aA B)/\aY (λi=>eJ (az B i) r=aK) (x+1)/\(aA B)-(x+1)<aA B-x))) (ROk r/\Fit s/\decide (fm s (mF r)=2)=mq s r))) (by
  change Fit s/\ROk r/\(aA (ao s))<=1000000/\((∀e∈ao s,bF e.a 10000=aE/\bF e.b 10000=aE))at hp;obtain⟨hf,hr,hl,he⟩:=hp;have e1:∀i:Nat,(i:Int)<aA (ao s)->bd 10000 (az (ao s) i).a:=λi h=>by rw[iV aC];exact s9 (he _ (jr _)).1
  have e2:∀i:Nat,(i:Int)<aA (ao s)->bd 10000 (az (ao s) i).b:=λi h=>by rw[iV aC];exact s9 (he _ (jr _)).2
  have t1:∀i:Nat,(i:Int)<aA (ao s)->eJ (az (ao s) i) r=aE->aK=mq s r:=λi h h2=>by unfold mq;rw[EL (t:= .S) (l:=ao s) (q:=λe=> !eJ e r) (j:=i) aC (by rw[show eJ (LT.S.nth (ao s) i) r=aE from h2];rfl)];rfl
  have t3:∀x:Nat,¬(x:Int)<aA (ao s)->x<=aA (ao s)->aY (λi=>eJ (az (ao s) i) r=aK) x->decide (fm s (mF r)=2)=mq s r:=λx h1 h2 h3=>by obtain rfl:x=aA (ao s):=aC;unfold mq;rw[Dw (t:= .S) (l:=ao s) (q:=λe=> !eJ e r) (λj hj=>by show(!eJ (az (ao s) j) r)=aE;rw[show eJ (az (ao s) j) r=aK from h3 j hj];rfl),jq,gR];unfold mF;simp
  clear he
  with_reducible ((repeat' first|apply cJ|intro);all_goals repeat cases‹_/\_›)
  all_goals first|rfl|with_reducible solve_by_elim|(with_reducible first|assumption|rfl)|grind)
def Kk:=VK.adk aHr
end
def tF(a b:V):V:=⟨kJ.wrap (a.x-b.x),kJ.wrap (a.y-b.y)⟩
def yD(a b:V):Int:=kJ.wrap (kJ.wrap (a.x*b.y)-kJ.wrap (a.y*b.x))
def v6(a b c:V):Int:=aJb (yD (tF b a) (tF c a)) 0
def Q2{a b:V}(ha:bd 1000000000 a)(hb:bd 1000000000 b):tF a b=aJa a b:=by unfold bd at ha hb;unfold tF aJa;rw[xL (bP aC),xL (bP aC)]
def aAI{a b:V}(ha:bd 2000000000 a)(hb:bd 2000000000 b):yD a b=cross a b:=by have:=pu ha hb;unfold yD cross;rw[xL (x:=a.x*b.y) (bP aC),xL (x:=a.y*b.x) (bP aC),xL (bP aC)]
def aA6{a b c:V}(ha:bd 1000000000 a)(hb:bd 1000000000 b)(hc:bd 1000000000 c):v6 a b c=turn a b c:=by
 have e:∀n,aJb n 0=sgn n:=λn=>by unfold aJb sgn;grind
 unfold v6;rw[Q2 hb ha,Q2 hc ha,aAI (j0 hb ha) (j0 hc ha),e];rfl
def aFQ:Con:=con (ac aV (a1 aV)) (λ(_,_)=>[True]) (λ(a,b)=>aV.enc (tF a b))
def aFE:aFQ.Okz 138:=yF (qO Kk.o) (raw:=λ_ _=>aE
 ) ae (λ(_,_)=>⟨_,rfl⟩) λ(a,b) hp=>bD (Bz kJ (a.x-b.x)=(tF a b).x/\Bz kJ (a.y-b.y)=(tF a b).y) (by
 change True at hp;exact⟨rfl,rfl⟩)
def TR:=Kk.adk aFE
def aFR:Con:=con (ac aV (a1 aV)) (λ(_,_)=>[True]) (λ(a,b)=> .iqz (yD a b))
def aFF:aFR.Okz 120:=yF (qO TR.o) (raw:=λ_ _=>aE
 ) ae (λ(_,_)=>⟨_,rfl⟩) λ(a,b) hp=>bD (Bz kJ (Bz kJ (a.x*b.y)-Bz kJ (a.y*b.x))=yD a b) (by
 change True at hp;rfl)
def TS:=TR.adk aFF
def aHF:Con:=con (ac aV (ac aV (a1 aV))) (λ(_,_,_)=>[True]) (λ(a,b,c)=> .iqz (v6 a b c)
 )
def aF9:aHF.Okz 64:=bI TS ae λ(a,b,c) hp=>bD (True/\True/\True/\aJb (yD (tF b a) (tF c a)) 0=v6 a b c) (by change True at hp;exact⟨trivial,trivial,trivial,rfl⟩)
def aF0:=TS.adk aF9
def cvZ(r:aU)(i n:Nat):Bool:=decide (n=i)||(decide (n=(i+1) % (aA r))||decide (0<v6 (aI7 r i) (aI7 r ((i+1) % (aA r))) (aI7 r n)))
def cvR(r:aU)(i:Nat):Bool:=(bT (aA r)).all (cvZ r i)&&bF (aI7 r i) 2000
def cvN(r:aU)(i n:Nat):Bool:=decide (n=i)||(decide (n=(i+1) % (aA r))||decide (0<turn (aI7 r i) (aI7 r ((i+1) % (aA r))) (aI7 r n)))
def aAc{r:aU}:(r.all λv=>bF v 2000)=(bT (aA r)).all λi=>bF (aI7 r i) 2000:=by
 rw[gR,cC,cC];constructor
 .intro h i hi;exact h _ (dh (cP.1 hi))
 .intro h v hv;obtain⟨i,hi,rfl⟩:=fC.1 hv;grind
def JM(r:aU):c8 r=(decide (3<=aA r)&&(((bT (aA r)).all λi=>bF (aI7 r i) 2000)&&(bT (aA r)).all λi=>(bT (aA r)).all (cvN r i))):=by
 have e:(λi=>(bT (aA r)).all λn=>decide (n=i)||decide (n=(i+1) % (aA r))||decide (0<turn (aI7 r i) (nxt r i) (aI7 r n)))=λi=>(bT (aA r)).all (cvN r i):=by
  funext i;congr 1;funext n;exact Bool.or_assoc ..
 unfold c8;rw[aAc,e]
def xM{v:V}(h:bF v 2000=aE):bd 10000 v:=by unfold bF at h;simp only[cD,decide_eq_true_eq]at h;unfold bd;omega
def Ae(r:aU):c8 r=(decide (3<=aA r)&&(bT (aA r)).all (cvR r)):=by
 rw[JM]
 congr 1
 have key:((bT (aA r)).all λi=>bF (aI7 r i) 2000)=aE->∀i n,i<aA r->n<aA r->cvZ r i n=cvN r i n:=λh i n hi hn=>by have h:=cC.1 h;have b:∀i,i<aA r->bd 1000000000 (aI7 r i):=λi hi=>(xM (h i (cP.2 hi))).mono;unfold cvZ cvN;rw[aA6 (b _ hi) (b _ (cG _ aC)) (b _ hn)]
 rw[gR];constructor
 .intro h;rw[cD]at h;refine cC.2 λi hi=> ?_;unfold cvR;grind
 .intro h;have h:=cC.1 h;have h1:((bT (aA r)).all λi=>bF (aI7 r i) 2000)=aE:=cC.2 λi hi=>by have:=h i hi;unfold cvR at this;grind
  rw[cD];refine⟨h1,cC.2 λi hi=>cC.2 λn hn=> ?_⟩;rw[<-key h1 i n (cP.1 hi) (cP.1 hn)];have:=h i hi;unfold cvR at this;grind
def D7{r:aU}(h:c8 r=aE)(hl:aA r<=1000):ROk r:=by have:=CR.of h;exact⟨this.len,hl,λv hv=>xM (this.near v hv)⟩
def AA{q:Nat->Bool}{n:Nat}(h:aY (λj=>q j=aE) n):(bT n).all q=aE:=cC.2 λi hi=>h i (cP.1 hi)
def xx{q:Nat->Bool}{n i:Nat}(hi:i<n)(h:q i=aK):(bT n).all q=aK:=vF.2 ⟨i,cP.2 hi,by rw[h];simp⟩
def aIY:Con:=con (a1 (aL .V)) (λr=>[aA r<=1000]) (λr=> .bool (c8 r))
def aHs:aIY.Okz 109:=bI aF0 (λr=>[lp 2 10 (aA r) (λi=>[aY (λi=>cvR r i=aE) i]) [] ae ae λi=>[cnt 6 25 (aA r) (aY λn=>cvZ r i n=aE) λn=>[jb 9 48 (!cvZ r i n)]]]
  ) λr hp=>bD (aO (0:Int) λC=>aO (aA r:Int) λG=>(0=C/\(0:Nat)<=(aA r)/\aY (λi=>cvR r i=aE) 0)/\
 (∀x:Nat,aO (x+1) λA=>aO (x:Int) λB=>aO (aI7 r x) λE=>aO ((A % (aA r):Nat):Int) λI=>aO (!bF E 2000) λJ=>x<=(aA r)/\aY (λi=>cvR r i=aE) x->qiq (B<aA r) (ix B (aA r)/\aX (B+1)/\G≠0/\ix I (aA r)/\(0=C/\(0:Nat)<=(aA r)/\aY (λn=>cvZ r x n=aE) 0)/\
   (∀x_1:Nat,aO (x_1:Int) λD=>aO (!cvZ r x x_1) λF=>x_1<=(aA r)/\aY (λn=>cvZ r x n=aE) x_1->qiq (D<aA r) (ix D (aA r)/\(qiq (¬D=x) (aX (B+1)/\G≠0/\qiq (¬D=I) (True/\decide (v6 E (aI7 r (A % (aA r))) (aI7 r x_1)<=0)=F) (aK=F)) (aK=F))/\
     (∀y:Unit,qbq F (aK=c8 r) (qnr D x_1 (x_1+1<=(aA r)/\aY (λn=>cvZ r x n=aE) (x_1+1)/\(aA r)-(x_1+1)<aA r-x_1)))) (C<=2000/\(2000:Int)<=9000000000000000000/\qbq J (aK=c8 r) (qnr B x (x+1<=(aA r)/\aY (λi=>cvR r i=aE) A/\(aA r)-A<aA r-x))))) (decide (3<=G)=c8 r))) (by
  change (aA r)<=1000 at hp;have x1:∀x:Nat,(x:Int)<aA r->ix (((x+1) % (aA r):Nat):Int) (aA r):=λx h=>fS (cG _ aC);have z1:∀x y:Nat,¬(y:Int)=x->¬(y:Int)=(((x+1) % (aA r):Nat):Int)->decide (v6 (aI7 r x) (aI7 r ((x+1) % (aA r))) (aI7 r y)<=0)=(!cvZ r x y):=λx y h1 h2=>by unfold cvZ;rw[decide_eq_false (aC:¬y=x),decide_eq_false (aC:¬y=(x+1) % (aA r)),zJ,zJ,<-decide_not];grind
  have z2:∀x y:Nat,¬¬(y:Int)=(((x+1) % (aA r):Nat):Int)->aK=(!cvZ r x y):=λx y h=>by unfold cvZ;grind
  have z3:∀x y:Nat,¬¬(y:Int)=x->aK=(!cvZ r x y):=λx y h=>by unfold cvZ;grind
  have no:∀x y:Nat,(!cvZ r x y)=aE->(x:Int)<aA r->(y:Int)<aA r->aK=c8 r:=λx y h3 h1 h2=>by rw[Ae,xx (i:=x) aC (by unfold cvR;rw[xx (i:=y) aC (nb' h3)];rfl)];simp
  have no2:∀x:Nat,(!bF (aI7 r x) 2000)=aE->(x:Int)<aA r->aK=c8 r:=λx h3 h1=>by rw[Ae,xx (i:=x) aC (by unfold cvR;grind)];simp
  have st:∀x y:Nat,aY (λn=>cvZ r x n=aE) y->¬(y:Int)<aA r->y<=aA r->(!bF (aI7 r x) 2000)=aK->cvR r x=aE:=λx y h3 h1 h2 h4=>by obtain rfl:y=aA r:=aC;unfold cvR;rw[AA h3,nb h4];rfl
  have fin:∀x:Nat,¬(x:Int)<aA r->x<=aA r->aY (λi=>cvR r i=aE) x->decide (3<=(aA r:Int))=c8 r:=λx h1 h2 h3=>by obtain rfl:x=aA r:=aC;rw[Ae,AA h3,Bool.and_true];exact decide_eq_decide.2 aC
  with_reducible ((repeat' first|apply cJ|intro);all_goals repeat cases‹_/\_›)
  all_goals first|rfl|with_reducible solve_by_elim|(with_reducible first|assumption|rfl)|exact cO aJ (nb aJ)|exact cO aJ (st _ _ aJ aJ aJ aJ)|grind)
def tE:=(Kk.adk Ve).adk aHs
def aIT:Con:=con (a1 (aL .V)) (λr=>[aA r<=1000]) (λr=> .bool (c8 r))
def aHn:aIT.Okz 108:=bI tE (λr=>[cnt 4 3 (aA r) (aY λi=>bF (aI7 r i) 2000=aE),lp 9 4 (aA r) (λi=>[aY (λi=>(bT (aA r)).all (cvN r i)=aE) i]) [] ae ae λi=>[cnt 13 6 (aA r) (aY λn=>cvN r i n=aE) λn=>[jb 16 62 (!cvN r i n)]]]
 ) λr hp=>bD (aO (0:Int) λC=>aO (0:Nat) λD=>aO (aA r:Int) λJ=>aO (bT (aA r)) λM=>qiq (J<3) (aK=c8 r) ((0=C/\D<=(aA r)/\aY (λi=>bF (aI7 r i) 2000=aE) 0)/\
 (∀x:Nat,aO (x:Int) λB=>aO (!bF (aI7 r x) 2000) λO=>x<=(aA r)/\aY (λi=>bF (aI7 r i) 2000=aE) x->qiq (B<aA r) (ix B (aA r)/\C<=2000/\(2000:Int)<=1000000000000/\qbq O (aK=c8 r) (qnr B x (x+1<=(aA r)/\aY (λi=>bF (aI7 r i) 2000=aE) (x+1)/\(aA r)-(x+1)<aA r-x))) ((0=C/\D<=(aA r)/\aY (λi=>od M (cvN r i)=aE) 0)/\
   (∀x_1:Nat,aO (x_1+1) λA=>aO (x_1:Int) λF=>aO (aI7 r x_1) λG=>aO ((A % (aA r):Nat):Int) λL=>aO (aI7 r (A % (aA r))) λN=>x_1<=(aA r)/\aY (λi=>od M (cvN r i)=aE) x_1->qiq (F<aA r) (aX (F+1)/\J≠0/\(0=C/\D<=(aA r)/\aY (λn=>cvN r x_1 n=aE) 0)/\
     (∀x_2:Nat,aO (x_2:Int) λE=>aO (aI7 r x_2) λH=>aO (!cvN r x_1 x_2) λI=>x_2<=(aA r)/\aY (λn=>cvN r x_1 n=aE) x_2->qiq (E<aA r) ((qiq (¬E=x_1) (qiq (¬E=L) (ix F (aA r)/\ix L (aA r)/\ix E (aA r)/\bd 1000000000 G/\bd 1000000000 N/\bd 1000000000 H/\decide (turn G N H<=0)=I) (aK=I)) (aK=I))/\
       (∀y:Unit,qbq I (aK=c8 r) (qnr E x_2 (x_2+1<=(aA r)/\aY (λn=>cvN r x_1 n=aE) (x_2+1)/\(aA r)-(x_2+1)<aA r-x_2)))) (qnr F x_1 (x_1+1<=(aA r)/\aY (λi=>od M (cvN r i)=aE) A/\(aA r)-A<aA r-x_1)))) (aE=c8 r)))))) (by
 change (aA r)<=1000 at hp;have x1:∀x:Nat,(x:Int)<aA r->ix (((x+1) % (aA r):Nat):Int) (aA r):=λx h=>fS (cG _ aC);have c0:(aA r:Int)<3->aK=c8 r:=λh=>by rw[Ae,decide_eq_false aC];rfl
 have n1:∀x:Nat,(!bF (aI7 r x) 2000)=aE->(x:Int)<aA r->aK=c8 r:=λx h3 h1=>by rw[Ae,xx (i:=x) aC (by unfold cvR;grind)];simp
 have b1:∀x y:Nat,aY (λi=>bF (aI7 r i) 2000=aE) x->¬(x:Int)<aA r->x<=aA r->(y:Int)<aA r->bd 1000000000 (aI7 r y):=λx y h3 h1 h2 h4=>(xM (h3 y aC)).mono;have b2:∀x y:Nat,aY (λi=>bF (aI7 r i) 2000=aE) x->¬(x:Int)<aA r->x<=aA r->(y:Int)<aA r->bd 1000000000 (aI7 r ((y+1) % (aA r))):=λx y h3 h1 h2 h4=>(xM (h3 _ (by have:=cG (y+1) (aC:0<aA r);omega))).mono;have z1:∀x y:Nat,¬(y:Int)=x->¬(y:Int)=(((x+1) % (aA r):Nat):Int)->decide (turn (aI7 r x) (aI7 r ((x+1) % (aA r))) (aI7 r y)<=0)=(!cvN r x y):=λx y h1 h2=>by unfold cvN;rw[decide_eq_false (aC:¬y=x),decide_eq_false (aC:¬y=(x+1) % (aA r)),zJ,zJ,<-decide_not];grind
 have z2:∀x y:Nat,¬¬(y:Int)=(((x+1) % (aA r):Nat):Int)->aK=(!cvN r x y):=λx y h=>by unfold cvN;grind
 have z3:∀x y:Nat,¬¬(y:Int)=x->aK=(!cvN r x y):=λx y h=>by unfold cvN;grind
 have no:∀x y:Nat,(!cvN r x y)=aE->(x:Int)<aA r->(y:Int)<aA r->aK=c8 r:=λx y h3 h1 h2=>by rw[JM,xx (q:=λi=>(bT (aA r)).all (cvN r i)) (i:=x) aC (xx (i:=y) aC (nb' h3))];simp
 have st:∀x y:Nat,aY (λn=>cvN r x n=aE) y->¬(y:Int)<aA r->y<=aA r->od (bT (aA r)) (cvN r x)=aE:=λx y h3 h1 h2=>by obtain rfl:y=aA r:=aC;exact AA h3
 have fin:∀x y:Nat,¬(aA r:Int)<3->aY (λi=>bF (aI7 r i) 2000=aE) x->¬(x:Int)<aA r->x<=aA r->aY (λi=>od (bT (aA r)) (cvN r i)=aE) y->¬(y:Int)<aA r->y<=aA r->aE=c8 r:=λx y h0 h3 h1 h2 h6 h4 h5=>by obtain rfl:x=aA r:=aC;obtain rfl:y=aA r:=aC;rw[JM,AA (q:=λi=>bF (aI7 r i) 2000) h3,AA (q:=λi=>od (bT (aA r)) (cvN r i)) h6,decide_eq_true aC];rfl
 with_reducible ((repeat' first|apply cJ|intro);all_goals repeat cases‹_/\_›)
 all_goals first|rfl|with_reducible solve_by_elim|(with_reducible first|assumption|rfl)|exact cO aJ (nb aJ)|exact cO aJ (st _ _ aJ aJ aJ)|grind)
def VI:=tE.adk aHn
def fgn(v:List V)(p:V):Bool:= !v.any λu=>decide (p=u)
def c82:Con:=con (ac (aL .V) (a1 aV)) (λ(l,_)=>[aA l<=1000000]) (λ(l,v)=> .bool (l.any λu=>decide (v=u))
 )
def k82:c82.Okz 81:=bI VI ae λ(l,v) hp=>bD (aA l<=1000000/\decide (0<=fI (λu=>decide (v=u)) l)=jT l (λu=>decide (v=u))) (by change (aA l)<=1000000 at hp;exact⟨hp,yC _ _⟩)
def t82:=VI.adk k82
def aIZ:Con:=con (ac aV (a1 aPR)) (λ(_,l)=>[aA l<=1000000]) (λ(v,l)=> .bool (fgn l v)
 )
def aHt:aIZ.Okz 117:=bI t82 ae λ(v,l) hp=>bD (aA l<=1000000/\(!jT l (λu=>decide (v=u)))=fgn l v) (by change (aA l)<=1000000 at hp;exact⟨hp,rfl⟩)
def VM:=t82.adk aHt
def Tx:Ar (aU×Unit):=aCl 117 (ac aPR a0)
def Tw:Ar (aU×Unit):=aCl 119 (ac aPR a0)
def aFO:Con:=con (ac (aL .V) (a1 Tx)) (λ(l,c)=>[aA l<=1000000,aA c.1<=1000000]) (λ(l,c)=> .iqz (fI (fgn c.1) l))
def aFC:aFO.Okz 156:=bI VM (λ(l,c)=>[cnt 2 8 (aA l) (aY λj=>fgn c.1 (aI7 l j)=aK)]
  ) λ(l,c) hp=>bD ((0=(0:Int)/\(0:Nat)<=(aA l)/\aY (λj=>fgn c.1 (aI7 l j)=aK) 0)/\
 (∀x:Nat,aO (x:Int) λA=>x<=(aA l)/\aY (λj=>fgn c.1 (aI7 l j)=aK) x->qiq (A<aA l) (ix A (aA l)/\(aA c.1)<=1000000/\qbq (fgn c.1 (aI7 l x)) (A=fI (fgn c.1) l) (qnr A x (x+1<=(aA l)/\aY (λj=>fgn c.1 (aI7 l j)=aK) (x+1)/\(aA l)-(x+1)<aA l-x))) (-1=fI (fgn c.1) l))) (by
  change (aA l)<=1000000/\(aA c.1)<=1000000 at hp
  with_reducible ((repeat' first|apply cJ|intro);all_goals repeat cases‹_/\_›)
  all_goals first|rfl|exact s8 (t:= .V) aC aJ aJ|(obtain rfl:_=aA l:=w7 aJ aC;exact vq (t:= .V) aJ)|grind)
def TP:=VM.adk aFC
def aHE:Con:=con (ac (aL .V) (a1 Tx)) (λ(l,c)=>[aA l<=1000000,aA c.1<=1000000]) (λ(l,c)=> .bool (l.any (fgn c.1))
 )
def aF8:aHE.Okz 83:=bI TP ae λ(l,c) hp=>bD (aA l<=1000000/\(aA c.fst)<=1000000/\decide (0<=fI (fgn c.fst) l)=jT l (fgn c.1)) (by change (aA l)<=1000000/\(aA c.1)<=1000000 at hp;exact⟨hp.1,hp.2,yC _ _⟩)
def T4:=TP.adk aF8
def aIW:Con:=con (ac (aL .V) (a1 aPR)) (λ(o,r)=>[ROk r,ROk o]) (λ(o,r)=> .bool (gP r o)
 )
def aHq:aIW.Okz 119:=bI T4 ae λ(o,r) hp=>bD (ROk r/\ROk o/\gP r o=gP r o) (by change ROk r/\ROk o at hp;grind)
def VL:=T4.adk aHq
def aIm:Con:=con (ac (aL .R) (a1 Tw)) (λ(l,c)=>[aA l<=1000000,ROk c.1,(∀o∈l,ROk o)]) (λ(l,c)=> .iqz (fI (gP c.1) l))
def aGP:aIm.Okz 158:=bI VL (λ(l,c)=>[cnt 2 8 (aA l) (aY λj=>gP c.1 (aP l j)=aK)]
  ) λ(l,c) hp=>bD (aO (gP c.1) λC=>(0=(0:Int)/\(0:Nat)<=(aA l)/\aY (λj=>gP c.1 (aP l j)=aK) 0)/\
 (∀x:Nat,aO (x:Int) λA=>aO (aP l x) λB=>x<=(aA l)/\aY (λj=>gP c.1 (aP l j)=aK) x->qiq (A<aA l) (ix A (aA l)/\ROk c.1/\ROk B/\qbq (gP c.1 B) (A=fI C l) (qnr A x (x+1<=(aA l)/\aY (λj=>gP c.1 (aP l j)=aK) (x+1)/\(aA l)-(x+1)<aA l-x))) (-1=fI C l))) (by
  change (aA l)<=1000000/\ROk c.1/\((∀o∈l,ROk o))at hp;have hm:∀x:Nat,(x:Int)<aA l->ROk (aP l x):=λx h=>hp.2.2 _ (iU aC)
  with_reducible ((repeat' first|apply cJ|intro);all_goals repeat cases‹_/\_›)
  all_goals first|rfl|exact hm _ aJ|exact s8 (t:= .R) aC aJ aJ|(obtain rfl:_=aA l:=w7 aJ aC;exact vq (t:= .R) aJ)|grind)
def Ui:=VL.adk aGP
def c86:Con:=con (ac (aL .R) (a1 Tw)) (λ(l,c)=>[aA l<=1000000,ROk c.1,(∀o∈l,ROk o)]) (λ(l,c)=> .bool (l.any (gP c.1))
 )
def k86:c86.Okz 85:=bI Ui ae λ(l,c) hp=>bD (aA l<=1000000/\ROk c.fst/\(∀o:aU,o∈l->ROk o)/\decide (0<=fI (gP c.fst) l)=jT l (gP c.1)) (by change (aA l)<=1000000/\ROk c.1/\((∀o∈l,ROk o))at hp;exact⟨hp.1,hp.2.1,hp.2.2,yC _ _⟩)
def t86:=Ui.adk k86
def Hn{s:Shape}(h:VS s):∀e∈ao s,bF e.a 10000=aE/\bF e.b 10000=aE:=by intro e he;unfold ao at he;obtain⟨r,hr,her⟩:=dL.1 he;exact aA5 (h.ring hr) her
def ccA(s:Shape)(r:aU):Bool:=(!c8 r||(r.any (fgn (vOf s))|| !mq s r))
def ccB(l:List aU)(i:Nat):Bool:=(l.take i).any (gP (aP l i))
def cc(s:Shape)(l:List aU)(i:Nat):Prop:=ccA s (aP l i)=aK/\ccB l i=aK
def arS(l:List aU)(k:Nat):Int:=((l.take k).map area).sum
def fz(s:Shape)(l:List aU):Bool:=bL s&&((bT (aA l)).all λi=> !ccA s (aP l i)&& !ccB l i)&&decide (arS l (aA l)=jZ s)
def Ie{l:List aU}{x:Nat}(h:x<aA l):arS l x+area (aP l x)=arS l (x+1):=by unfold arS;rw[lC aC,dV,nM,jz aC];simp
def AM{s:Shape}{r:aU}(h:ccA s r=aK):c8 r=aE:=by unfold ccA at h;grind
def Hf{r:aU}(h:c8 r=aE):near r=aE:=by have:=(CR.of h).near;unfold near;grind
def J4{l:List aU}(hl:∀x:Nat,x<aA l->aA (aP l x)<=1000):∀x:Nat,x<=aA l->(∀j,j<x->near (aP l j)=aE)-> -(40000000000*(x:Int))<=arS l x/\arS l x<=40000000000*(x:Int)
 |0,_,_=>by unfold arS;simp
 |x+1,h,hn=>by
  have h1:=J4 hl x aC λj hj=>hn j aC;have h2:=wJ (hn x aC) (aA (aP l x)) (bR _);have h3:=hl x aC;have e:ar (aP l x) (aA (aP l x))=area (aP l x):=rfl;rw[<-Ie (aC:x<aA l)];omega
def c43:Con:=con (ac aSh (a1 (aL .R))) (λ(s,l)=>[Fit s,aA l<=1000,(∀r∈l,aA r<=1000)]) (λ(s,l)=> .bool (fz s l))
def k43:c43.Okz 53:=bI t86 (λ(s,l)=>[lp 6 22 (aA l) (λk=>[aY (cc s l) k]) [] (λk=>[(7,.iqz (arS l k))]) ae λk=>[jb 10 41 (ccA s (aP l k)),lp 14 49 (aA (aP l k)) ae [] (λj=>[(7,.iqz (arS l k+ar (aP l k) j))]) ae]]
 ) λ(s,l) hp=>bD (aO (cc s l) λA=>Fit s/\qiq (¬eOf s=0) (aK=fz s l) ((0=(0:Int)/\0=arS l 0/\(0:Nat)<=(aA l)/\aY A 0)/\
 (∀x:Nat,aO (x:Int) λB=>aO (aP l x) λE=>aO (ak x l) λH=>aO (gP E) λJ=>x<=(aA l)/\aY A x->qiq (B<aA l) (ix B (aA l)/\(aA E<=1000/\qbq (!c8 E) (aE=ccA s E) (aA E<=1000000/\(aA (vOf s))<=1000000/\qbq (jT E (fgn (vOf s))) (aE=ccA s E) (Fit s/\ROk E/\(aA (ao s))<=1000000/\(∀e:aI9,e∈ao s->bF e.a 10000=aE/\bF e.b 10000=aE)/\(!mq s E)=ccA s E)))/\
   (∀y:Unit,qbq (ccA s E) (aK=fz s l) ((0<=B/\B<=aA l)/\(aA H)<=1000000/\ROk E/\(∀o:aU,o∈ak x l->ROk o)/\qbq (jT H J) (aK=fz s l) ((0=(0:Int)/\arS l x=arS l x+ar E 0/\(0:Nat)<=aA E)/\
     (∀x_1:Nat,aO (x_1+1) λC=>aO (x_1:Int) λD=>aO (aI7 E (C % (aA E))) λG=>aO (aI7 E x_1) λI=>x_1<=aA E->qiq (D<aA E) (ix D (aA E)/\aX (D+1)/\(aA E:Int)≠0/\ix ((C % (aA E):Nat):Int) (aA E)/\cOK I G/\aX (arS l x+ar E x_1+cross I G)/\qnr D x_1 (arS l x+ar E x_1+cross I G=arS l x+ar E C/\x_1+1<=(aA E)/\(aA E)-C<aA E-x_1)) (qnr B x (arS l x+ar E x_1=arS l (x+1)/\x+1<=(aA l)/\aY A (x+1)/\(aA l)-(x+1)<aA l-x))))))) (Fit s/\decide (arS l x=(if bL s=aE then jZ s else 0))=fz s l)))) (by
 change Fit s/\(aA l)<=1000/\((∀r∈l,aA r<=1000))at hp;obtain⟨hf,hl,hr⟩:=hp;have R:¬¬eOf s=0->aj s=aE:=λh=>uO h;have hvP:¬¬eOf s=0->bL s=aE:=λh=>by rw[jv];exact R h
 have V:¬¬eOf s=0->VS s:=λh=>vsR (R h);have hv:=mv s;have hvl:aA (vOf s)<=1000000:=aC;have he:¬¬eOf s=0->aA (ao s)<=1000000:=λh=>by have:=F9 (V h);omega
 have hw:¬¬eOf s=0->∀e∈ao s,bF e.a 10000=aE/\bF e.b 10000=aE:=λh=>Hn (V h);have hr:∀x:Nat,(x:Int)<aA l->aA (aP l x)<=1000:=λx h=>hr _ (iU aC);have hr6:∀x:Nat,(x:Int)<aA l->aA (aP l x)<=1000000:=λx h=>aH;have c0:¬eOf s=0->aK=fz s l:=λh=>by
  unfold fz;rw[jv];cases e:aj s with
  |false=>rfl
  |true=>exact absurd (by unfold eOf;rw[e];rfl) h
 have a1:∀x:Nat,(!c8 (aP l x))=aE->aE=ccA s (aP l x):=λx h=>by unfold ccA;rw[h];rfl
 have a3:∀x:Nat,jT (aP l x) (fgn (vOf s))=aE->aE=ccA s (aP l x):=λx h=>by unfold ccA;rw[h];simp
 have a4:∀x:Nat,(!c8 (aP l x))=aK->jT (aP l x) (fgn (vOf s))=aK->(!mq s (aP l x))=ccA s (aP l x):=λx h2 h3=>by unfold ccA;grind
 have tO:∀x:Nat,(!c8 (aP l x))=aK->(x:Int)<aA l->ROk (aP l x):=λx h h2=>D7 (nb h) (hr x h2);have tO2:∀x:Nat,ccA s (aP l x)=aK->(x:Int)<aA l->ROk (aP l x):=λx h h2=>D7 (AM h) (hr x h2);have tO3:∀x:Nat,x<=aA l->aY (cc s l) x->∀o∈ak x l,ROk o:=λx hx h o ho=>by obtain⟨j,hj,rfl⟩:=jQ ho;rw[mK]at hj;rw[FI,<-jz aC];exact tO2 j (h j aC).1 aC
 have tl:∀x:Nat,aA (ak x l)<=1000000:=λx=>by rw[mK];omega
 have no:∀x:Nat,(ccA s (aP l x)=aE\/jT (ak x l) (gP (aP l x))=aE)->(x:Int)<aA l->aK=fz s l:=λx h2 h=>by
  unfold fz;rw[show((bT (aA l)).all λi=> !ccA s (aP l i)&& !ccB l i)=aK from vF.2 ⟨x,cP.2 aC,by
   rcases h2 with h2|h2
   .rw[h2];simp
   .rw[show ccB l x=aE from h2];simp⟩]
  simp
 have nr:∀x:Nat,ccA s (aP l x)=aK->near (aP l x)=aE:=λx h=>Hf (AM h);have b0:∀x i:Nat,ccA s (aP l x)=aK->(i:Int)<aA (aP l x)->cOK (aI7 (aP l x) i) (aI7 (aP l x) ((i+1) % (aA (aP l x)))):=λx i h h2=>by have h0:=o4 (nr x h) (i:=i) aC (M:=2000000000);have h1:=o4 (nr x h) (i:=(i+1) % (aA (aP l x))) (cG _ aC) (M:=2000000000);have:=pu h0 h1;unfold cOK;omega
 have x1:∀x i:Nat,(i:Int)<aA (aP l x)->ix (((i+1) % (aA (aP l x)):Nat):Int) (aA (aP l x)):=λx i h=>fS (cG _ aC);have bS:∀x:Nat,aY (cc s l) x->x<=aA l-> -(40000000000*(x:Int))<=arS l x/\arS l x<=40000000000*(x:Int):=λx h hx=>J4 (λy hy=>hr y aC) x hx λj hj=>nr j (h j hj).1;have sS:∀x i:Nat,arS l x+ar (aP l x) i+cross (aI7 (aP l x) i) (aI7 (aP l x) ((i+1) % (aA (aP l x))))=arS l x+ar (aP l x) (i+1):=λx i=>by rw[Dv];omega
 have wS:∀x i:Nat,aY (cc s l) x->x<=aA l->ccA s (aP l x)=aK->(x:Int)<aA l->(i:Int)<aA (aP l x)->aX (arS l x+ar (aP l x) i+cross (aI7 (aP l x) i) (aI7 (aP l x) ((i+1) % (aA (aP l x))))):=λx i h hx h2 h3 h4=>by rw[sS];have h5:=bS x h hx;have h6:=wJ (nr x h2) (i+1) aC;have h7:=hr x h3;exact bP aC
 have w1:∀x i:Nat,(i:Int)<aA (aP l x)->(x:Int)<aA l->aX ((i:Int)+1):=λx i h h2=>bP aH;have z0:arS l 0=0:=rfl;have z1:∀x,ar (aP l x) 0=0:=λx=>rfl;have z2:∀x,arS l x=arS l x+ar (aP l x) 0:=λx=>aH;have sE:∀x i:Nat,(x:Int)<aA l->¬(i:Int)<aA (aP l x)->i<=aA (aP l x)->arS l x+ar (aP l x) i=arS l (x+1):=λx i h h2 h3=>by obtain rfl:i=aA (aP l x):=aC;rw[<-Ie (aC:x<aA l)];rfl
 have st:∀x:Nat,aY (cc s l) x->ccA s (aP l x)=aK->jT (ak x l) (gP (aP l x))=aK->aY (cc s l) (x+1):=λx h h1 h2=>cO h ⟨h1,h2⟩;have yE:¬¬eOf s=0->∀x:Nat,aY (cc s l) x->¬(x:Int)<aA l->x<=aA l->decide (arS l x=(if bL s=aE then jZ s else 0))=fz s l:=λh x h3 h1 h2=>by
  obtain rfl:x=aA l:=aC;unfold fz;rw[if_pos (hvP h),hvP h,show((bT (aA l)).all λi=> !ccA s (aP l i)&& !ccB l i)=aE from cC.2 λi hi=>by obtain⟨g1,g2⟩:=h3 i (cP.1 hi);grind]
  simp
 clear V nr bS hvP R
 repeat' first|with_reducible apply cJ|with_reducible intro
 all_goals repeat with_reducible cases‹_/\aY _ _›
 all_goals first|rfl|with_reducible solve_by_elim|with_reducible rfl|(with_reducible exact c0 aJ)|(with_reducible exact he aJ)|(with_reducible exact(hw aJ _ aJ).1)|(with_reducible exact(hw aJ _ aJ).2)|(with_reducible exact hr _ aJ)|(with_reducible exact hr6 _ aJ)|(with_reducible exact a1 _ aJ)|(with_reducible exact a3 _ aJ)|(with_reducible exact a4 _ aJ aJ)|(with_reducible exact tO _ aJ aJ)|(with_reducible exact tO2 _ aJ aJ)|(with_reducible exact tO3 _ aJ aJ _ aJ)|(with_reducible exact tl _)|(with_reducible exact no _ (.inl aJ) aJ)|(with_reducible exact no _ (.inr aJ) aJ)|(with_reducible first|exact sS _ _|exact z2 _)|exact z0.symm|(with_reducible exact yE aJ _ aJ aJ aJ)|grind)
def t43:=t86.adk k43
def mmC(r o:aU):Bool:=c8 r&&(c8 o&&gP r o)
def mmR(a b:List aU)(i:Nat):Bool:=b.any λo=>mmC (aP a i) o
def c46:Con:=con (ac (aL .R) (a1 (aL .R))) (λ(a,b)=>[aA a<=1000000,(∀r∈a,aA r<=1000),aA b<=1000000,(∀r∈b,aA r<=1000)]) (λ(a,b)=> .bool (aJg a b))
def k46:c46.Okz 46:=bI t43 (λ(a,b)=>[lp 2 11 (aA a) (λi=>[aY (λi=>mmR a b i=aK) i]) [] ae ae λi=>[cnt 5 17 (aA b) (aY λk=>mmC (aP a i) (aP b k)=aK) λk=>[jb 8 31 (mmC (aP a i) (aP b k))]]]
  ) λ(a,b) hp=>bD ((0=(0:Int)/\(0:Nat)<=(aA a)/\aY (λi=>mmR a b i=aK) 0)/\
 (∀x:Nat,aO (x:Int) λA=>aO (aP a x) λC=>x<=(aA a)/\aY (λi=>mmR a b i=aK) x->qiq (A<aA a) (ix A (aA a)/\(0=(0:Int)/\(0:Nat)<=(aA b)/\aY (λk=>mmC C (aP b k)=aK) 0)/\
   (∀x_1:Nat,aO (x_1:Int) λB=>aO (aP b x_1) λD=>x_1<=(aA b)/\aY (λk=>mmC C (aP b k)=aK) x_1->qiq (B<aA b) (ix B (aA b)/\(aA C<=1000/\qbq (c8 C) (aA D<=1000/\qbq (c8 D) (ROk C/\ROk D/\gP C D=mmC C D) (aK=mmC C D)) (aK=mmC C D))/\
     (∀y:Unit,qbq (mmC C D) (aE=aJg a b) (qnr B x_1 (x_1+1<=(aA b)/\aY (λk=>mmC C (aP b k)=aK) (x_1+1)/\(aA b)-(x_1+1)<aA b-x_1)))) (qnr A x (x+1<=(aA a)/\aY (λi=>mmR a b i=aK) (x+1)/\(aA a)-(x+1)<aA a-x)))) (aK=aJg a b))) (by
  change (aA a)<=1000000/\((∀r∈a,aA r<=1000))/\(aA b)<=1000000/\((∀r∈b,aA r<=1000))at hp;obtain⟨hla,ha,hlb,hb⟩:=hp;have la:∀x:Nat,(x:Int)<aA a->aA (aP a x)<=1000:=λx h=>ha _ (iU aC);have lb:∀x:Nat,(x:Int)<aA b->aA (aP b x)<=1000:=λx h=>hb _ (iU aC);have oa:∀x:Nat,c8 (aP a x)=aE->(x:Int)<aA a->ROk (aP a x):=λx h h2=>D7 h (la x h2);have ob:∀x:Nat,c8 (aP b x)=aE->(x:Int)<aA b->ROk (aP b x):=λx h h2=>D7 h (lb x h2);have m1:∀r o:aU,c8 r=aE->c8 o=aE->gP r o=mmC r o:=λr o h1 h2=>by unfold mmC;grind
  have m2:∀r o:aU,c8 o=aK->aK=mmC r o:=λr o h=>by unfold mmC;rw[h];simp
  have m3:∀r o:aU,c8 r=aK->aK=mmC r o:=λr o h=>by unfold mmC;rw[h];rfl
  have m4:∀r o:aU,c8 r=aE->c8 o=aE->(!fU r o)=mmC r o:=λr o h1 h2=>by rw[<-m1 r o h1 h2,GF (CR.of h1) (CR.of h2)]
  have v9:∀r:aU,∀v,v∈r->c8 r=aE->bd 1000000000 v:=λr v hv h=>(xM ((CR.of h).near v hv)).mono;have yes:∀x y:Nat,mmC (aP a x) (aP b y)=aE->(x:Int)<aA a->(y:Int)<aA b->aE=aJg a b:=λx y h h1 h2=>
   (kX.2 ⟨_,iU (aC:x<aA a),kX.2 ⟨_,iU (aC:y<aA b),h⟩⟩).symm
  have st:∀x y:Nat,aY (λk=>mmC (aP a x) (aP b k)=aK) y->¬(y:Int)<aA b->y<=aA b->mmR a b x=aK:=λx y h h1 h2=>by obtain rfl:y=aA b:=aC;exact J5 (t:= .R) (l:=b) (q:=λo=>mmC (aP a x) o) h
  have fin:∀x:Nat,aY (λi=>mmR a b i=aK) x->¬(x:Int)<aA a->x<=aA a->aK=aJg a b:=λx h h1 h2=>by obtain rfl:x=aA a:=aC;exact(J5 (t:= .R) (l:=a) (q:=λr=>b.any λo=>c8 r&&(c8 o&&gP r o)) h).symm
  with_reducible ((repeat' first|apply cJ|intro);all_goals repeat cases‹_/\_›)
  all_goals first|rfl|with_reducible solve_by_elim|(with_reducible first|assumption|rfl)|exact cO aJ (st _ _ aJ aJ aJ)|grind)
def t46:=t43.adk k46
def rfP(k:Nat)(r:aU)(i:Nat):Bool:=(decide (k=0)&&decide (turn (aI7 r ((i+aA r-1) % (aA r))) (aI7 r i) (aI7 r ((i+1) % (aA r)))<0))||(decide (0<k)&&decide (0<turn (aI7 r ((i+aA r-1) % (aA r))) (aI7 r i) (aI7 r ((i+1) % (aA r)))))
def rfR(k:Nat)(r:aU)(i:Nat):Nat:=aA ((bT i).filter (rfP k r))
def rfS(R:List aU):Nat->Nat
 |0=>0
 |k+1=>rfS R k+rfR k (aP R k) (aA (aP R k))
def tI(s:Shape):Nat:=if bL s=aE then rfS (aR s) (aA (aR s)) else 0
def c53:Con:=con (a1 aSh) (λs=>[Fit s]) (λs=> .iqz (tI s:Nat))
def k53:c53.Okz 50:=bI t46 (λs=>[lp 5 15 (aA (aR s)) ae [] (λk=>[(3,.iqz (rfS (aR s) k:Nat))]) ae λk=>[lp 8 22 (aA (aP (aR s) k)) ae [] (λi=>[(3,.iqz (rfS (aR s) k+rfR k (aP (aR s) k) i:Nat))]) ae λi=>[jb 12 61 (rfP k (aP (aR s) k) i),jU 13 [(3,.iqz (rfS (aR s) k+rfR k (aP (aR s) k) (i+1):Nat))]]]]
 ) λs hp=>bD (aO (0:Nat) λC=>aO (aR s) λE=>aO (!bL s) λL=>Fit s/\qbq L (0=(tI s:Int)) (Fit s/\C<(aA s.outer)/\(∀r:aU,r∈s.holes->C<aA r)/\(0=(0:Int)/\0=(rfS E 0:Int)/\C<=aA E)/\
 (∀x:Nat,aO (x:Int) λA=>aO (aP E x) λF=>aO (rfS E x:Int) λJ=>aO (aA F:Int) λK=>x<=aA E->qiq (A<aA E) (ix A (aA E)/\(0=(0:Int)/\J=((rfS E x+rfR x F 0:Nat):Int)/\C<=aA F)/\
   (∀x_1:Nat,aO (x_1+1) λB=>aO (x_1:Int) λD=>aO (aI7 F (B % (aA F))) λH=>aO (aI7 F x_1) λI=>aO (D+aA F-1) λM=>aO (dA M K) λN=>aO (aI7 F N.toNat) λO=>aO ((rfS E x+rfR x F B:Nat):Int) λQ=>aO ((rfS E x+rfR x F x_1:Nat):Int) λS=>x_1<=aA F->qiq (D<aA F) ((ix D (aA F)/\aX (D+aA F)/\aX M/\K≠0/\ix N (aA F)/\aX (D+1)/\K≠0/\ix ((B % (aA F):Nat):Int) (aA F)/\bd 1000000000 O/\bd 1000000000 I/\bd 1000000000 H/\(qiq (A=0) (qiq (turn O I H<0) (aE=rfP x F x_1) (qiq (0<A) (decide (0<turn O I H)=rfP x F x_1) (aK=rfP x F x_1))) (qiq (0<A) (decide (0<turn O I H)=rfP x F x_1) (aK=rfP x F x_1)))/\
      (∀y:Unit,qbq (rfP x F x_1) (aX (S+1)/\S+1=Q) (S=Q)))/\
     (∀y:Unit,qnr D x_1 (Q=Q/\x_1+1<=(aA F)/\(aA F)-B<aA F-x_1))) (qnr A x (S=rfS E (x+1)/\x+1<=(aA E)/\(aA E)-(x+1)<aA E-x)))) (J=tI s)))) (by
 change Fit s at hp;have V:(!bL s)=aK->VS s:=λh=>(rj s).1 (nb h);have lR:aA (aR s)<=2000:=by have:=hp.2.1;unfold aR;rw[iE];omega
 have e0:(!bL s)=aE->0=(tI s:Int):=λh=>by unfold tI;grind
 have o1:(!bL s)=aK->0<aA s.outer:=λh=>by have:=(V h).outer.three;omega
 have o2:(!bL s)=aK->∀r∈s.holes,0<aA r:=λh r hr=>by have:=((V h).ring (show r∈aR s from cM _ hr)).three;omega
 have rg:(!bL s)=aK->∀x:Nat,(x:Int)<aA (aR s)->VR (aP (aR s) x):=λh x hx=>(V h).ring (iU aC);have l40:(!bL s)=aK->∀x:Nat,(x:Int)<aA (aR s)->aA (aP (aR s) x)<=40:=λh x hx=>(rg h x hx).most;have tm:∀x i:Nat,(i:Int)<aA (aP (aR s) x)->dA ((i:Int)+aA (aP (aR s) x)-1) (aA (aP (aR s) x):Int)=(((i+aA (aP (aR s) x)-1) % (aA (aP (aR s) x)):Nat):Int):=λx i h=>aH;have x1:∀x i:Nat,(i:Int)<aA (aP (aR s) x)->ix (dA ((i:Int)+aA (aP (aR s) x)-1) (aA (aP (aR s) x):Int)) (aA (aP (aR s) x)):=λx i h=>by rw[tm x i h];exact fS (cG _ aC)
 have x2:∀x i:Nat,(i:Int)<aA (aP (aR s) x)->ix (((i+1) % (aA (aP (aR s) x)):Nat):Int) (aA (aP (aR s) x)):=λx i h=>fS (cG _ aC);have bN:(!bL s)=aK->∀x:Nat,(x:Int)<aA (aR s)->∀i:Nat,i<aA (aP (aR s) x)->bd 1000000000 (aI7 (aP (aR s) x) i):=λh x hx i hi=>o4 (rg h x hx).near hi bg;have b1:(!bL s)=aK->∀x i:Nat,(i:Int)<aA (aP (aR s) x)->(x:Int)<aA (aR s)->bd 1000000000 (aI7 (aP (aR s) x) (dA ((i:Int)+aA (aP (aR s) x)-1) (aA (aP (aR s) x):Int)).toNat):=λh x i hi hx=>by rw[tm x i hi,ju];exact bN h x hx _ (cG _ aC)
 have b2:(!bL s)=aK->∀x i:Nat,(i:Int)<aA (aP (aR s) x)->(x:Int)<aA (aR s)->bd 1000000000 (aI7 (aP (aR s) x) i):=λh x i hi hx=>bN h x hx i aC;have b3:(!bL s)=aK->∀x i:Nat,(i:Int)<aA (aP (aR s) x)->(x:Int)<aA (aR s)->bd 1000000000 (aI7 (aP (aR s) x) ((i+1) % (aA (aP (aR s) x)))):=λh x i hi hx=>bN h x hx _ (cG _ aC);have p1:∀x i:Nat,(i:Int)<aA (aP (aR s) x)->(x:Int)=0->turn (aI7 (aP (aR s) x) (dA ((i:Int)+aA (aP (aR s) x)-1) (aA (aP (aR s) x):Int)).toNat) (aI7 (aP (aR s) x) i) (aI7 (aP (aR s) x) ((i+1) % (aA (aP (aR s) x))))<0->aE=rfP x (aP (aR s) x) i:=λx i h h2 h3=>by rw[tm x i h,ju]at h3;unfold rfP;grind
 have p2:∀x i:Nat,(i:Int)<aA (aP (aR s) x)->0<(x:Int)->decide (0<turn (aI7 (aP (aR s) x) (dA ((i:Int)+aA (aP (aR s) x)-1) (aA (aP (aR s) x):Int)).toNat) (aI7 (aP (aR s) x) i) (aI7 (aP (aR s) x) ((i+1) % (aA (aP (aR s) x)))))=rfP x (aP (aR s) x) i:=λx i h h2=>by rw[tm x i h,ju];unfold rfP;rw[decide_eq_false (aC:¬x=0),decide_eq_true (aC:0<x)];simp
 have p3:∀x i:Nat,(i:Int)<aA (aP (aR s) x)->¬turn (aI7 (aP (aR s) x) (dA ((i:Int)+aA (aP (aR s) x)-1) (aA (aP (aR s) x):Int)).toNat) (aI7 (aP (aR s) x) i) (aI7 (aP (aR s) x) ((i+1) % (aA (aP (aR s) x))))<0->¬0<(x:Int)->aK=rfP x (aP (aR s) x) i:=λx i h h3 h2=>by rw[tm x i h,ju]at h3;unfold rfP;grind
 have p4:∀x i:Nat,¬(x:Int)=0->¬0<(x:Int)->aK=rfP x (aP (aR s) x) i:=λx i h h2=>aC;have q1:∀x i:Nat,rfP x (aP (aR s) x) i=aE->rfR x (aP (aR s) x) (i+1)=rfR x (aP (aR s) x) i+1:=λx i h=>by unfold rfR;rw[pW,mJ,vA h,eR];rfl
 have q2:∀x i:Nat,rfP x (aP (aR s) x) i=aK->rfR x (aP (aR s) x) (i+1)=rfR x (aP (aR s) x) i:=λx i h=>by unfold rfR;rw[pW,mJ,FN (by rw[h];simp)];simp
 have q3:∀x i:Nat,rfR x (aP (aR s) x) i<=i:=λx i=>by have:=Fj (rfP x (aP (aR s) x)) (bT i);rw[y4]at this;exact this
 have q4:(!bL s)=aK->∀x:Nat,x<=aA (aR s)->rfS (aR s) x<=40*x:=λh x=>by
  induction x with
  |zero=>intro _;exact bR _
  |succ x ih=>
   intro hx;have h1:=ih aC;have h2:=q3 x (aA (aP (aR s) x));have h3:=l40 h x aC;show rfS (aR s) x+rfR x (aP (aR s) x) (aA (aP (aR s) x))<=_;omega
 have w1:(!bL s)=aK->∀x i:Nat,(i:Int)<aA (aP (aR s) x)->(x:Int)<aA (aR s)->aX (((rfS (aR s) x+rfR x (aP (aR s) x) i:Nat):Int)+1):=λh x i hi hx=>by have h1:=q4 h x aC;have h2:=q3 x i;have h3:=l40 h x hx;exact bP aC
 have w2:(!bL s)=aK->∀x i:Nat,(i:Int)<aA (aP (aR s) x)->(x:Int)<aA (aR s)->aX ((i:Int)+aA (aP (aR s) x))/\aX ((i:Int)+aA (aP (aR s) x)-1)/\aX ((i:Int)+1):=λh x i hi hx=>by have h3:=l40 h x hx;exact⟨bP aC,bP aC,bP aC⟩
 have w3:∀x:Nat,(x:Int)<aA (aR s)->aX ((x:Int)+1):=λx hx=>bP aC;have s1:∀x i:Nat,rfP x (aP (aR s) x) i=aE->((rfS (aR s) x+rfR x (aP (aR s) x) i:Nat):Int)+1=((rfS (aR s) x+rfR x (aP (aR s) x) (i+1):Nat):Int):=λx i h=>aH;have s2:∀x i:Nat,rfP x (aP (aR s) x) i=aK->((rfS (aR s) x+rfR x (aP (aR s) x) i:Nat):Int)=((rfS (aR s) x+rfR x (aP (aR s) x) (i+1):Nat):Int):=λx i h=>by rw[q2 x i h]
 have s3:∀x i:Nat,¬(i:Int)<aA (aP (aR s) x)->i<=aA (aP (aR s) x)->((rfS (aR s) x+rfR x (aP (aR s) x) i:Nat):Int)=rfS (aR s) (x+1):=λx i h h2=>by obtain rfl:i=aA (aP (aR s) x):=aC;rfl
 have s4:(!bL s)=aK->∀x:Nat,¬(x:Int)<aA (aR s)->x<=aA (aR s)->(rfS (aR s) x:Int)=tI s:=λh x h1 h2=>by obtain rfl:x=aA (aR s):=aC;unfold tI;grind
 have s5:∀x:Nat,(rfS (aR s) x:Int)=((rfS (aR s) x+rfR x (aP (aR s) x) 0:Nat):Int):=λx=>rfl;clear V rg bN tm q1 q2 q3 q4
 repeat' first|with_reducible apply cJ|with_reducible intro
 all_goals repeat with_reducible cases‹_/\_›
 all_goals first|rfl|with_reducible solve_by_elim|(with_reducible first|assumption|rfl|exact o2 aJ _ aJ|exact b1 aJ _ _ aJ aJ|exact b2 aJ _ _ aJ aJ|exact b3 aJ _ _ aJ aJ|exact w1 aJ _ _ aJ aJ|exact(w2 aJ _ _ aJ aJ).1|exact(w2 aJ _ _ aJ aJ).2.1|exact(w2 aJ _ _ aJ aJ).2.2|exact s4 aJ _ aJ aJ|exact s5 _)|omega|(unfold ix;omega)|(unfold aX;omega))
def t53:=t46.adk k53
def arH(s:Shape)(k:Nat):Int:=area s.outer-((s.holes.take k).map area).sum
def kq(l:List aI8)(v:aI8)(k:Nat):Bool:=(l.take k).any λu=>decide (u=v)
def Oo{l:List aI8}{v:aI8}{k:Nat}(h:k<aA l):kq l v (k+1)=(kq l v k||decide (aI7 l k=v)):=by unfold kq;rw[lC h,List.any_append,nth_eq h];simp
def QM(l:List aI8)(v:aI8):kq l v (aA l)= !fgn l v:=by unfold kq fgn;grind
def ccR(s:Shape)(r:aU):Bool:=(!c8 r|| !nU s r)
def c95:Con:=con (a1 aSh) (λs=>[Fit s]) (λs=> .iqz (if aj s=aE then jZ s else 0))
def k95:c95.Okz 94:=bI t53 (λs=>[lp 5 4 (aA s.holes) ae [] (λk=>[(3,.iqz (arH s k))]) ae]
 ) λs hp=>bD (aO (!aj s) λB=>Fit s/\qbq B (0=(if aj s=aE then jZ s else 0)) (near s.outer=aE/\(aA s.outer)<=100000/\(0=(0:Int)/\area s.outer=arH s 0/\(0:Nat)<=aA s.holes)/\
 (∀x:Nat,aO (x:Int) λA=>aO (aP s.holes x) λC=>x<=aA s.holes->qiq (A<aA s.holes) (ix A (aA s.holes)/\near C=aE/\(aA C)<=100000/\aX (arH s x-area C)/\qnr A x (arH s x-area C=arH s (x+1)/\x+1<=(aA s.holes)/\(aA s.holes)-(x+1)<aA s.holes-x)) (arH s x=(if aj s=aE then jZ s else 0))))) (by
 change Fit s at hp;have V:(!aj s)=aK->VS s:=λh=>vsR (nb h);have e1:(!aj s)=aE->0=(if aj s=aE then jZ s else 0):=λh=>aH;have eh:(!aj s)=aK->∀x:Nat,x<aA s.holes->VR (aP s.holes x):=λh x hx=>(V h).hole x hx;have n1:(!aj s)=aK->near s.outer=aE/\(aA s.outer)<=100000:=λh=>⟨(V h).outer.near,by have:=(V h).outer.most;omega⟩;have n2:(!aj s)=aK->∀x:Nat,(x:Int)<aA s.holes->near (aP s.holes x)=aE/\(aA (aP s.holes x))<=100000:=λh x hx=>⟨(eh h x aC).near,by have:=(eh h x aC).most;omega⟩;have z:area s.outer=arH s 0:=by unfold arH;simp
 have st:∀x:Nat,(x:Int)<aA s.holes->arH s x-area (aP s.holes x)=arH s (x+1):=λx hx=>by unfold arH;rw[lC aC,dV,nM,jz aC];grind
 have bd0:∀r:aU,VR r-> -8000000000<=area r/\area r<=8000000000:=λr h=>Du ((ig r).2 h);have bS:(!aj s)=aK->∀x:Nat,x<=aA s.holes-> -(8000000000*((x:Int)+1))<=arH s x/\arH s x<=8000000000*((x:Int)+1):=λh x=>by
  induction x with
  |zero=>intro _;rw[<-z];have:=bd0 _ (V h).outer;omega
  |succ x ih=>
   grind
 have w:(!aj s)=aK->∀x:Nat,(x:Int)<aA s.holes->aX (arH s x-area (aP s.holes x)):=λh x hx=>by have h1:=bS h x aC;have h2:=bd0 _ (eh h x aC);have:=(V h).few;exact bP aC
 have wx:(!aj s)=aK->∀x:Nat,(x:Int)<aA s.holes->aX ((x:Int)+1):=λh x hx=>bP (by have:=(V h).few;omega);have f:(!aj s)=aK->∀x:Nat,¬(x:Int)<aA s.holes->x<=aA s.holes->arH s x=(if aj s=aE then jZ s else 0):=λh x h1 h2=>by obtain rfl:x=aA s.holes:=aC;rw[nb h,if_pos rfl];unfold arH jZ;grind
 clear bS eh V
 repeat' first|with_reducible apply cJ|with_reducible intro
 all_goals first|rfl|with_reducible solve_by_elim|exact(n1 aJ).1|exact(n1 aJ).2|exact(n2 aJ _ aJ).1|exact(n2 aJ _ aJ).2|exact w aJ _ aJ|exact wx aJ _ aJ|exact f aJ _ aJ aJ|grind)
def t95:=t53.adk k95
def c44:Con:=con (ac aSh (a1 (aL .R))) (λ(s,l)=>[Fit s,aA l<=1000,(∀r∈l,aA r<=1000)]) (λ(s,l)=> .bool (fz s l))
def k44:c44.Okz 52:=bI t95 (λ(s,l)=>[lp 6 8 (aA l) (λk=>[aY (cc s l) k]) [] (λk=>[(7,.iqz (arS l k))]) ae λk=>[jb 9 40 (ccR s (aP l k)),cnt 11 9 (aA (aP l k)) (aY λj=>fgn (vOf s) (aI7 (aP l k) j)=aK) λj=>[lp 15 11 (aA (vOf s)) ae [] (λn=>[(10,.bool (kq (vOf s) (aI7 (aP l k) j) n))]) ae],cnt 21 12 k (aY λj=>fU (aP l k) (aP l j)=aE)]]
 ) λ(s,l) hp=>bD (aO (vOf s) λA=>aO (cc s l) λB=>aO (0:Int) λD=>aO (0:Nat) λE=>Fit s/\qiq (¬eOf s=0) (aK=fz s l) ((0=D/\0=arS l 0/\E<=(aA l)/\aY B 0)/\
 (∀x:Nat,aO (x:Int) λC=>aO (aP l x) λJ=>x<=(aA l)/\aY B x->qiq (C<aA l) ((ix C (aA l)/\(aA J)<=1000/\qbq (!c8 J) (aE=ccR s J) (ix C (aA l)/\Fit s/\(3:Nat)<=(aA J)/\(aA J)<=1000/\(∀v:aI8,v∈aP l x->bd 10000 v)/\(aA (ao s))<=1000000/\(∀e:S,e∈ao s->bd 10000 e.a/\bd 10000 e.b)/\(!nU s J)=ccR s J))/\
   (∀y:Unit,qbq (ccR s J) (aK=fz s l) ((0=D/\E<=(aA J)/\aY (λj=>fgn A (aI7 J j)=aK) 0)/\
     (∀x_1:Nat,aO (x_1:Int) λH=>aO (aI7 J x_1) λK=>x_1<=(aA J)/\aY (λj=>fgn A (aI7 J j)=aK) x_1->ix C (aA l)/\qiq (H<aA J) ((0=D/\aK=kq A K 0/\E<=aA A)/\
       (∀x_2:Nat,aO (x_2+1) λF=>aO (x_2:Int) λG=>aO (x_2+1:Nat) λL=>aO (!kq A K x_2) λM=>x_2<=aA A->qiq (G<aA A) (qbq (kq A K x_2) (aX (G+1)/\G+1=(L:Int)/\aE=kq A K F/\x_2+1<=(aA A)/\(aA A)-F<aA A-x_2) (ix G (aA A)/\ix C (aA l)/\ix H (aA J)/\aX (G+1)/\G+1=(L:Int)/\decide ((aI7 A x_2)=K)=kq A K F/\x_2+1<=(aA A)/\(aA A)-F<aA A-x_2)) (qbq M (aK=fz s l) (qnr H x_1 (x_1+1<=(aA J)/\aY (λj=>fgn A (aI7 J j)=aK) (x_1+1)/\(aA J)-(x_1+1)<aA J-x_1))))) ((0=D/\E<=x/\aY (λj=>fU J (aP l j)=aE) 0)/\
       (∀x_2:Nat,aO (x_2:Int) λI=>aO (aP l x_2) λN=>aO (!fU J N) λO=>x_2<=x/\aY (λj=>fU J (aP l j)=aE) x_2->qiq (I<x) (ix C (aA l)/\ix I (aA l)/\(aA J)<=1000/\(aA N)<=1000/\(∀v:aI8,v∈aP l x->bd 1000000000 v)/\(∀v:aI8,v∈aP l x_2->bd 1000000000 v)/\qbq O (aK=fz s l) (qnr I x_2 (x_2+1<=x/\aY (λj=>fU J (aP l j)=aE) (x_2+1)/\x-(x_2+1)<x-x_2))) (ix C (aA l)/\near J=aE/\(aA J)<=100000/\aX (arS l x+area J)/\qnr C x (arS l x+area J=arS l (x+1)/\x+1<=(aA l)/\aY B (x+1)/\(aA l)-(x+1)<aA l-x)))))))) (Fit s/\decide (arS l x=(if aj s=aE then jZ s else 0))=fz s l)))) (by
 change Fit s/\(aA l)<=1000/\((∀r∈l,aA r<=1000))at hp;obtain⟨hf,hl,hr⟩:=hp;have hr:∀x:Nat,(x:Int)<aA l->aA (aP l x)<=1000:=λx h=>hr _ (iU aC);have hr5:∀x:Nat,(x:Int)<aA l->aA (aP l x)<=100000:=λx h=>aH;have R:¬¬eOf s=0->aj s=aE:=λh=>uO h;have hvP:¬¬eOf s=0->bL s=aE:=λh=>by rw[jv];exact R h
 have V:¬¬eOf s=0->VS s:=λh=>vsR (R h);have hv:=mv s;have he:¬¬eOf s=0->aA (ao s)<=1000000:=λh=>by have:=F9 (V h);omega
 have hw1:¬¬eOf s=0->∀e∈ao s,bd 10000 e.a:=λh e hm=>s9 (Hn (V h) e hm).1;have hw2:¬¬eOf s=0->∀e∈ao s,bd 10000 e.b:=λh e hm=>s9 (Hn (V h) e hm).2;have c0:¬eOf s=0->aK=fz s l:=λh=>by
  unfold fz;rw[jv];cases e:aj s with
  |false=>rfl
  |true=>exact absurd (by unfold eOf;rw[e];rfl) h
 have a1:∀x:Nat,(!c8 (aP l x))=aE->aE=ccR s (aP l x):=λx h=>by unfold ccR;rw[h];rfl
 have a4:∀x:Nat,(!c8 (aP l x))=aK->(!nU s (aP l x))=ccR s (aP l x):=λx h2=>by unfold ccR;rw[h2];rfl
 have kV:∀r:aU,ccR s r=aK->c8 r=aE/\nU s r=aE:=λr h=>by unfold ccR at h;grind
 have vB:∀r:aU,c8 r=aE->∀v∈r,bd 10000 v:=λr h v hv=>xM ((CR.of h).near v hv);have vB4:∀(x:Nat) (v:aI8),v∈aP l x->(!c8 (aP l x))=aK->bd 10000 v:=λx v hv h=>vB _ (nb h) v hv;have vB9:∀(x:Nat) (v:aI8),v∈aP l x->ccR s (aP l x)=aK->bd 1000000000 v:=λx v hv h=>(vB _ (kV _ h).1 v hv).mono;have l3':∀x:Nat,(!c8 (aP l x))=aK->3<=aA (aP l x):=λx h=>(CR.of (nb h)).len;have nr:∀x:Nat,ccR s (aP l x)=aK->near (aP l x)=aE:=λx h=>Hf (kV _ h).1;have kA:¬¬eOf s=0->∀r:aU,ccA s r=(ccR s r||r.any (fgn (vOf s))):=λh r=>by
  unfold ccA ccR;cases e:c8 r with
  |false=>rfl
  |true=>
   rw[X4 (V h) (CR.of e)];grind
 have kB:∀x:Nat,aY (cc s l) x->c8 (aP l x)=aE->∀j,j<x->gP (aP l x) (aP l j)= !fU (aP l x) (aP l j):=λx hu h j hj=>
  GF (CR.of h) (CR.of (AM (hu j hj).1))
 have no:∀x:Nat,(x:Int)<aA l->(ccA s (aP l x)=aE\/ccB l x=aE)->aK=fz s l:=λx h h2=>by unfold fz;grind
 have no1:¬¬eOf s=0->∀x:Nat,ccR s (aP l x)=aE->(x:Int)<aA l->aK=fz s l:=λh x h1 hx=>no x hx (.inl aH);have no2:¬¬eOf s=0->∀x j k:Nat,(!kq (vOf s) (aI7 (aP l x) j) k)=aE->¬(k:Int)<aA (vOf s)->k<=aA (vOf s)->(x:Int)<aA l->ccR s (aP l x)=aK->(j:Int)<aA (aP l x)->aK=fz s l:=λh x j k h2 hk1 hk2 hx h1 hj=>no x hx (.inl (by obtain rfl:k=aA (vOf s):=aC;rw[QM,FM]at h2;rw[kA h,h1,zJ];exact kX.2 ⟨_,dh (aC:j<aA (aP l x)),h2⟩))
 have ok2:∀x j k:Nat,(!kq (vOf s) (aI7 (aP l x) j) k)=aK->¬(k:Int)<aA (vOf s)->k<=aA (vOf s)->aY (λj=>fgn (vOf s) (aI7 (aP l x) j)=aK) j->aY (λj=>fgn (vOf s) (aI7 (aP l x) j)=aK) (j+1):=λx j k h2 hk1 hk2 hu=>by obtain rfl:k=aA (vOf s):=aC;rw[QM,FM]at h2;exact cO hu h2
 have no3:∀x j:Nat,(!fU (aP l x) (aP l j))=aE->(x:Int)<aA l->aY (cc s l) x->ccR s (aP l x)=aK->(j:Int)<x->aK=fz s l:=λx j h2 hx hu h1 hj=>no x hx (.inr (by
  unfold ccB;rw[<-kB x hu (kV _ h1).1 j aC]at h2;refine kX.2 ⟨aP l j,?_,h2⟩;have:(l.take x)[j]'aH=aP l j:=by rw[FI,<-jz aC]
  grind))
 have okS:¬¬eOf s=0->∀x j k:Nat,aY (λj=>fgn (vOf s) (aI7 (aP l x) j)=aK) j->aY (λj=>fU (aP l x) (aP l j)=aE) k->(x:Int)<aA l->aY (cc s l) x->ccR s (aP l x)=aK->¬(j:Int)<aA (aP l x)->j<=aA (aP l x)->¬(k:Int)<x->k<=x->aY (cc s l) (x+1):=λh x j k hj hk hx hu h1 hj1 hj2 hk1 hk2=>by
  obtain rfl:j=aA (aP l x):=aC;obtain rfl:k=x:=aC;have hkv:=kV _ h1;refine cO hu ⟨?_,?_⟩
  .rw[kA h,h1,zJ];refine tW.2 λv hv=> ?_;obtain⟨i,hi,rfl⟩:=fC.1 hv;rw[hj i hi];simp
  .unfold ccB;refine tW.2 λo ho=> ?_;obtain⟨i,hi,rfl⟩:=jQ ho;rw[mK]at hi;rw[FI,<-jz aC,kB k hu hkv.1 i aC,hk i aC];simp
 have sS:∀x:Nat,(x:Int)<aA l->arS l x+area (aP l x)=arS l (x+1):=λx h=>Ie aC;have wS:∀x:Nat,aY (cc s l) x->(x:Int)<aA l->ccR s (aP l x)=aK->aX (arS l x+area (aP l x)):=λx hu h h1=>by have h2:=J4 (λy hy=>hr y aC) x aC λj hj=>Hf (AM (hu j hj).1);have h3:=wJ (nr x h1) (aA (aP l x)) (bR _);have h4:=hr x h;have e:ar (aP l x) (aA (aP l x))=area (aP l x):=rfl;rw[e]at h3;exact bP aC
 have yE:¬¬eOf s=0->∀x:Nat,aY (cc s l) x->¬(x:Int)<aA l->x<=aA l->decide (arS l x=(if aj s=aE then jZ s else 0))=fz s l:=λh x h3 h1 h2=>by
  obtain rfl:x=aA l:=aC;unfold fz;rw[if_pos (R h),hvP h,show((bT (aA l)).all λi=> !ccA s (aP l i)&& !ccB l i)=aE from cC.2 λi hi=>by obtain⟨g1,g2⟩:=h3 i (cP.1 hi);grind]
  simp
 have z0:∀v,aK=kq (vOf s) v 0:=λv=>rfl;have z1:0=arS l 0:=rfl;have f1:∀(v:aI8) (k:Nat),kq (vOf s) v k=aE->(k:Int)<aA (vOf s)->aE=kq (vOf s) v (k+1):=λv k h2 h=>by rw[Oo aC,h2];rfl
 have f2:∀(v:aI8) (k:Nat),kq (vOf s) v k=aK->(k:Int)<aA (vOf s)->decide (aI7 (vOf s) k=v)=kq (vOf s) v (k+1):=λv k h2 h=>by rw[Oo aC,h2];rfl
 have ckj:∀(x j:Nat) (v:aI8),v∈aP l j->aY (cc s l) x->(j:Int)<x->bd 1000000000 v:=λx j v hv hu hj=>(vB _ (AM (hu j aC).1) v hv).mono;have hrj:∀x j:Nat,(j:Int)<x->(x:Int)<aA l->aA (aP l j)<=1000:=λx j hj h=>hr j aC;have wj:∀x j:Nat,(j:Int)<aA (aP l x)->(x:Int)<aA l->aX ((j:Int)+1):=λx j hj h=>bP aH;clear V hvP R kA kB no vB kV
 repeat' first|with_reducible apply cJ|with_reducible intro
 all_goals repeat with_reducible cases‹_/\aY _ _›
 all_goals first|rfl|with_reducible solve_by_elim|with_reducible rfl|(with_reducible exact c0 aJ)|(with_reducible exact he aJ)|(with_reducible exact hw1 aJ _ aJ)|(with_reducible exact hw2 aJ _ aJ)|(with_reducible exact hr _ aJ)|(with_reducible exact hr5 _ aJ)|(with_reducible exact hrj _ _ aJ aJ)|(with_reducible exact a1 _ aJ)|(with_reducible exact a4 _ aJ)|(with_reducible exact vB4 _ _ aJ aJ)|(with_reducible exact vB9 _ _ aJ aJ)|(with_reducible exact ckj _ _ _ aJ aJ aJ)|(with_reducible exact l3' _ aJ)|(with_reducible exact nr _ aJ)|(with_reducible exact no1 aJ _ aJ aJ)|(with_reducible exact no2 aJ _ _ _ aJ aJ aJ aJ aJ aJ)|(with_reducible exact ok2 _ _ _ aJ aJ aJ aJ)|(with_reducible exact no3 _ _ aJ aJ aJ aJ aJ)|(with_reducible exact okS aJ _ _ _ aJ aJ aJ aJ aJ aJ aJ aJ aJ)|(with_reducible exact sS _ aJ)|(with_reducible exact wS _ aJ aJ aJ)|(with_reducible exact wj _ _ aJ aJ)|(with_reducible exact yE aJ _ aJ aJ aJ)|exact z0 _|exact cO aJ (nb aJ)|exact iJ _|omega|(unfold ix;omega)|(unfold aX;omega))
def t44:=t95.adk k44
def sqR:aU:=[⟨0,0⟩,⟨3,0⟩,⟨3,3⟩,⟨0,3⟩]
def awR:aU:=[⟨0,0⟩,⟨2,1⟩,⟨4,0⟩,⟨2,4⟩]
instance(lt:Int->Int->Bool)(l:List Int):Decidable (OrdOn lt l):=decidable_of_iff ((∀x∈l,∀y∈l,∀z∈l,lt x y=aE->lt y z=aE->lt x z=aE)/\(∀x∈l,∀y∈l,lt x y=aE->lt y x=aK)/\(∀x∈l,∀y∈l,lt x y=aK->lt y x=aK->x=y)) ⟨λh=>⟨h.1,h.2.1,h.2.2⟩,λh=>⟨h.1,h.2,h.3⟩⟩
instance(v:List aI8)(L:List (List Int))(i j:Nat):Decidable (ArOk v L i j):=decidable_of_iff (i<(aA L)/\(j:Int)∈bK L i/\(∀x∈bK L i,0<=x/\x.toNat<aA v)/\(aA (bK L i))<=1000000) ⟨λh=>⟨h.1,h.2.1,h.2.2.1,h.2.2.2⟩,λh=>⟨h.1,h.2,h.3,h.4⟩⟩
instance(s:Shape):Decidable (GOk s):=inferInstanceAs (Decidable (∀k,k<aA (vOf s)->0<(aA (bK (oD s) k))/\(∀x∈bK (oD s) k,0<=x/\x.toNat<aA (vOf s))/\OrdOn (ltA (vOf s) k) (bK (oD s) k)))
instance(s:Shape):Decidable (SOk s):=inferInstanceAs (Decidable (∀k,k<aA (pG s)->ArOk (vOf s) (sG s k).1 (bC (pG s) k).1 (bC (pG s) k).2/\ArOk (vOf s) (sG s k).1 (bC (pG s) k).2 (bC (pG s) k).1/\(bC (pG s) k).2≠(bC (pG s) k).1))
def PcB(s:Shape):Prop:=(∀i,i<aA (soG s)->∀x∈bK (soG s) i,ArOk (vOf s) (soG s) i x.toNat/\ArOk (vOf s) (soG s) x.toNat i)/\(∀h∈hsG s,ArOk (vOf s) (soG s) h.2 h.1)/\(∀i,i<aA (vOf s)->0<=dj (nG s) i)/\
 ∀k,k<aA (hsG s)->0<aA (trc (vOf s) (soG s) (trU (vOf s)) (pcK s k).1 (bC (hsG s) k) []).2->aA (trc (vOf s) (soG s) (trU (vOf s)) (pcK s k).1 (bC (hsG s) k) []).2<=1000/\0<aA (fG (trc (vOf s) (soG s) (trU (vOf s)) (pcK s k).1 (bC (hsG s) k) []).2)
def PcB.ok{s:Shape}(h:PcB s):tM s:=by
 refine⟨λi j hj=> ?_,h.2⟩;have hi:i<aA (soG s):=by
  rcases pV i (aA (soG s)) with h1|h1
  .exact h1
  .unfold bK at hj;grind
 have:=h.1 i hi _ hj;grind
instance(s:Shape):Decidable (PcB s):=by unfold PcB;infer_instance
def sqS:Shape:=⟨sqR,[]⟩
def awS:Shape:=⟨awR,[]⟩
def KE:GOk sqS/\SOk sqS/\PcB sqS:=by decide+kernel
def Ke:GOk awS/\SOk awS/\PcB awS:=by decide+kernel
def TV:bL sqS=aE/\pcG sqS=[sqR] :=by decide+kernel
def Ts:bL awS=aE/\pcG awS=[[⟨0,0⟩,⟨2,1⟩,⟨2,4⟩],[⟨4,0⟩,⟨2,4⟩,⟨2,1⟩]] :=by decide+kernel
def Kf:fz awS [[⟨0,0⟩,⟨2,1⟩,⟨2,4⟩],[⟨4,0⟩,⟨2,4⟩,⟨2,1⟩]] =aE/\aJg [sqR] [[⟨0,0⟩,⟨2,1⟩,⟨2,4⟩],[⟨4,0⟩,⟨2,4⟩,⟨2,1⟩]] =aE/\tI awS=1:=by decide+kernel
def aEG:Fit sqS:=⟨bg,bg,λr h=>(cp h).elim⟩
def J3:Fit awS:=⟨bg,bg,λr h=>(cp h).elim⟩
def aFu:eV sqS=0:=by unfold eV;rw[TV.1];rfl
def aFU:eV awS=0:=by unfold eV;rw[Ts.1];rfl
def c41:Con:=con (a0) ae (λ_=> .bool aE)
def k41:c41.Okz 41:=bI t44 (λ_=>[(10002,.mk Unit (λ_ _=>aD ()) [] ae (λ_=>[(1,.lst .V sqR)]) ae (λ_=>0) ae),(10003,.mk Unit (λ_ _=>aD ()) [7] ae (λ_=>[(2,.ptr 7 0)]) (λ_=>[(7,.box 26 [.lst .V awR,.nil])]) (λ_=>0) ae)]
  ) λ_ _=>bD ([(⟨0,0⟩:aI8),(⟨3,0⟩:aI8),(⟨3,3⟩:aI8),(⟨0,3⟩:aI8)] =sqR/\
 (∀y:Unit,[(⟨0,0⟩:aI8),(⟨2,1⟩:aI8),(⟨4,0⟩:aI8),(⟨2,4⟩:aI8)] =awR/\
  (∀y_1:Unit,Fit (⟨sqR,([] :List (List aI8))⟩:Shape)/\(bL (⟨sqR,([] :List (List aI8))⟩:Shape)=aE->GOk (⟨sqR,([] :List (List aI8))⟩:Shape)/\SOk (⟨sqR,([] :List (List aI8))⟩:Shape)/\tM (⟨sqR,([] :List (List aI8))⟩:Shape))/\Fit (⟨awR,([] :List (List aI8))⟩:Shape)/\(bL (⟨awR,([] :List (List aI8))⟩:Shape)=aE->GOk (⟨awR,([] :List (List aI8))⟩:Shape)/\SOk (⟨awR,([] :List (List aI8))⟩:Shape)/\tM (⟨awR,([] :List (List aI8))⟩:Shape))/\qiq (eV (⟨sqR,([] :List (List aI8))⟩:Shape)=0) (qiq (eV (⟨awR,([] :List (List aI8))⟩:Shape)=0) (aA (pcG (⟨sqR,([] :List (List aI8))⟩:Shape))<=1000000/\(∀r:aU,r∈pcG (⟨sqR,([] :List (List aI8))⟩:Shape)->aA r<=100000)/\qbq (pcG (⟨sqR,([] :List (List aI8))⟩:Shape)==[sqR]) (qiq ((aA (pcG (⟨awR,([] :List (List aI8))⟩:Shape)):Int)=2) (Fit (⟨awR,([] :List (List aI8))⟩:Shape)/\(aA (pcG (⟨awR,([] :List (List aI8))⟩:Shape)))<=1000/\(∀r:aU,r∈pcG (⟨awR,([] :List (List aI8))⟩:Shape)->aA r<=1000)/\qbq (fz (⟨awR,([] :List (List aI8))⟩:Shape) (pcG (⟨awR,([] :List (List aI8))⟩:Shape))) (aA (pcG (⟨sqR,([] :List (List aI8))⟩:Shape))<=1000000/\(∀r:aU,r∈pcG (⟨sqR,([] :List (List aI8))⟩:Shape)->aA r<=1000)/\(aA (pcG (⟨awR,([] :List (List aI8))⟩:Shape)))<=1000000/\(∀r:aU,r∈pcG (⟨awR,([] :List (List aI8))⟩:Shape)->aA r<=1000)/\qbq (aJg (pcG (⟨sqR,([] :List (List aI8))⟩:Shape)) (pcG (⟨awR,([] :List (List aI8))⟩:Shape))) (Fit (⟨awR,([] :List (List aI8))⟩:Shape)/\decide ((tI (⟨awR,([] :List (List aI8))⟩:Shape):Int)=1)=aE) (aK=aE)) (aK=aE)) (aK=aE)) (aK=aE)) (aK=aE)) (aK=aE)))) (by
  rw[show(⟨sqR,([] :List (List aI8))⟩:Shape)=sqS from rfl,show(⟨awR,([] :List (List aI8))⟩:Shape)=awS from rfl,aFu,aFU,TV.2,Ts.2,Kf.1,Kf.2.1,Kf.2.2];have lo:∀n:Nat,4<=n->∀r∈([[⟨0,0⟩,⟨2,1⟩,⟨2,4⟩],[⟨4,0⟩,⟨2,4⟩,⟨2,1⟩]] :List aU),aA r<=n:=λn hn r hr=>aH;have lq:∀n:Nat,4<=n->∀r∈[sqR],aA r<=n:=λn hn r hr=>by rw[cI.1 hr];exact hn
  refine⟨rfl,λ_=>⟨rfl,λ_=>⟨aEG,λ_=>⟨KE.1,KE.2.1,KE.2.2.ok⟩,J3,λ_=>⟨Ke.1,Ke.2.1,Ke.2.2.ok⟩,⟨λ_=>⟨λ_=>⟨bg,lq _ bg,⟨λ_=>⟨λ_=>⟨J3,bg,lo _ bg,⟨λ_=>⟨bg,lq _ bg,bg,lo _ bg,⟨λ_=>⟨J3,bg⟩,λh=>(by cases h)⟩⟩,λh=>(by cases h)⟩⟩,λh=>absurd bg h⟩,λh=>absurd h bg⟩⟩,λh=>absurd rfl h⟩,λh=>absurd rfl h⟩⟩⟩⟩)
section
open Go.ChangeShapes Go.WideShapes Go.ChangeAt Go.RowKit Go.Joins Go.Deep
def Tryz.own:ownKnob bi.godebug=aM:=br
def Tryz.laidOut:laidOutB bi=aE:=br
def aEg:bi.cellsOf 26=2:=br
def aEf:bi.cellsOf 44=2:=br
def aEh:bi.cellsOf 23=1:=br
def aEj:bi.bytesOf 44=16:=br
def aEk:bi.bytesOf 23=24:=br
def OG{C:bf}:∀(l:List aI8) (b o:Nat),(∀i (h:i<aA l),C b (o+i*2) (.int .i64 l[i].x)/\C b (o+i*2+1) (.int .i64 l[i].y))->dp C (iR l) b o
 |[],b,o,_=>by trivial
 |v::l,b,o,h=>by
  have h0:=h 0 af;refine⟨⟨_,by simpa using h0.1,rfl,by rfl⟩,?_⟩;refine⟨⟨_,by simpa using h0.2,rfl,by rfl⟩,?_⟩;refine OG l b (o+1+1) λi hi=> ?_;have:=h (i+1) aH;grind
def NF{C:bf}:∀(l:List aU) (b o:Nat),(∀i (h:i<aA l),∃u,C b (o+i) u/\u.oneCell'=aE/\bE C (jK l[i]) u)->dp C (l.map jK) b o
 |[],b,o,_=>by trivial
 |r::l,b,o,h=>by
  refine⟨h 0 af,NF l b (o+1) λi hi=> ?_⟩;have:=h (i+1) aH;grind
section
variable {H:Type} {enc:TypeId×Value->H} {w:World} {base:Nat} {spare:Nat->Bool} {held:Bool}
variable{y:DataW H×List MemPlace}
def OP{fuel:Nat}{v:Value}(h:DataW.trod enc bi w base spare held fuel 23 [v] =aD y):
  ∃r:aU,bE (qP w) (jK r) v/\v.oneCell'=aE/\∀B,(∀n∈pk bi 23 y.1,n<=B)->aA r*16<=B:=by
 rcases open_slice_pairs WK Tryz.underlying44 aEf rfl rfl br br h with⟨h1,h2⟩|⟨a,len,cap,m,n,V0,V1,D0,D1,P0,P1,h1,_,hl,_,hm,hx,hc⟩
 .simp only[re,and_true]at h1;subst h1;refine⟨[],?_,rfl,aH⟩;exact⟨aM,0,rfl,bR _,λ_=>⟨rfl,rfl⟩,aH⟩
 .simp only[re,and_true]at h1;subst h1;have hlm:len<=m:=by rw[hm];split<;>omega
  have hint:∀i,i<m->∃p:Int×Int,V0 i= .int .i64 p.1/\V1 i= .int .i64 p.2:=by intro i hi;obtain⟨_,_,g3,g4⟩:=hc i hi;obtain⟨p,hp,_⟩:=DataW.trod_int zA g3;obtain⟨q,hq,_⟩:=DataW.trod_int zA g4;simp only[re,and_true]at hp hq;exact⟨(p,q),hp,hq⟩
  obtain⟨f,hf⟩:=choose_lt (α:=Int×Int) (p:=λi p=>V0 i= .int .i64 p.1/\V1 i= .int .i64 p.2) hint;refine⟨(bT len).map λi=>⟨(f i).1,(f i).2⟩,?_,rfl,λB hB=> ?_⟩
  .refine⟨aD a,cap,af,aH,aH,λad e=> ?_⟩;cases e;refine⟨λhpos=> ?_,OG _ _ _ λi hi=> ?_⟩
   .have h0:=(hc 0 aH).1;simpa[FW]using Lw h0
   .simp only[dq,y4]at hi;obtain⟨g1,g2,_⟩:=hc i aC;obtain⟨e0,e1⟩:=hf i aC;have hs:a.spot=aM:=by simpa[FW]using Lw (hc 0 aC).1
    obtain⟨b,off,sp⟩:=a;subst hs;unfold qP;rw[y6]at g1 g2;grind
  .have:=hB ((len+(m-len))*16) (by rw[hx];simp[pk,WK,aEj]);grind
def YU{fuel:Nat}{v:Value}(h:DataW.trod enc bi w base spare held fuel 24 [v] =aD y):
  ∃l:List aU,bE (qP w) (sL l) v/\v.oneCell'=aE/\∀B,(∀n∈pk bi 24 y.1,n<=B)->aA l*24<=B/\∀r∈l,aA r*16<=B:=by
 rcases open_slice1 Fl aEh h with⟨h1,h2⟩|⟨a,len,cap,m,n,V,D,Pl,h1,_,hl,_,hm,hx,hc⟩
 .simp only[re,and_true]at h1;subst h1;refine⟨[],?_,rfl,aH⟩;unfold sL bE;grind
 .simp only[re,and_true]at h1;subst h1;have hlm:len<=m:=by rw[hm];split<;>omega
  have hring:∀i,i<m->∃r:aU,bE (qP w) (jK r) (V i)/\(V i).oneCell'=aE/\∀B,(∀n∈pk bi 23 (D i),n<=B)->aA r*16<=B:=λi hi=>OP (hc i hi).2;obtain⟨f,hf⟩:=choose_lt (α:=aU) (p:=λi r=>bE (qP w) (jK r) (V i)/\(V i).oneCell'=aE/\∀B,(∀n∈pk bi 23 (D i),n<=B)->aA r*16<=B) hring;refine⟨(bT len).map f,?_,rfl,λB hB=> ?_⟩
  .refine⟨aD a,cap,af,aH,aH,λad e=> ?_⟩;cases e;refine⟨λhpos=> ?_,NF _ _ _ λi hi=> ?_⟩
   .have h0:=(hc 0 aH).1;simpa[FW]using Lw h0
   .simp only[dq,y4]at hi;have g1:=(hc i aC).1;have hs:a.spot=aM:=by simpa[FW]using Lw (hc 0 aC).1
    obtain⟨b,off,sp⟩:=a;subst hs;rw[y6]at g1;simp only[kz,u9];exact⟨V i,g1,aH,aH⟩
  .have hw:∀x,x∈pk bi 24 (DataW.slice ((bT len).map D) ((bT (m-len)).map λj=>D (len+j)))->x<=B:=by rw[hx]at hB;exact hB
   have hmem:∀{l:List (DataW H)} {d:DataW H} {x:Nat},d∈l->x∈pk bi 23 d->x∈DataW.weightsAll bi 23 l:=by
    intro l;induction l with
    |nil=>grind
    |cons e l ih=>
     simp only[DataW.weightsAll,bz];grind
   refine⟨?_,λr hr=> ?_⟩
   .have:=hw ((len+(m-len))*24) (by simp[pk,Fl,aEk]);grind
   .obtain⟨i,hi,rfl⟩:=bn.1 hr;have hi:=cP.1 hi;refine(hf i aC).2.2 B λx hx2=>hw x ?_;simp only[pk,Fl,bO,bz];grind
theorem YT{r:Reach}{b0:Nat}{v:Value}{d:DataW H}{p:List MemPlace}(hv:Value.okWide bi w r b0 26 v)(h:DataW.Trod enc bi w base spare held 26 v d p)(hw:∀n∈pk bi 26 d,n<=reachBytes):
  ∃s:Shape,bE (qP w) (m5 s) v/\pJ s:=by
 obtain⟨v0,v1,y0,y1,n,rfl,rfl,_,h0,h1⟩:=open_agg2 WM br aEg hv h;obtain⟨ro,g1,g2,g3⟩:=OP h0;obtain⟨rs,g4,g5,g6⟩:=YU h1;have hB:reachBytes<=140737488351232:=of_decide_eq_true br;have k1:=g3 reachBytes λx hx=>hw x (by simp only[pk,WM,dU,WN,bz];exact .inl hx);have k2:=g6 reachBytes λx hx=>hw x (by simp only[pk,WM,dU,WN,bz];grind);refine⟨⟨ro,rs⟩,?_,aH,aH,aH⟩;refine⟨[v0,v1],rfl,?_,?_⟩
 .refine⟨v0,[v1],rfl,g1,?_⟩;exact⟨v1,[],rfl,g4,by rfl⟩
 .intro u hu;grind
end
section
variable {H:Type} {enc:TypeId×Value->H} {w:World} {base:Nat} {spare:Nat->Bool} {held:Bool}
end
def aEM{f:FuncId}{xs:List SV}{r:SV}{B:List PV}{q:PV}(h:∃A q,avs xs=A.map .p/\r.av= .p q/\Sat bi aK f A q)(hB:avs xs=B.map .p)(hq:r.av= .p q):Sat bi aK f B q:=by
 obtain⟨A,q',h1,h2,h3⟩:=h;rw[hq]at h2;rw[hB]at h1;have:B=A:=by have:=congrArg bm h1;rw[eW,eW]at this;cases this;rfl
 grind
def aFV(s:Shape):(aSh.enc s).av= .p (m5 s):=by show fg [.p (.sl (aA s.outer) (iR s.outer)),.p (.sl (aA s.holes) (LT.R.enc s.holes))] =_;rw[wH];rfl
end
def FB(p:V)(e:S):List V:=if e.a=p then [e.b]else if e.b=p then [e.a]else []
def qN(l:List S)(p:V):List V:=l.flatMap (FB p)
def sr(l:List S)(p q:V):Bool:=decide (0<=turn p (fW (qN l p) p q aE) (fW (qN l p) p q aK))
def lfP(r:aU)(i:Nat):Bool:=decide (0<turn (aI7 r ((i+aA r-1) % (aA r))) (aI7 r i) (aI7 r ((i+1) % (aA r))))
def lfR(r:aU)(i:Nat):Nat:=aA ((bT i).filter (lfP r))
def aIO:Con:=con (a1 (aL .V)) (λr=>[aA r<=1000,(∀u∈r,bd 1000000000 u)]) (λr=> .iqz (lfR r (aA r):Nat))
def aHi:aIO.Okz 115:=bI tE (λr=>[lp 3 4 (aA r) ae [] (λk=>[(3,.iqz (lfR r k:Nat))]) ae]
  ) λr hp=>bD (aO (aA r:Int) λG=>(0=(0:Int)/\0=(lfR r 0:Int)/\(0:Nat)<=aA r)/\
 (∀x:Nat,aO (x+1) λA=>aO (x:Int) λB=>aO (aI7 r x) λC=>aO (aI7 r (A % (aA r))) λE=>aO (lfR r x:Int) λF=>aO (B+aA r-1) λH=>aO (dA H G) λI=>aO (aI7 r I.toNat) λJ=>aO ((x+1:Nat):Int) λK=>x<=aA r->qiq (B<aA r) (aX (B+aA r)/\aX H/\G≠0/\ix I (aA r)/\ix B (aA r)/\aX (B+1)/\G≠0/\ix ((A % (aA r):Nat):Int) (aA r)/\bd 1000000000 J/\bd 1000000000 C/\bd 1000000000 E/\qiq (0<turn J C E) (aX (F+1)/\aX (B+1)/\B+1=K/\F+1=lfR r A/\x+1<=(aA r)/\(aA r)-A<aA r-x) (aX (B+1)/\B+1=K/\F=lfR r A/\x+1<=(aA r)/\(aA r)-A<aA r-x)) (F=lfR r (aA r)))) (by
  change (aA r)<=1000/\((∀u∈r,bd 1000000000 u))at hp;obtain⟨hl,hb⟩:=hp;have bN:∀i:Nat,i<aA r->bd 1000000000 (aI7 r i):=λi h=>hb _ (dh h);have tm:∀x:Nat,(x:Int)<aA r->dA ((x:Int)+aA r-1) (aA r:Int)=(((x+aA r-1) % (aA r):Nat):Int):=λx h=>aH;have lt:∀x:Nat,(x:Int)<aA r->(x+aA r-1) % (aA r)<aA r:=λx h=>cG _ aC;have lt2:∀x:Nat,(x:Int)<aA r->(x+1) % (aA r)<aA r:=λx h=>cG _ aC;have f1:∀x:Nat,(x:Int)<aA r->aX ((x:Int)+aA r):=λx h=>bP aC;have f2:∀x:Nat,(x:Int)<aA r->aX ((x:Int)+aA r-1):=λx h=>bP aC;have f4:∀x:Nat,(x:Int)<aA r->ix (dA ((x:Int)+aA r-1) (aA r:Int)) (aA r):=λx h=>by rw[tm x h];exact fS (lt x h)
  have f5:∀x:Nat,(x:Int)<aA r->aX ((x:Int)+1):=λx h=>bP aC;have f6:∀x:Nat,(x:Int)<aA r->ix (((x+1) % (aA r):Nat):Int) (aA r):=λx h=>fS (lt2 x h);have f7:∀x:Nat,(x:Int)<aA r->bd 1000000000 (aI7 r (dA ((x:Int)+aA r-1) (aA r:Int)).toNat):=λx h=>by rw[tm x h];exact bN _ (lt x h)
  have f8:∀x:Nat,(x:Int)<aA r->bd 1000000000 (aI7 r x):=λx h=>bN _ aC;have f9:∀x:Nat,(x:Int)<aA r->bd 1000000000 (aI7 r ((x+1) % (aA r))):=λx h=>bN _ (lt2 x h);have q1:∀x:Nat,(x:Int)<aA r->0<turn (aI7 r (dA ((x:Int)+aA r-1) (aA r:Int)).toNat) (aI7 r x) (aI7 r ((x+1) % (aA r)))->(lfR r x:Int)+1=lfR r (x+1):=λx h h2=>by rw[tm x h,ju]at h2;unfold lfR;rw[pW,mJ,vA (show lfP r x=aE from decide_eq_true h2),eR];rfl
  have q2:∀x:Nat,(x:Int)<aA r->¬0<turn (aI7 r (dA ((x:Int)+aA r-1) (aA r:Int)).toNat) (aI7 r x) (aI7 r ((x+1) % (aA r)))->(lfR r x:Int)=lfR r (x+1):=λx h h2=>by rw[tm x h,ju]at h2;unfold lfR;rw[pW,mJ,FN (show¬lfP r x=aE from λh3=>h2 (of_decide_eq_true h3))];simp
  have q3:∀x:Nat,lfR r x<=x:=λx=>by have:=Fj (lfP r) (bT x);rw[y4]at this;exact this
  have q4:∀x:Nat,(x:Int)<aA r->aX ((lfR r x:Int)+1):=λx h=>aH;have q5:∀x:Nat,¬(x:Int)<aA r->x<=aA r->(lfR r x:Int)=lfR r (aA r):=λx h h2=>aH
  with_reducible ((repeat' first|apply cJ|intro);all_goals repeat cases‹_/\_›)
  all_goals first|rfl|with_reducible solve_by_elim|(with_reducible first|assumption|rfl)|grind)
def aF2:=tE.adk aHi
def lfS(s:Shape)(k:Nat):Nat:=((s.holes.take k).map λr=>lfR r (aA r)).sum
def Js(r:aU)(x:Nat):lfR r x<=x:=by have:=Fj (lfP r) (bT x);rw[y4]at this;exact this
def P9{s:Shape}{k:Nat}(h:k<aA s.holes):lfS s k+lfR (aP s.holes k) (aA (aP s.holes k))=lfS s (k+1):=by unfold lfS;rw[lC h,dV,nM,jz h];simp
def Jr{s:Shape}(h:∀x:Nat,x<aA s.holes->aA (aP s.holes x)<=1000):∀k,k<=aA s.holes->lfS s k<=1000*k
 |0,_=>by unfold lfS;simp
 |k+1,hk=>by
  have h1:=Jr h k aC;have h2:=Js (aP s.holes k) (aA (aP s.holes k));have h3:=h k aC;rw[<-P9 aC];omega
def ja(s:Shape):Int:=if aj s=aE then(aA s.outer:Int)-lfR s.outer (aA s.outer)+lfS s (aA s.holes) else 0
def c54:Con:=con (a1 aSh) (λs=>[Fit s]) (λs=> .iqz (ja s))
def k54:c54.Okz 51:=bI aF2 (λs=>[lp 5 4 (aA s.holes) ae [] (λk=>[(3,.iqz ((aA s.outer:Int)-lfR s.outer (aA s.outer)+lfS s k))]) ae]
 ) λs hp=>bD (aO (!aj s) λB=>aO (aA s.outer:Int) λD=>Fit s/\qbq B (0=ja s) (aA s.outer<=1000/\(∀u:aI8,u∈s.outer->bd 1000000000 u)/\aX (D-lfR s.outer (aA s.outer))/\(0=(0:Int)/\D-lfR s.outer (aA s.outer)=aA s.outer-lfR s.outer (aA s.outer)+lfS s 0/\(0:Nat)<=aA s.holes)/\
 (∀x:Nat,aO (x:Int) λA=>aO (aP s.holes x) λC=>x<=aA s.holes->qiq (A<aA s.holes) (ix A (aA s.holes)/\(aA C)<=1000/\(∀u:aI8,u∈aP s.holes x->bd 1000000000 u)/\aX (D-lfR s.outer (aA s.outer)+lfS s x+lfR C (aA C))/\qnr A x (D-lfR s.outer (aA s.outer)+lfS s x+lfR C (aA C)=aA s.outer-lfR s.outer (aA s.outer)+lfS s (x+1)/\x+1<=(aA s.holes)/\(aA s.holes)-(x+1)<aA s.holes-x)) (D-lfR s.outer (aA s.outer)+lfS s x=ja s)))) (by
 change Fit s at hp;have V:(!aj s)=aK->VS s:=λh=>vsR (nb h);have b0:∀r:aU,VR r->∀u:aI8,u∈r->bd 1000000000 u:=λr hr u hu=>by obtain⟨i,hi,e⟩:=fC.1 hu;rw[e];exact o4 hr.near hi
 have o1:(!aj s)=aK->∀u:aI8,u∈s.outer->bd 1000000000 u:=λh=>b0 _ (V h).outer;have o2:aA s.outer<=1000:=hp.1;have o3:=Js s.outer (aA s.outer);have h1:∀x:Nat,(x:Int)<aA s.holes->aA (aP s.holes x)<=1000:=λx h=>hp.hole aC;have h2:(!aj s)=aK->∀x:Nat,(x:Int)<aA s.holes->∀u:aI8,u∈aP s.holes x->bd 1000000000 u:=λh x hx=>b0 _ ((V h).hole x aC);have h3:aA s.holes<=900:=hp.2.1;have h4:∀x:Nat,x<=aA s.holes->lfS s x<=1000*x:=λx h=>Jr (λy hy=>hp.hole hy) x h;have e0:(!aj s)=aE->0=ja s:=λh=>by unfold ja;grind
 have z0:lfS s 0=0:=rfl;have w1:aX ((aA s.outer:Int)-lfR s.outer (aA s.outer)):=bP aC;have w2:∀x:Nat,(x:Int)<aA s.holes->aX ((aA s.outer:Int)-lfR s.outer (aA s.outer)+lfS s x+lfR (aP s.holes x) (aA (aP s.holes x))):=λx h=>by have a1:=h4 x aC;have a2:=Js (aP s.holes x) (aA (aP s.holes x));have a3:=h1 x h;exact bP aC
 have w3:∀x:Nat,(x:Int)<aA s.holes->aX ((x:Int)+1):=λx h=>bP aC;have s1:∀x:Nat,(x:Int)<aA s.holes->(aA s.outer:Int)-lfR s.outer (aA s.outer)+lfS s x+lfR (aP s.holes x) (aA (aP s.holes x))=aA s.outer-lfR s.outer (aA s.outer)+lfS s (x+1):=λx h=>by rw[<-P9 aC];omega
 have s2:(!aj s)=aK->∀x:Nat,¬(x:Int)<aA s.holes->x<=aA s.holes->(aA s.outer:Int)-lfR s.outer (aA s.outer)+lfS s x=ja s:=λh x h1 h2=>by unfold ja;grind
 with_reducible ((repeat' first|apply cJ|intro);all_goals repeat cases‹_/\_›)
 all_goals first|rfl|with_reducible solve_by_elim|(with_reducible first|assumption|rfl|exact h2 aJ _ aJ _ aJ|exact s2 aJ _ aJ aJ|exact o1 aJ _ aJ)|grind)
def mY(s:Shape)(K:List S)(k:Nat):List S:=ao s++K++(dOf s).drop k
def wD(l:List S)(d:S):Bool:= !sr l d.a d.b|| !sr l d.b d.a
def kpR(s:Shape):Nat->List S
 |0=>[]
 |k+1=>if wD (mY s (kpR s k) k) (az (dOf s) k)=aE then kpR s k++[az (dOf s) k]else kpR s k
def stR(s:Shape):List S:=if eOf s=0 then kpR s (aA (dOf s)) else []
def Rv(s:Shape):∀k,aA (kpR s k)<=k
 |0=>bR _
 |k+1=>by
  have:=Rv s k;unfold kpR;grind
def Aa(s:Shape):∀k,k<=aA (dOf s)->∀e∈kpR s k,e∈dOf s
 |0,_,e,he=>by cases he
 |k+1,h,e,he=>by
  unfold kpR at he;split at he
  .rcases bz.1 he with he|he
   .exact Aa s k aC e he
   .rw[cI.1 he,iV aC];grind
  .exact Aa s k aC e he
def hU(s:Shape)(k:Nat):List S:=aW s.outer++(s.holes.take k).flatMap λr=>aW r.reverse
def RG{r:aU}{e:S}(h:e∈aW r):e.a∈r/\e.b∈r:=by
 unfold aW at h;split at h
 .cases h
 .obtain⟨i,hi,rfl⟩:=bn.1 h;have hi:=cP.1 hi;exact⟨dh hi,dh (cG _ aC)⟩
def C2{p q:Nat->Bool}:∀n:Nat,(∀i,i<n->p i= !q i)->aA ((bT n).filter p)+aA ((bT n).filter q)=n
 |0,_=>rfl
 |n+1,h=>by
  have ih:=C2 n λi hi=>h i aC;have h1:=h n aC;rw[pW,mJ,mJ,eR,eR];grind
section
def qL(A:List (Nat×Nat))(L:List (List Int)):List (List Int):=A.foldl (λL p=>both L p.1 p.2) L
def CC(A B:List (Nat×Nat))(L:List (List Int)):qL (A++B) L=qL B (qL A L):=Bw
def NS(p:Nat×Nat)(A:List (Nat×Nat))(L:List (List Int)):qL (p::A) L=qL A (both L p.1 p.2):=rfl
def EY(base m:Nat):List (Nat×Nat):=(bT m).map λt=>(base+t,base+(t+1) % m)
def vl(R:List aU):Nat->List (Nat×Nat)
 |0=>[]
 |k+1=>vl R k++EY (bs R k) (aA (aP R k))
def Pg(base m:Nat)(L:List (List Int)):∀i,rgO base m i L=qL ((bT i).map λt=>(base+t,base+(t+1) % m)) L
 |0=>rfl
 |i+1=>by
  unfold rgO;rw[Pg base m L i,pW,dV,CC];rfl
def Pc(R:List aU)(L:List (List Int)):∀k,rsO R k L=qL (vl R k) L
 |0=>rfl
 |k+1=>by
  unfold rsO vl;rw[Pc R L k,CC,Pg];rfl
def QX(v:List V)(D:List S)(L:List (List Int)):∀k,k<=aA D->dgO v D k L=qL ((dgP v D).take k) L
 |0,_=>rfl
 |k+1,h=>by
  have hk:k<aA (dgP v D):=by unfold dgP;rw[dq];omega
  have hD:k<aA D:=aC;have e:(dgP v D)[k] =(dc v D[k].a,dc v D[k].b):=by simp only[dgP,kz]
  unfold dgO;rw[QX v D L k aC,lC hk,CC,e,iV hD];rfl
def qC(s:Shape):List (Nat×Nat):=vl (aR (aZ s)) (aA (aR (aZ s)))++dgP (vOf s) (dOf s)
def Re(s:Shape):oD s=qL (qC s) (dO (aA (vOf s)) []):=by unfold oD oB qC;rw[QX _ _ _ _ (bR _),Pc,CC,jB (by unfold dgP;grind)]
variable{L:List (List Int)}
def IG{a b c:Nat}{x:Int}(h:a<aA L):x∈bK (jp L a b) c↔x∈bK L c\/(c=a/\x=b):=by unfold jp;rw[xf];grind
def IF{a b c:Nat}{x:Int}(h1:a<aA L)(h2:b<aA L):x∈bK (both L a b) c↔x∈bK L c\/(c=a/\x=b)\/(c=b/\x=a):=by unfold both;rw[IG (by rw[AP];exact h2),IG h1,or_assoc]
def P8:∀(A:List (Nat×Nat)) {L:List (List Int)} {c:Nat} {x:Int},(∀p∈A,p.1<(aA L)/\p.2<aA L)->(x∈bK (qL A L) c↔x∈bK L c\/∃j:Nat,x=j/\((c,j)∈A\/(j,c)∈A))
 |[],L,c,x,_=>by
  show x∈bK L c↔_;simp
 |p::A,L,c,x,h=>by
  obtain⟨h1,h2⟩:=h p cR;rw[NS,P8 A (λq hq=>by rw[DQ];grind),IF h1 h2];grind
def Ns{a b:Nat}(h:∀c,(bK L c).Nodup)(hb:(b:Int)∉bK L a):∀c,(bK (jp L a b) c).Nodup:=λc=>by unfold jp;rw[xf];grind
def NR:∀(A:List (Nat×Nat)) {L:List (List Int)},(∀p∈A,p.1<(aA L)/\p.2<(aA L)/\p.1≠p.2)->(∀c,(bK L c).Nodup)->(∀p∈A,(p.2:Int)∉bK L p.1/\(p.1:Int)∉bK L p.2)->A.Pairwise (λp q=>p≠q/\p≠(q.2,q.1))->∀c,(bK (qL A L) c).Nodup
 |[],L,_,hn,_,_=>hn
 |p::A,L,h,hn,hm,hp=>by
  obtain⟨h1,h2,h3⟩:=h p cR;obtain⟨m1,m2⟩:=hm p cR;obtain⟨q1,q2⟩:=List.pairwise_cons.1 hp;rw[NS];refine NR A (λq hq=>by rw[DQ];grind) ?_ (λq hq=> ?_) q2
  .unfold both;refine Ns (Ns hn m1) λg=> ?_;rcases(IG h1).1 g with g|⟨g,_⟩
   .exact m2 g
   omega
  .have hq2:=hm q (cM _ hq);have hne:=q1 q hq;obtain⟨a,b⟩:=p;obtain⟨c,d⟩:=q;rw[IF h1 h2,IF h1 h2];grind
end
def phi(v:List aI8)(p:Nat×Nat):S:=⟨aI7 v p.1,aI7 v p.2⟩
def G4{a b:List aI8}{i:Nat}(h:i<aA a):aI7 (a++b) i=aI7 a i:=by unfold aI7;grind
def OR{a b:List aI8}(i:Nat):aI7 (a++b) (aA a+i)=aI7 b i:=by unfold aI7;grind
def AH:∀(R:List aU) (k t:Nat),k<aA R->t<aA (aP R k)->aI7 R.flatten (bs R k+t)=aI7 (aP R k) t
 |r::R,0,t,_,ht=>by
  have e:bs (r::R) 0=0:=rfl;rw[e,ku,mI];exact G4 ht
 |r::R,k+1,t,hk,ht=>by
  have e:bs (r::R) (k+1)=aA r+bs R k:=by unfold bs;rw[List.take_succ_cons,mI,eR]
  rw[e,Nat.add_assoc,mI,OR];exact AH R k t aH ht
def aBE{R:List aU}{k:Nat}(hk:k<aA R){p:Nat×Nat}(h:p∈EY (bs R k) (aA (aP R k))):p.1<(aA R.flatten)/\p.2<aA R.flatten:=by have h1:=uQ hk;have h2:=yX R (k+1);obtain⟨t,ht,rfl⟩:=bn.1 h;have ht:=cP.1 ht;have:=cG (t+1) (aC:0<aA (aP R k));omega
def OC{R:List aU}:∀k,k<=aA R->∀p∈vl R k,p.1<(aA R.flatten)/\p.2<aA R.flatten
 |0,_,p,h=>by cases h
 |k+1,hk,p,h=>by
  rcases bz.1 h with h|h
  .exact OC k aC p h
  .exact aBE aC h
def Zq{R:List aU}{k:Nat}(hk:k<aA R)(h2:2<=aA (aP R k)):(EY (bs R k) (aA (aP R k))).map (phi R.flatten)=aW (aP R k):=by unfold EY aW;rw[if_neg aC,du];refine lg λt ht=> ?_;have ht:=cP.1 ht;have e1:=AH R k t hk ht;have e2:=AH R k ((t+1) % (aA (aP R k))) hk (cG _ aC);show phi R.flatten (bs R k+t,bs R k+(t+1) % (aA (aP R k)))=bh (aP R k) t;unfold phi;dsimp only;rw[e1,e2];rfl
def ND{R:List aU}(h2:∀r∈R,2<=aA r):∀k,k<=aA R->(vl R k).map (phi R.flatten)=(R.take k).flatMap aW
 |0,_=>rfl
 |k+1,hk=>by
  unfold vl;rw[dV,ND h2 k aC,Zq aC (h2 _ (iU aC)),lC aC,wi,jz aC];simp
def uD{v:List aI8}{u:aI8}(h:u∈v):aI7 v (dc v u)=u:=by have hl:=o5 h;have:=List.findIdx_getElem (xs:=v) (p:=λx=>decide (u=x)) (w:=hl);unfold aI7;rw[fY,List.getElem?_eq_getElem hl];exact(of_decide_eq_true this).symm
def aD7{v:List aI8}{D:List S}(h:∀d∈D,d.a∈v/\d.b∈v):(dgP v D).map (phi v)=D:=by
 unfold dgP;rw[du];have:∀d∈D,(phi v∘λd:S=>(dc v d.a,dc v d.b)) d=d:=λd hd=>by show phi v (dc v d.a,dc v d.b)=d;unfold phi;dsimp only;rw[uD (h d hd).1,uD (h d hd).2]
 rw[lg this,List.map_id']
section
variable {s:Shape}
def sD(h:aj s=aE):aZ s=cn s:=by unfold aZ;rw[if_pos (by rw[jv];exact h)]
def qh(h:aj s=aE):vOf s=(aR (aZ s)).flatten:=by rw[uK h,sD h];rfl
def C9(h:aj s=aE):∀r∈aR (aZ s),2<=aA r:=by
 intro r hr;rw[sD h]at hr;have V:=vsR h;have key:∀q∈aR s,2<=aA q:=λq hq=>by have:=(V.ring hq).three;omega
 unfold aR cn at hr;rcases bO.1 hr with e|hr
 .rw[e,je];exact key _ cR
 .have hr2:=(nQ _).mem_iff.1 hr;obtain⟨q,hq,rfl⟩:=bn.1 hr2;rw[je];exact key _ (cM _ hq)
def NQ(h:aj s=aE):(qC s).map (phi (vOf s))=ao (cn s)++dOf s:=by
 unfold qC;rw[dV,aD7 λd hd=>(vu (by rw[jv];exact h)).2 d hd]
 congr 1
 rw[qh h,ND (C9 h) _ (bR _),ri,sD h];rfl
def zw(h:aj s=aE):∀p∈qC s,p.1<(aA (vOf s))/\p.2<aA (vOf s):=by
 intro p hp;unfold qC at hp;rcases bz.1 hp with hp|hp
 .rw[qh h];exact OC _ (bR _) p hp
 .exact Ea (by rw[jv];exact h) hp
end
section
variable {s:Shape}
def tg(h:aj s=aE):(vOf s).Perm (bW s):=by rw[uK h];exact qY s
def Ce(h:aj s=aE):(vOf s).Nodup:=(tg h).nodup_iff.2 (vsR h).nodup
def tgR(h:aj s=aE):Tg s (dOf s):=by rw[Dk h];exact J9 (vsR h) (λx=>(tg h).mem_iff) (Ce h)
def Mr{D:List S}(T:Tg s D){e:S}(he:e∈ao s):swp e∉ao s:=λhf=>by
 unfold ao at he hf;obtain⟨r,hr,her⟩:=dL.1 he;obtain⟨q,hq,heq⟩:=dL.1 hf;by_cases hrq:r=q
 .subst hrq;unfold aR at hr;rcases bO.1 hr with g|g
  .subst g;exact(te T her).2 (te T heq).1
  .exact(tq T g her).2 (tq T g heq).1
 .exact(zY T hr hq hrq (v:=e.a) (RG her).1 heq).2 rfl
def aAy{r:aU}(h:2<=aA r):(aW r).map S.a=r:=by unfold aW;rw[if_neg aC,du];refine List.ext_getElem af λi h1 h2=> ?_;rw[kz,u9];exact nth_eq h2
def IR:∀{l:List aU},(∀r∈l,2<=aA r)->(l.flatMap aW).map S.a=l.flatten
 |[],_=>rfl
 |r::l,h=>by
  rw[fw,dV,aAy (h r cR),IR λq hq=>h q (cM _ hq),mI]
def Wl(h:aj s=aE):(ao (cn s)).Nodup:=by
 have e:(ao (cn s)).map S.a=vOf s:=by rw[qh h,<-IR (C9 h),sD h];rfl
 have hn:=Ce h;rw[<-e]at hn;exact LY (λ{a b} hne (e:a=b)=>hne (by rw[e])) (kG.1 hn)
def Yc(h:aj s=aE):(qC s).Pairwise λp q=>p≠q/\p≠(q.2,q.1):=by
 have T:=tgR h;have key:((qC s).map (phi (vOf s))).Pairwise λe f=>e≠f/\e≠swp f:=by
  rw[NQ h,List.pairwise_append];refine⟨?_,?_,?_⟩
  .refine Lv (λ{e f} he hf hne=>⟨hne,λg=> ?_⟩) (Wl h);rw[zK]at he hf;rw[g]at he;exact Mr T hf he
  .exact T.once.imp λ{a b} h=>h
  .intro e he d hd;rw[zK]at he;exact ls T hd he
 rw[kG]at key;exact key.imp λ{p q} h=>⟨λe=>h.1 (by rw[e]),λe=>h.2 (by rw[e];rfl)⟩
def ql(h:aj s=aE){i j:Nat}(hi:i<aA (vOf s))(hj:j<aA (vOf s))(e:aI7 (vOf s) i=aI7 (vOf s) j):i=j:=gU (Ce h) hi hj e
def G8(h:aj s=aE){i j:Nat}(hi:i<aA (vOf s))(hj:j<aA (vOf s)):((i,j)∈qC s\/(j,i)∈qC s)↔sides s (dOf s) (aI7 (vOf s) i) (aI7 (vOf s) j):=by
 have m:∀{a b:Nat},a<aA (vOf s)->b<aA (vOf s)->((a,b)∈qC s↔(⟨aI7 (vOf s) a,aI7 (vOf s) b⟩:S)∈ao s++dOf s):=λ{a b} ha hb=>by
  rw[bz,<-zK,<-bz,<-NQ h,bn];constructor
  .intro g;exact⟨_,g,rfl⟩
  .rintro⟨⟨c,d⟩,g,e⟩;obtain⟨g1,g2⟩:=zw h _ g;have e1:aI7 (vOf s) c=aI7 (vOf s) a:=congrArg S.a e;have e2:aI7 (vOf s) d=aI7 (vOf s) b:=congrArg S.b e;have e1:=ql h g1 ha e1;have e2:=ql h g2 hb e2;grind
 rw[m hi hj,m hj hi];rfl
def EC(n c:Nat):bK (dO n ([] :List Int)) c=[] :=by unfold bK;grind
def x7(h:aj s=aE){i:Nat}(hi:i<aA (vOf s)){x:Int}:x∈bK (oD s) i↔∃j:Nat,x=j/\j<(aA (vOf s))/\sides s (dOf s) (aI7 (vOf s) i) (aI7 (vOf s) j):=by
 rw[Re,P8 _ (λp hp=>by rw[Bu];exact zw h p hp),EC];constructor
 .rintro(g|⟨j,rfl,g⟩)
  .cases g
  .have hj:j<aA (vOf s):=by
    rcases g with g|g
    .exact(zw h _ g).2
    .exact(zw h _ g).1
   exact⟨j,rfl,hj,(G8 h hi hj).1 g⟩
 .rintro⟨j,rfl,hj,g⟩;exact .inr ⟨j,rfl,(G8 h hi hj).2 g⟩
def Da(h:aj s=aE){a b:V}(g:sides s (dOf s) a b):a≠b:=(tgR h).segs.ne g
def aBU(h:aj s=aE)(c:Nat):(bK (oD s) c).Nodup:=by rw[Re];refine NR _ (λp hp=> ?_) (λc=>by rw[EC];grind) (λp hp=>by rw[EC,EC];grind) (Yc h) c;rw[Bu];obtain⟨h1,h2⟩:=zw h p hp;refine⟨h1,h2,λe=> ?_⟩;have:=(G8 h h1 h2).1 (.inl hp);rw[e]at this;exact Da h this rfl
def Ai(v:List V)(p x y:Nat):oQ v p x y<0↔alt (aJa (aI7 v x) (aI7 v p)) (aJa (aI7 v y) (aI7 v p)):=by
 unfold oQ;dsimp only;generalize aJa (aI7 v x) (aI7 v p)=a;generalize aJa (aI7 v y) (aI7 v p)=b;have ht:0<turn ⟨0,0⟩ a b↔0<cross a b:=by
  have e:cross (aJa a ⟨0,0⟩) (aJa b ⟨0,0⟩)=cross a b:=by unfold cross aJa;simp
  unfold turn sgn;rw[e];split
  .omega
  .omega
 have hh:∀u:V,j5 u=if i6 u then 0 else 1:=λu=>by unfold j5 i6;omega
 rw[hh,hh];unfold alt;grind
end
def vtx(v:List V)(x:Int):V:=aI7 v x.toNat
def gF(v:List V)(L:List (List Int))(i:Nat):List V:=(bK L i).map (vtx v)
section
variable {s:Shape}
def kC(h:aj s=aE):Net (bW s) (sides s (dOf s)):=(tgR h).segs.net
def Pu(h:aj s=aE){i:Nat}(hi:i<aA (vOf s)):∃j,j<(aA (vOf s))/\(⟨aI7 (vOf s) i,aI7 (vOf s) j⟩:S)∈ao s:=by
 have hm:aI7 (vOf s) i∈(ao (cn s)).map S.a:=by
  have e:(ao (cn s)).map S.a=vOf s:=by rw[qh h,<-IR (C9 h),sD h];rfl
  rw[e];exact dh hi
 obtain⟨⟨a,b⟩,he,e⟩:=bn.1 hm;have e:a=aI7 (vOf s) i:=e;subst e;have hb:b∈vOf s:=by unfold ao at he;obtain⟨r,hr,her⟩:=dL.1 he;rw[uK h];exact ml.2 ⟨r,hr,(RG her).2⟩
 obtain⟨j,hj,e⟩:=fC.1 hb;rw[zK,e]at he;grind
def gok(h:aj s=aE):GOk s:=λk hk=>by
 have N:=kC h;have cell:∀x∈bK (oD s) k,∃j:Nat,x=j/\j<(aA (vOf s))/\sides s (dOf s) (aI7 (vOf s) k) (aI7 (vOf s) j):=λx hx=>(x7 h hk).1 hx;have nzz:∀{j:Nat},sides s (dOf s) (aI7 (vOf s) k) (aI7 (vOf s) j)->nz (aJa (aI7 (vOf s) j) (aI7 (vOf s) k)):=λg=>mQ (N.ne g).symm;refine⟨?_,λx hx=> ?_,⟨?_,?_,?_⟩⟩
 .obtain⟨j,hj,he⟩:=Pu h hk;exact Lu ((x7 h hk).2 ⟨j,rfl,hj,.inl (iS _ he)⟩)
 .grind
 .intro x hx y hy z hz h1 h2;obtain⟨a,rfl,ha,ga⟩:=cell x hx;obtain⟨b,rfl,hb,gb⟩:=cell y hy;obtain⟨c,rfl,hc,gc⟩:=cell z hz;unfold ltA at*;rw[decide_eq_true_eq,Ai,ju,ju]at*;exact aA1 (nzz ga) (nzz gb) (nzz gc) h1 h2
 .intro x hx y hy h1;obtain⟨a,rfl,ha,ga⟩:=cell x hx;obtain⟨b,rfl,hb,gb⟩:=cell y hy;unfold ltA at*;rw[decide_eq_true_eq,Ai]at h1;rw[decide_eq_false_iff_not,Ai];exact If h1
 .intro x hx y hy h1 h2;obtain⟨a,rfl,ha,ga⟩:=cell x hx;obtain⟨b,rfl,hb,gb⟩:=cell y hy;unfold ltA at*;rw[decide_eq_false_iff_not,Ai,ju,ju]at h1 h2;by_cases e:a=b
  .rw[e]
  .exfalso;have hne:aI7 (vOf s) a≠aI7 (vOf s) b:=λg=>e (ql h ha hb g);exact h2 (aEs (nzz ga) (nzz gb) (N.fanApart ga gb hne) h1)
def I9(h:aj s=aE){i:Nat}(hi:i<aA (vOf s)):(bK (oG s) i).Perm (bK (oD s) i):=by unfold oG;rw[Ak _ _ _ _ (by rw[As];exact hi),if_pos hi];exact xH _ _
def aHC(h:aj s=aE){i:Nat}(hi:i<aA (vOf s)):aJh (aI7 (vOf s) i) (gF (vOf s) (oG s) i):=by
 have N:=kC h;have P:=I9 h hi;have g:=(gok h i hi).2.2;refine aFc N (λx hx=> ?_) ?_
 .obtain⟨y,hy,rfl⟩:=bn.1 hx;obtain⟨j,rfl,_,gj⟩:=(x7 h hi).1 (P.mem_iff.1 hy);unfold vtx;grind
 .unfold gF;rw[kG];have hs:(bK (oG s) i).Pairwise λa b=>ltA (vOf s) i b a=aK:=by unfold oG;rw[Ak _ _ _ _ (by rw[As];exact hi),if_pos hi];exact Fy g _ λ_ h=>h
  have hn:(bK (oG s) i).Nodup:=P.nodup_iff.2 (aBU h i);refine Lv (λ{a b} ha hb q=> ?_) (List.Pairwise.and hs hn);have ha:=P.mem_iff.1 ha;have hb:=P.mem_iff.1 hb;cases e:ltA (vOf s) i a b with
  |true=>
   unfold ltA at e;rw[decide_eq_true_eq,Ai]at e;exact e
  |false=>exact absurd (g.tot a ha b hb e q.1) q.2
def aCr(h:aj s=aE){i:Nat}(hi:i<aA (vOf s)){x:V}:x∈gF (vOf s) (oG s) i↔sides s (dOf s) (aI7 (vOf s) i) x:=by
 have P:=I9 h hi;unfold gF;rw[bn];constructor
 .rintro⟨y,hy,rfl⟩;obtain⟨j,rfl,_,gj⟩:=(x7 h hi).1 (P.mem_iff.1 hy);unfold vtx;grind
 .intro g;have hx:x∈vOf s:=(tg h).mem_iff.2 ((kC h).mem ((kC h).symm g));obtain⟨j,hj,rfl⟩:=fC.1 hx;exact⟨j,P.mem_iff.2 ((x7 h hi).2 ⟨j,rfl,hj,g⟩),by unfold vtx;grind⟩
end
section
def aAw{l:List S}{p x:V}(h:∀e∈l,e.a≠e.b):x∈qN l p↔eE l p x:=by
 unfold qN eE;rw[dL];constructor
 .rintro⟨⟨a,b⟩,he,hx⟩;unfold FB at hx;grind
 .rintro(g|g)
  .exact⟨_,g,by unfold FB;grind⟩
  .refine⟨_,g,?_⟩;have:=h _ g;unfold FB;grind
def R6{l:List Int}{x:Int}(h:x∈l):∃ha:gq l x<aA l,l[gq l x] =x:=by have ha:=R5 h;refine⟨ha,?_⟩;have:=List.findIdx_getElem (xs:=l) (p:=λu=>decide (x=u)) (w:=ha);exact(of_decide_eq_true this).symm
variable{v:List V}{L:List (List Int)}
def Mw{i j:Nat}{p:V}{l:List V}(F:aJh p (gF v L i))(hl:∀x,x∈l↔x∈gF v L i)(hm:(j:Int)∈bK L i):aI7 v (jj L i j (-1))=fW l p (aI7 v j) aE:=by
 obtain⟨ha,e⟩:=R6 hm;have hlen:aA (gF v L i)=aA (bK L i):=dq ..;have ha2:gq (bK L i) (j:Int)<aA (gF v L i):=aC;have e2:(gF v L i)[gq (bK L i) (j:Int)] =aI7 v j:=by simp only[gF,kz,e,vtx,ju]
 have hk:(gq (bK L i) (j:Int)+aA (gF v L i)-1) % (aA (gF v L i))<aA (gF v L i):=cG _ aC;have:=F.prev hl ha2 hk rfl;rw[e2]at this;rw[this];unfold jj;dsimp only;have e3:((gq (bK L i) (j:Int):Int)+ -1+aA (bK L i)).toNat=gq (bK L i) (j:Int)+aA (bK L i)-1:=aC;rw[e3];simp only[gF,kz,dq,vtx]
 congr 2
 exact qt aH
def Xy{i j:Nat}{p:V}{l:List V}(F:aJh p (gF v L i))(hl:∀x,x∈l↔x∈gF v L i)(hm:(j:Int)∈bK L i):aI7 v (jj L i j 1)=fW l p (aI7 v j) aK:=by
 obtain⟨ha,e⟩:=R6 hm;have hlen:aA (gF v L i)=aA (bK L i):=dq ..;have ha2:gq (bK L i) (j:Int)<aA (gF v L i):=aC;have e2:(gF v L i)[gq (bK L i) (j:Int)] =aI7 v j:=by simp only[gF,kz,e,vtx,ju]
 have hk:(gq (bK L i) (j:Int)+1) % (aA (gF v L i))<aA (gF v L i):=cG _ aC;have:=F.next hl ha2 hk rfl;rw[e2]at this;rw[this];unfold jj;dsimp only;have e3:((gq (bK L i) (j:Int):Int)+1+aA (bK L i)).toNat % (aA (bK L i))=(gq (bK L i) (j:Int)+1) % (aA (bK L i)):=by rw[show((gq (bK L i) (j:Int):Int)+1+aA (bK L i)).toNat=gq (bK L i) (j:Int)+1+(aA (bK L i)) by omega,mh]
 rw[e3];simp only[gF,kz,dq,vtx]
 congr 2
 exact qt aH
def aDH{i j:Nat}{A:List S}(F:aJh (aI7 v i) (gF v L i))(hl:∀x,x∈qN A (aI7 v i)↔x∈gF v L i)(hm:(j:Int)∈bK L i):jl v L i j=sr A (aI7 v i) (aI7 v j):=by unfold jl sr;rw[Mw F hl hm,Xy F hl hm]
section
variable {s:Shape}
def aDV(h:aj s=aE){i:Nat}(hi:i<aA (vOf s)):∃u,(⟨u,aI7 (vOf s) i⟩:S)∈ao s:=by
 have hm:aI7 (vOf s) i∈bW s:=(tg h).mem_iff.1 (dh hi);unfold bW at hm;obtain⟨r,hr,hx⟩:=ml.1 hm;obtain⟨t,ht,e⟩:=fC.1 hx;have h3:=((vsR h).ring hr).three;refine⟨aI7 r ((t+aA r-1) % (aA r)),dL.2 ⟨r,hr,?_⟩⟩;unfold aW;rw[if_neg aC];refine bn.2 ⟨(t+aA r-1) % (aA r),cP.2 (cG _ aC),?_⟩;have e2:((t+aA r-1) % (aA r)+1) % (aA r)=t:=by rw[kW,(aC:t+aA r-1+1=t+aA r),mh,dK ht]
 show bh r ((t+aA r-1) % (aA r))=_;unfold bh nxt;rw[e2,e]
end
end
abbrev AK(s:Shape)(k:Nat):List aI9:=mY s (kpR s k) k
def HK(s:Shape)(k:Nat)(e:aI9):Prop:=e∈i7 (de s) (kpR s k++(dOf s).drop k)
def nxK(s:Shape)(k:Nat)(e:aI9):V:=fW (qN (AK s k) e.b) e.b e.a aE
structure Stg(s:Shape)(k:Nat):Prop where
 fan:∀i,i<aA (vOf s)->aJh (aI7 (vOf s) i) (gF (vOf s) (sG s k).1 i)
 rng:∀i,i<aA (vOf s)->∀x∈bK (sG s k).1 i,∃j:Nat,x=j/\j<aA (vOf s)
 mem:∀i,i<aA (vOf s)->∀x,eE (AK s k) (aI7 (vOf s) i) x↔x∈gF (vOf s) (sG s k).1 i
 kept:(sG s k).2.map (phi (vOf s))=kpR s k
 faceQ:∃F,aJi (nxK s k) (HK s k) F/\∃TL,All3 (bW s) (sides s (dOf s)) (cT s) TL/\pI TL F/\(aA F)+k=aA TL+aA (kpR s k)
def Stg.face{s:Shape}{k:Nat}(S:Stg s k):∃F,aJi (nxK s k) (HK s k) F:=let⟨F,h,_⟩:=S.faceQ;⟨F,h⟩
def Fan.sub{p:V}{L M:List V}(F:aJh p L)(h:M.Sublist L):aJh p M where
 nz:=λx hx=>F.nz x (h.subset hx)
 apart:=λx hx y hy=>F.apart x (h.subset hx) y (h.subset hy)
 sorted:=F.sorted.sublist h
def Fan.nil(p:V):aJh p [] :=⟨λ_ h=>(cp h).elim,λ_ h=>(cp h).elim,wU⟩
def Faces.congr{nx:aI9->V}{H G:aI9->Prop}{F:List (List V)}(Fc:aJi nx H F)(h:∀e,H e↔G e):aJi nx G F:=⟨Fc.cx,Fc.once,λe=>(Fc.all e).trans (h e),Fc.next⟩
section
variable {s:Shape}
def QA(s:Shape):∀k,k<=aA (dOf s)->∀e∈kpR s k,∃m,∃hm:m<aA (dOf s),m<k/\(dOf s)[m] =e
 |0,_,e,he=>by cases he
 |k+1,h,e,he=>by
  unfold kpR at he;have up:∀e∈kpR s k,∃m,∃hm:m<aA (dOf s),m<k+1/\(dOf s)[m] =e:=λe he=>by obtain⟨m,hm,h1,h2⟩:=QA s k aC e he;grind
  split at he
  .rcases bz.1 he with he|he
   .exact up e he
   .rw[cI.1 he,iV aC];grind
  grind
variable{k:Nat}
def TG(hk:k<=aA (dOf s)):∀e∈AK s k,e∈ao s++dOf s:=λe he=>by
 unfold AK mY at he;rcases bz.1 he with he|he
 .rcases bz.1 he with he|he
  .grind
  .exact iF _ (Aa s k hk e he)
 grind
def oA(hk:k<=aA (dOf s)){a b:V}(h:eE (AK s k) a b):sides s (dOf s) a b:=h.imp (TG hk _) (TG hk _)
def aFX(h:aj s=aE)(hk:k<=aA (dOf s)):∀e∈AK s k,e.a≠e.b:=λe he=>Da h (oA hk (.inl he))
def I7(h:aj s=aE){m:Nat}(hm:m<aA (dOf s))(hk:k<aA (dOf s))(hne:m≠k):(dOf s)[m]≠(dOf s)[k]/\(dOf s)[m]≠swp (dOf s)[k] :=by
 have T:=(tgR h).once;rw[List.pairwise_iff_getElem]at T;rcases Nat.lt_or_gt_of_ne hne with g|g
 .exact T m k hm hk g
 .have:=T k m hk hm g;exact⟨this.1.symm,λe=>this.2 (by rw[e];rfl)⟩
def xy(h:aj s=aE)(hk:k<=aA (dOf s)){e:aI9}(he:HK s k e):eE (AK s k) e.a e.b:=by
 unfold HK i7 at he;rw[bz,bz,lJ,nf (tgR h)]at he;unfold AK mY eE;rw[kw];rcases he with⟨g,_⟩|g|g
 .exact g.imp (iS _) (iS _)
 .simp_all
 .exact .inr (iF _ g)
def uG(h:aj s=aE)(hk:k<=aA (dOf s)){p x:V}:x∈qN (AK s k) p↔eE (AK s k) p x:=aAw (aFX h hk)
def Hp(h:aj s=aE){a b:V}(g:sides s (dOf s) a b):a∈vOf s:=(tg h).mem_iff.2 ((kC h).mem g)
def Stg.start(h:aj s=aE):Stg s 0:=by
 have T:=tgR h;have N:=kC h;have e0:AK s 0=ao s++dOf s:=by unfold AK mY kpR;simp
 refine⟨λi hi=>aHC h hi,λi hi x hx=> ?_,λi hi x=> ?_,rfl,?_⟩
 .obtain⟨j,e,hj,_⟩:=(x7 h hi).1 ((I9 h hi).mem_iff.1 hx);grind
 .rw[e0];exact(aCr h hi).symm
 .obtain⟨TL,A⟩:=PC N (cT s) (vsR h).nodup;have eD:kpR s 0++(dOf s).drop 0=dOf s:=by unfold kpR;simp
  refine⟨_,Faces.congr (aFd T.filled A (DS:=i7 (de s) (dOf s)) ?_ (DK T (nf T)) ?_) λe=>by unfold HK;rw[eD],TL,A,pI.start TL,by unfold kpR;simp⟩
  .refine ze T (Cc T) λe he=> ?_;rcases((nf T e).1 he).1 with g|g
   .exact .inl g
   .exact .inr g
  .intro a b c t;exact Tri.next N t λx=>by rw[uG h (lh _),e0];rfl
def Stg.ar(h:aj s=aE)(S:Stg s k){i j:Nat}(hi:i<aA (vOf s))(hj:j<aA (vOf s))(g:eE (AK s k) (aI7 (vOf s) i) (aI7 (vOf s) j)):ArOk (vOf s) (sG s k).1 i j:=by
 refine⟨by rw[Am];exact hi,?_,λx hx=> ?_,?_⟩
 .obtain⟨y,hy,e⟩:=bn.1 ((S.mem i hi _).1 g);obtain⟨m,rfl,hm⟩:=S.rng i hi y hy;unfold vtx at e;rw[ju]at e;rw[<-ql h hm hj e];exact hy
 .obtain⟨m,rfl,hm⟩:=S.rng i hi x hx;omega
 .have hn:=(S.fan i hi).nodup;have e:gF (vOf s) (sG s k).1 i=((bK (sG s k).1 i).map Int.toNat).map (aI7 (vOf s)):=by unfold gF;rw[du];rfl
  rw[e]at hn;have hn2:((bK (sG s k).1 i).map Int.toNat).Nodup:=LY (λ{a b} hne (e:a=b)=>hne (by rw[e])) (kG.1 hn);have:=DD (aA (vOf s)) _ hn2 λx hx=>by obtain⟨y,hy,rfl⟩:=bn.1 hx;obtain⟨m,rfl,hm⟩:=S.rng i hi y hy;omega
  rw[dq]at this;have:=mv s;omega
def RU(h:aj s=aE)(hk:k<aA (dOf s)):(bC (pG s) k).1<(aA (vOf s))/\(bC (pG s) k).2<(aA (vOf s))/\aI7 (vOf s) (bC (pG s) k).1=(dOf s)[k].a/\aI7 (vOf s) (bC (pG s) k).2=(dOf s)[k].b:=by
 have hd:=(vu (s:=s) (by rw[jv];exact h)).2 _ (jr hk);have hp:k<aA (pG s):=by rw[uT];exact hk
 have e:bC (pG s) k=(dc (vOf s) (dOf s)[k].a,dc (vOf s) (dOf s)[k].b):=by rw[om hp];simp only[pG,dgP,kz]
 rw[e];exact⟨o5 hd.1,o5 hd.2,uD hd.1,uD hd.2⟩
def Stg.need(h:aj s=aE)(hk:k<=aA (dOf s))(S:Stg s k){i j:Nat}(hi:i<aA (vOf s))(hj:j<aA (vOf s))(g:eE (AK s k) (aI7 (vOf s) i) (aI7 (vOf s) j)):jl (vOf s) (sG s k).1 i j=sr (AK s k) (aI7 (vOf s) i) (aI7 (vOf s) j):=
 aDH (S.fan i hi) (λx=>by rw[uG h hk,S.mem i hi]) (S.ar h hi hj g).mem
end
section
def aBc{α:Type}{l:List α}{a b c:α}(ha:a∈l)(hb:b∈l)(hc:c∈l)(h1:a≠b)(h2:b≠c)(h3:a≠c):3<=aA l:=by obtain⟨i,hi,rfl⟩:=gv.1 ha;obtain⟨j,hj,rfl⟩:=gv.1 hb;obtain⟨k,hk,rfl⟩:=gv.1 hc;grind
def MX{l:List Int}{q x:Int}:x∈xn l q↔x∈l/\x≠q:=by unfold xn;grind
open Classical in
noncomputable def wO(v:List V)(L:List (List Int))(p:V):List V:=if p∈v then gF v L (dc v p)else []
section
variable {s:Shape}
variable{k:Nat}
def nY(h:aj s=aE)(hk:k<=aA (dOf s))(S:Stg s k)(p x:V):eE (AK s k) p x↔x∈wO (vOf s) (sG s k).1 p:=by
 unfold wO;by_cases hp:p∈vOf s
 .rw[if_pos hp,<-S.mem _ (o5 hp),uD hp]
 .rw[if_neg hp];exact⟨λg=>(hp (Hp h (oA hk g))).elim,λg=>(cp g).elim⟩
def AI(S:Stg s k)(p:V):aJh p (wO (vOf s) (sG s k).1 p):=by
 unfold wO;by_cases hp:p∈vOf s
 .rw[if_pos hp];have:=S.fan _ (o5 hp);rw[uD hp]at this;exact this
 .rw[if_neg hp];exact Fan.nil p
def Hs(h:aj s=aE)(hk:k<=aA (dOf s))(S:Stg s k){i:Nat}(hi:i<aA (vOf s)){x:V}{d:aI9}(hd:d∈dOf s)(hx:eE (AK s k) (aI7 (vOf s) i) x)(he:d=⟨aI7 (vOf s) i,x⟩\/d=⟨x,aI7 (vOf s) i⟩):3<=aA (wO (vOf s) (sG s k).1 (aI7 (vOf s) i)):=by
 have T:=tgR h;obtain⟨j,hj,e1⟩:=Pu h hi;obtain⟨u,e2⟩:=aDV h hi;have up:∀e∈ao s,e∈AK s k:=λe he=>by unfold AK mY;grind
 have m1:=(nY h hk S _ _).1 (.inl (up _ e1));have m2:=(nY h hk S _ _).1 (.inr (up _ e2));have m3:=(nY h hk S _ _).1 hx;refine aBc m1 m2 m3 (λe=> ?_) (λe=> ?_) (λe=> ?_)
 .rw[<-e]at e2;exact Mr T e1 e2
 .subst e;have g:=ls T hd e2;rcases he with he|he
  .exact g.2 (by rw[he];rfl)
  grind
 .have g:=ls T hd e1;rw[e]at g;rcases he with he|he
  .grind
  .exact g.2 (by rw[he];rfl)
def uP(hk:k<aA (dOf s)):(dOf s).drop k=(dOf s)[k] ::(dOf s).drop (k+1):=(List.drop_eq_getElem_cons hk)
def aFp(h:aj s=aE)(hk:k<aA (dOf s)):∀e∈ao s++(kpR s k++(dOf s).drop (k+1)),e≠(dOf s)[k]/\e≠swp (dOf s)[k] :=λe he=>by
 rcases bz.1 he with he|he
 .exact ls (tgR h) (jr hk) he
 .rcases bz.1 he with he|he
  .obtain⟨m,hm,h1,rfl⟩:=QA s k aC e he;exact I7 h hm hk aC
  .obtain⟨m,hm,rfl⟩:=gv.1 he;rw[V6];rw[FH]at hm;exact I7 h aC hk aC
def Stg.step(h:aj s=aE)(hk:k<aA (dOf s))(S:Stg s k):Stg s (k+1):=by
 obtain⟨hi,hj,ea,eb⟩:=RU h hk;have hd:=jr hk;have eN:az (dOf s) k=(dOf s)[k] :=iV hk;have gd:eE (AK s k) (dOf s)[k].a (dOf s)[k].b:= .inl (by unfold AK mY;rw[uP hk];grind);have gd':eE (AK s k) (dOf s)[k].b (dOf s)[k].a:=gd.symm;have n1:=S.need h aC hi hj aH;have n2:=S.need h aC hj hi aH;rw[ea,eb]at n1 n2;have kd:kpR s (k+1)=if wD (AK s k) (dOf s)[k] =aE then kpR s k++[(dOf s)[k]]else kpR s k:=by rw[<-eN];rfl
 by_cases hkeep:wD (AK s k) (dOf s)[k] =aE
 .rw[if_pos hkeep]at kd;have eA:AK s (k+1)=AK s k:=by unfold AK mY;rw[kd,uP hk];simp
  have eH:kpR s (k+1)++(dOf s).drop (k+1)=kpR s k++(dOf s).drop k:=by rw[kd,uP hk];simp
  have eG:=BE (s:=s) (k:=k) (by rw[n1,n2];unfold wD at hkeep;grind)
  refine⟨λi hi=>by rw[eG];exact S.fan i hi,λi hi=>by rw[eG];exact S.rng i hi,λi hi x=>by rw[eG,eA];exact S.mem i hi x,?_,?_⟩
  .rw[eG,kd,dV,S.kept]
   congr 1
   show [phi (vOf s) (bC (pG s) k)] =_;unfold phi;rw[ea,eb]
  .obtain⟨F,Fc,TL,A3,PQ,n⟩:=S.faceQ;have e1:nxK s (k+1)=nxK s k:=by unfold nxK;rw[eA]
   rw[e1];exact⟨F,Faces.congr Fc λe=>by unfold HK;rw[eH],TL,A3,PQ,by rw[kd,eR,wV];omega⟩
 .rw[if_neg hkeep]at kd;have hn:sr (AK s k) (dOf s)[k].a (dOf s)[k].b=aE/\sr (AK s k) (dOf s)[k].b (dOf s)[k].a=aE:=by unfold wD at hkeep;rw[jd,rP,rP,not_or,WO,WO]at hkeep;exact hkeep
  have eG:=Jf (s:=s) (k:=k) aH aH;have hneV:=Da h (oA aC gd);have hij:(bC (pG s) k).1≠(bC (pG s) k).2:=λe=>hneV aH;have off:=aFp h hk;have eA:AK s (k+1)=ao s++(kpR s k++(dOf s).drop (k+1)):=by unfold AK mY;rw[kd,kw]
  have eA0:∀e,e∈AK s k↔e∈AK s (k+1)\/e=(dOf s)[k] :=λe=>by rw[eA];unfold AK mY;rw[uP hk];grind
  have sd:∀p x,eE (AK s (k+1)) p x↔eE (AK s k) p x/\¬((p=(dOf s)[k].a/\x=(dOf s)[k].b)\/(p=(dOf s)[k].b/\x=(dOf s)[k].a)):=λp x=>by
   unfold eE;rw[eA0,eA0];rw[<-eA]at off;constructor
   .intro g;refine⟨g.imp .inl .inl,?_⟩;rintro(⟨rfl,rfl⟩|⟨rfl,rfl⟩)
    .rcases g with g|g
     .grind
     .exact(off _ g).2 rfl
    .rcases g with g|g
     .exact(off _ g).2 rfl
     grind
   grind
  have lenG:=Am s k;have at':∀c,bK (sG s (k+1)).1 c=if c=(bC (pG s) k).1 then xn (bK (sG s k).1 (bC (pG s) k).1) (bC (pG s) k).2 else if c=(bC (pG s) k).2 then xn (bK (sG s k).1 (bC (pG s) k).2) (bC (pG s) k).1 else bK (sG s k).1 c:=λc=>by
   rw[eG];unfold Eg;dsimp only;rw[xf];by_cases h1:c=(bC (pG s) k).1
   .grind
   .rw[if_neg λg=>h1 g.1,if_neg h1,xf];grind
  have sub':∀c,(bK (sG s (k+1)).1 c).Sublist (bK (sG s k).1 c):=λc=>by
   rw[at'];split
   .rename_i e;rw[e];exact List.filter_sublist
   .split
    .rename_i e;rw[e];exact List.filter_sublist
    grind
  have vin:∀{c m:Nat},c<aA (vOf s)->m<aA (vOf s)->∀x∈bK (sG s k).1 c,(vtx (vOf s) x=aI7 (vOf s) m↔x=(m:Int)):=λ{c m} hc hm x hx=>by obtain⟨t,rfl,ht⟩:=S.rng c hc x hx;unfold vtx;rw[ju];exact⟨λe=>by rw[ql h ht hm e],λe=>aH⟩
  have S':∀c,c<aA (vOf s)->∀x,eE (AK s (k+1)) (aI7 (vOf s) c) x↔x∈gF (vOf s) (sG s (k+1)).1 c:=λc hc x=>by
   rw[sd,S.mem c hc,<-ea,<-eb];unfold gF;rw[at'];by_cases h1:c=(bC (pG s) k).1
   .subst h1;rw[if_pos rfl];simp only[bn,MX];grind
   .rw[if_neg h1];by_cases h2:c=(bC (pG s) k).2
    .subst h2;rw[if_pos rfl];simp only[bn,MX];grind
    .rw[if_neg h2];constructor
     .grind
     .refine λg=>⟨g,?_⟩;rintro(⟨g,_⟩|⟨g,_⟩)
      .exact h1 (ql h hc hi g)
      .exact h2 (ql h hc hj g)
  refine⟨λc hc=>Fan.sub (S.fan c hc) ((sub' c).map _),λc hc x hx=>S.rng c hc x ((sub' c).subset hx),S',?_,?_⟩
  .rw[eG,kd];exact S.kept
  .obtain⟨F,Fc,TL,A3,PQ,n⟩:=S.faceQ;have hs:∀e,HK s k e->sides s (dOf s) e.a e.b:=λe he=>oA aC (xy h aC he);have inD:(dOf s)[k]∈kpR s k++(dOf s).drop k:=by rw[uP hk];exact iF _ cR
   have h1:HK s k ⟨(dOf s)[k].a,(dOf s)[k].b⟩:=by unfold HK i7;exact iF _ (iS _ inD)
   have h2:HK s k ⟨(dOf s)[k].b,(dOf s)[k].a⟩:=by unfold HK i7;refine iF _ (iF _ (lJ.2 inD))
   have t1:=Hs h aC S hi hd (by rw[ea];exact gd) (.inl (by rw[ea]));have t2:=Hs h aC S hj hd (by rw[eb];exact gd') (.inr (by rw[eb]));rw[ea]at t1;rw[eb]at t2;obtain⟨F',Fc',FJ⟩:=aJi.dropR (kC h) (l:=qN (AK s k)) (l':=qN (AK s (k+1))) (L:=wO (vOf s) (sG s k).1) Fc (AI S) (λp x=>by rw[uG h aC,nY h aC S]) hs
    (λe he=>(nY h aC S _ _).1 (xy h aC he).symm) (λp x=>by rw[uG h aC,sd,nY h aC S]) h1 h2 t1 t2 (of_decide_eq_true hn.1) (of_decide_eq_true hn.2)
   refine⟨F',Faces.congr Fc' λe=> ?_,TL,A3,PQ.joined FJ,by rw[kd];have:=FJ.len;omega⟩;unfold HK i7;rw[kd,uP hk];simp only[bz,bO,lJ];have o1:e∈de s->e≠(dOf s)[k]/\e≠swp (dOf s)[k] :=λg=>by
    rcases((nf (tgR h) e).1 g).1 with q|q
    .simp_all
    .have:=off _ (iS _ q);exact⟨λe'=>this.2 (by rw[e'];rfl),λe'=>this.1 (by rw[e'];rfl)⟩
   have o2:e∈kpR s k\/e∈(dOf s).drop (k+1)->e≠(dOf s)[k]/\e≠swp (dOf s)[k] :=λg=>off _ (iF _ (bz.2 g));have o3:swp e∈kpR s k\/swp e∈(dOf s).drop (k+1)->e≠(dOf s)[k]/\e≠swp (dOf s)[k] :=λg=>by have:=off _ (iF _ (bz.2 g));exact⟨λe'=>this.2 (by rw[e']),λe'=>this.1 (by rw[e'];rfl)⟩
   constructor
   .rintro⟨g|(g|g|g)|(g|g|g),q1,q2⟩
    .exact .inl g
    .grind
    .simp_all
    .grind
    .grind
    .exact absurd (show e=⟨(dOf s)[k].b,(dOf s)[k].a⟩ by rw[<-g];rfl) q2
    grind
   .rintro(g|(g|g)|(g|g))
    .exact⟨.inl g,o1 g⟩
    .exact⟨.inr (.inl (.inl g)),o2 (.inl g)⟩
    .exact⟨.inr (.inl (.inr (.inr g))),o2 (.inr g)⟩
    .exact⟨.inr (.inr (.inl g)),o3 (.inl g)⟩
    .exact⟨.inr (.inr (.inr (.inr g))),o3 (.inr g)⟩
end
end
section
variable {s:Shape}
def ms(h:aj s=aE):∀k,k<=aA (dOf s)->Stg s k
 |0,_=>Stg.start h
 |k+1,hk=>Stg.step h aC (ms h k aC)
def sok(h:aj s=aE):SOk s:=λk hk=>by rw[uT]at hk;have S:=ms h k aC;obtain⟨hi,hj,ea,eb⟩:=RU h hk;have gd:eE (AK s k) (dOf s)[k].a (dOf s)[k].b:= .inl (by unfold AK mY;rw[uP hk];grind);refine⟨S.ar h hi hj aH,S.ar h hj hi (by rw[ea,eb];exact gd.symm),λe=> ?_⟩;exact Da h (oA aC gd) aH
def aAh(s:Shape):sdG s=stR s:=by
 unfold sdG stR;rw[jv];by_cases h:aj s=aE
 .rw[if_pos h,if_pos (by unfold eOf;rw[if_pos h])];have S:=(ms h _ (bR _)).kept;unfold spG;rw[uT];exact S
 .rw[if_neg h,if_neg (by unfold eOf;grind)]
end
def DC(l:List Int)(a c:Nat)(x:Int):dj (l.set a x) c=if c=a/\a<(aA l) then x else dj l c:=by unfold dj;grind
def I0(n base m:Nat)(N:List Int):∀i,i<=m->∀c,¬(base<=c/\c<base+m)->dj (rgN n base m i N) c=dj N c
 |0,_,c,_=>rfl
 |i+1,hi,c,hc=>by
  have ih:=I0 n base m N i aC c hc;have:=cG (i+1) (aC:0<m);unfold rgN;split
  .rw[DC,if_neg aC];exact ih
  .rw[DC,if_neg aC];exact ih
def Ph(base m:Nat)(N:List Int)(hN:base+m<=aA N):∀i,i<=m->∀t,t<i->dj (rgN 0 base m i N) (base+t)=((base+(t+1) % m:Nat):Int)
 |0,_,t,ht=>aC
 |i+1,hi,t,ht=>by
  unfold rgN;rw[if_pos rfl,DC];by_cases e:t=i
  .subst e;rw[if_pos ⟨rfl,by rw[AW];omega⟩]
  .rw[if_neg aC];exact Ph base m N hN i aC t aC
def aE0{m t i:Nat}(h:t<i)(hi:i<m):(t+1) % m≠(i+1) % m:=by
 rw[dK (aC:t+1<m)];by_cases e:i+1=m
 .simp_all
 .rw[dK aC];omega
def RE{n:Nat}(hn:n≠0)(base m:Nat)(N:List Int)(hN:base+m<=aA N):∀i,i<=m->∀t,t<i->dj (rgN n base m i N) (base+(t+1) % m)=((base+t:Nat):Int)
 |0,_,t,ht=>aC
 |i+1,hi,t,ht=>by
  have:=cG (i+1) (aC:0<m);unfold rgN;rw[if_neg hn,DC];by_cases e:t=i
  .subst e;rw[if_pos ⟨rfl,by rw[AW];omega⟩]
  .have:=aE0 (m:=m) (aC:t<i) aC;rw[if_neg aC];exact RE hn base m N hN i aC t aC
def aEl{R:List aU}{a b:Nat}(h:a<b)(hb:b<=aA R):bs R a+aA (aP R a)<=bs R b:=by
 rw[uQ aC];obtain⟨d,rfl⟩:∃d,b=a+1+d:=⟨b-(a+1),aC⟩;clear h hb;induction d with
 |zero=>grind
 |succ d ih=>
  refine cZ ih ?_;unfold bs;rw[(aC:a+1+(d+1)=a+1+d+1),nO,List.flatten_append,eR];omega
def Sd{R:List aU}{N:List Int}(hN:aA R.flatten<=aA N):∀k,k<=aA R->∀a,a<k->∀t,t<aA (aP R a)->
  (a=0->dj (rsN R k N) (bs R a+t)=((bs R a+(t+1) % (aA (aP R a)):Nat):Int))/\(a≠0->dj (rsN R k N) (bs R a+(t+1) % (aA (aP R a)))=((bs R a+t:Nat):Int))
 |0,_,a,ha,t,ht=>aC
 |k+1,hk,a,ha,t,ht=>by
  have hl:bs R k+aA (aP R k)<=aA (rsN R k N):=by rw[Iy];have h1:=uQ (R:=R) (k:=k) aC;have h2:=yX R (k+1);omega
  have hm:=cG (t+1) (aC:0<aA (aP R a));unfold rsN;by_cases e:a=k
  .subst e;refine⟨λh0=> ?_,λh0=>RE h0 _ _ _ hl _ (bR _) t ht⟩;subst h0;exact Ph _ _ _ hl _ (bR _) t ht
  .have ih:=Sd hN k aC a aC t ht;have hb:=aEl (R:=R) (a:=a) (b:=k) aC aC;exact⟨λh0=>by rw[I0 _ _ _ _ _ (bR _) _ aC];exact ih.1 h0,λh0=>by rw[I0 _ _ _ _ _ (bR _) _ aC];exact ih.2 h0⟩
def Nf:∀(R:List aU) (i:Nat),i<aA R.flatten->∃k,k<(aA R)/\∃t,t<(aA (aP R k))/\i=bs R k+t
 |[],i,h=>by simp at h
 |r::R,i,h=>by
  by_cases h1:i<aA r
  .exact⟨0,af,i,h1,by show i=0+i;omega⟩
  .rw[mI,eR]at h;obtain⟨k,hk,t,ht,e⟩:=Nf R (i-aA r) aC;refine⟨k+1,aH,t,ht,?_⟩;have e2:bs (r::R) (k+1)=aA r+bs R k:=by unfold bs;rw[List.take_succ_cons,mI,eR]
   omega
section
variable {s:Shape}
def Ec(h:aj s=aE){a t:Nat}(ha:a<aA (aR (aZ s)))(ht:t<aA (aP (aR (aZ s)) a)):
  (a=0->dj (nG s) (bs (aR (aZ s)) a+t)=((bs (aR (aZ s)) a+(t+1) % (aA (aP (aR (aZ s)) a)):Nat):Int))/\(a≠0->dj (nG s) (bs (aR (aZ s)) a+(t+1) % (aA (aP (aR (aZ s)) a)))=((bs (aR (aZ s)) a+t:Nat):Int)):=
 Sd (by rw[Bu,qh h];omega) _ (bR _) a ha t ht
def Wp(h:aj s=aE){a:Nat}(ha:a<aA (aR (aZ s)))(h0:a≠0):∃q∈s.holes,aP (aR (aZ s)) a=bo q:=by
 rw[sD h]at ha|-;obtain⟨b,rfl⟩:∃b,a=b+1:=⟨a-1,aC⟩;have hb:b<aA (cn s).holes:=by unfold aR at ha;simpa using ha
 have hm:aP (cn s).holes b∈(cn s).holes:=iU hb;obtain⟨q,hq,e⟩:=bn.1 ((nQ _).mem_iff.1 hm);exact⟨q,hq,e.symm⟩
def OD(h:aj s=aE):aP (aR (aZ s)) 0=bo s.outer:=by rw[sD h];rfl
def xv{r:aU}{e:S}(he:e∈aW r):∃t,t<(aA r)/\e=⟨aI7 r t,aI7 r ((t+1) % (aA r))⟩:=by
 unfold aW at he;split at he
 .cases he
 .obtain⟨t,ht,rfl⟩:=bn.1 he;exact⟨t,cP.1 ht,rfl⟩
def Ab{r:aU}(h2:2<=aA r){t:Nat}(ht:t<aA r):(⟨aI7 r t,aI7 r ((t+1) % (aA r))⟩:S)∈aW r:=by unfold aW;rw[if_neg aC];exact bn.2 ⟨t,cP.2 ht,rfl⟩
def Jm(h:aj s=aE){i:Nat}(hi:i<aA (vOf s)):∃j:Nat,dj (nG s) i=j/\j<(aA (vOf s))/\(⟨aI7 (vOf s) i,aI7 (vOf s) j⟩:S)∈de s:=by
 have hi2:=hi;rw[qh h]at hi2;obtain⟨k,hk,t,ht,e⟩:=Nf _ i hi2;have h2:=C9 h _ (iU hk);have hl:bs (aR (aZ s)) k+aA (aP (aR (aZ s)) k)<=aA (vOf s):=by have h1:=uQ hk;have h3:=yX (aR (aZ s)) (k+1);rw[qh h];omega
 have fl:∀u,u<aA (aP (aR (aZ s)) k)->aI7 (vOf s) (bs (aR (aZ s)) k+u)=aI7 (aP (aR (aZ s)) k) u:=λu hu=>by rw[qh h];exact AH _ k u hk hu
 have hm:∀u,u % (aA (aP (aR (aZ s)) k))<aA (aP (aR (aZ s)) k):=λu=>cG _ aC;by_cases h0:k=0
 .refine⟨_,by rw[e];exact(Ec h hk ht).1 h0,by have:=hm (t+1);omega,?_⟩;rw[e,fl t ht,fl _ (hm _)];have g:=Ab h2 ht;unfold de;refine iS _ ((po s.outer _).1 ?_);subst h0;rw[OD h]at g|-;exact g
 .have ht0:=hm (t+aA (aP (aR (aZ s)) k)-1);have et:((t+aA (aP (aR (aZ s)) k)-1) % (aA (aP (aR (aZ s)) k))+1) % (aA (aP (aR (aZ s)) k))=t:=by rw[kW,show t+aA (aP (aR (aZ s)) k)-1+1=t+(aA (aP (aR (aZ s)) k)) by omega,mh,dK ht]
  have g:=(Ec h hk ht0).2 h0;have g2:=Ab h2 ht0;rw[et]at g g2;refine⟨_,by rw[e];exact g,aC,?_⟩;rw[e,fl t ht,fl _ ht0];obtain⟨q,hq,eq⟩:=Wp h hk h0;unfold de;refine iF _ (lJ.2 (dL.2 ⟨q,hq,(po q _).1 ?_⟩));rw[<-eq];exact g2
end
section
variable {s:Shape}
def Jo(h:aj s=aE){e:aI9}(he:e∈de s):∃i j:Nat,i<(aA (vOf s))/\dj (nG s) i=j/\e=⟨aI7 (vOf s) i,aI7 (vOf s) j⟩:=by
 have fl:∀{k:Nat},k<aA (aR (aZ s))->∀u,u<aA (aP (aR (aZ s)) k)->aI7 (vOf s) (bs (aR (aZ s)) k+u)=aI7 (aP (aR (aZ s)) k) u:=λ{k} hk u hu=>by rw[qh h];exact AH _ k u hk hu
 have hl:∀{k:Nat},k<aA (aR (aZ s))->bs (aR (aZ s)) k+aA (aP (aR (aZ s)) k)<=aA (vOf s):=λ{k} hk=>by have h1:=uQ hk;have h3:=yX (aR (aZ s)) (k+1);rw[qh h];omega
 unfold de at he;rcases bz.1 he with he|he
 .have he2:=(po s.outer e).2 he;rw[<-OD h]at he2;obtain⟨t,ht,e1⟩:=xv he2;have hk:0<aA (aR (aZ s)):=by unfold aR;simp
  have hm:=cG (t+1) (aC:0<aA (aP (aR (aZ s)) 0));refine⟨bs (aR (aZ s)) 0+t,_,aH,(Ec h hk ht).1 rfl,?_⟩;grind
 .rw[lJ]at he;obtain⟨q,hq,heq⟩:=dL.1 he;have hb:bo q∈(cn s).holes:=(nQ _).mem_iff.2 (bn.2 ⟨q,hq,rfl⟩);obtain⟨a,ha,ea⟩:∃a,a<(aA (cn s).holes)/\aP (cn s).holes a=bo q:=by obtain⟨a,ha,e⟩:=gv.1 hb;exact⟨a,ha,by rw[jz ha];exact e⟩
  have hk:a+1<aA (aR (aZ s)):=by rw[sD h];unfold aR;rw[iE];omega
  have er:aP (aR (aZ s)) (a+1)=bo q:=by rw[sD h];exact ea
  have he2:=(po q _).2 heq;rw[<-er]at he2;obtain⟨t,ht,e1⟩:=xv he2;have hm:=cG (t+1) (aC:0<aA (aP (aR (aZ s)) (a+1)));refine⟨bs (aR (aZ s)) (a+1)+(t+1) % (aA (aP (aR (aZ s)) (a+1))),_,aH,(Ec h hk ht).2 aC,?_⟩;rw[fl hk t ht,fl hk _ hm];have e2:e=swp (swp e):=rfl;rw[e2,e1];rfl
def HL(s:Shape):aI9->Prop:=HK s (aA (dOf s))
def vz{e:aI9}:HL s e↔e∈de s\/e∈kpR s (aA (dOf s))\/swp e∈kpR s (aA (dOf s)):=by unfold HL HK i7;rw[List.drop_length,vC,bz,bz,lJ]
def aC8(h:aj s=aE):(spG s).map (phi (vOf s))=kpR s (aA (dOf s)):=by have S:=(ms h _ (bR _)).kept;unfold spG;rw[uT];exact S
def Ad(h:aj s=aE){e:aI9}:e∈(hsG s).map (phi (vOf s))↔HL s e:=by
 rw[vz];unfold hsG;rw[dV,bz];refine or_congr ?_ ?_
 .unfold nxP;rw[du];constructor
  .intro g;obtain⟨i,hi,rfl⟩:=bn.1 g;have hi:=cP.1 hi;obtain⟨j,ej,hj,he⟩:=Jm h hi;show phi (vOf s) (i,(dj (nG s) i).toNat)∈_;rw[ej,ju];exact he
  .intro g;obtain⟨i,j,hi,ej,e1⟩:=Jo h g;refine bn.2 ⟨i,cP.2 hi,?_⟩;show phi (vOf s) (i,(dj (nG s) i).toNat)=e;rw[ej,ju,e1];rfl
 .rw[<-aC8 h,bn,bn,bn];constructor
  .rintro⟨p,hp,rfl⟩;obtain⟨q,hq,hpq⟩:=dL.1 hp;unfold j7 at hpq;rcases bO.1 hpq with e1|hpq
   .grind
   .rw[cI.1 hpq];exact .inr ⟨q,hq,rfl⟩
  .rintro(⟨p,hp,rfl⟩|⟨p,hp,e1⟩)
   .exact⟨p,dL.2 ⟨p,hp,cR⟩,rfl⟩
   .refine⟨(p.2,p.1),dL.2 ⟨p,hp,cM _ cR⟩,?_⟩;have:e=swp (phi (vOf s) p):=by rw[e1];rfl
    rw[this];rfl
end
section
def Po:∀(a:V) (l:List V),cS a l=(bT (aA l)).map λi=>(⟨aI7 (a::l) i,aI7 (a::l) (i+1)⟩:aI9)
 |a,[] =>rfl
 |a,x::l=>by
  have ih:=Po x l;show(⟨a,x⟩:aI9)::cS x l=_;rw[ih,iE,List.range_succ_eq_map,dU,du];rfl
variable{r:List V}
def Dl(h:0<aA r):cyc r=(bT (aA r)).map λi=>(⟨aI7 r i,aI7 r ((i+1) % (aA r))⟩:aI9):=by
 cases r with
 |nil=>simp at h
 |cons a l=>
  show cS a (l++[a])=_;rw[Po,eR,wV,iE];refine lg λi hi=> ?_;have hi:=cP.1 hi;have e1:aI7 (a::(l++[a])) i=aI7 (a::l) i:=G4 (a:=a::l) (b:=[a]) aC;rw[e1];by_cases h2:i+1<aA l+1
  .have e2:aI7 (a::(l++[a])) (i+1)=aI7 (a::l) (i+1):=G4 (a:=a::l) (b:=[a]) aC;rw[e2,dK h2]
  .have e3:i+1=aA l+1:=aC;have e2:aI7 (a::(l++[a])) (aA (a::l)+0)=aI7 [a] 0:=OR (a:=a::l) (b:=[a]) 0;rw[e3,io];rw[show (aA l)+1=aA (a::l)+0 from rfl,e2];rfl
def X7(hn:r.Nodup){k:Nat}(hk:k<aA r):yJ r k=eI r (aI7 r k):=by
 have c:=Dl (r:=r) aC;have m1:(⟨aI7 r ((k+aA r-1) % (aA r)),aI7 r k⟩:aI9)∈cyc r:=by rw[c];refine bn.2 ⟨(k+aA r-1) % (aA r),cP.2 (cG _ aC),?_⟩;rw[kW,(aC:k+aA r-1+1=k+aA r),mh,dK hk]
 have m2:(⟨aI7 r k,aI7 r ((k+1) % (aA r))⟩:aI9)∈cyc r:=by rw[c];exact bn.2 ⟨k,cP.2 hk,rfl⟩
 rw[gR,qo];unfold yJ;rw[decide_eq_true_eq];constructor
 .grind
 .rintro⟨a,b,ha,hb,h⟩;have e2:=Dm hn hb m2 rfl;have e1:a=aI7 r ((k+aA r-1) % (aA r)):=by
   rw[c]at ha;obtain⟨t,ht,e⟩:=bn.1 ha;have ht:=cP.1 ht;have ea:aI7 r t=a:=congrArg aI9.a e;have eb:aI7 r ((t+1) % (aA r))=aI7 r k:=congrArg aI9.b e;have:=gU hn (cG _ aC) hk eb;rw[<-ea,<-this];by_cases h3:t+1<aA r
   .rw[dK h3,(aC:t+1+aA r-1=t+aA r),mh,dK ht]
   .rw[(aC:t+1=aA r),io,ku,dK aC,(aC:t=aA r-1)]
  grind
def MT{r:List V}(hn:r.Nodup):∀k,k<=aA r->iZ r k=(r.take k).filter (eI r)
 |0,_=>rfl
 |k+1,h=>by
  have hk:k<aA r:=aC;rw[zf,MT hn k aC,lC hk,mJ,X7 hn hk,nth_eq hk];grind
def zP(hn:r.Nodup):fG r=r.filter (eI r):=by unfold fG;rw[MT hn _ (bR _),ri]
def gC(r:List V):List V:=bo (fG r)
def aD2(hn:r.Nodup){k l:List V}(e:r=k++l):gC (l++k)=gC r:=by subst e;have hn2:(l++k).Nodup:=List.perm_append_comm.nodup_iff.1 hn;unfold gC;rw[zP hn,zP hn2];exact aAL hn
section
variable {s:Shape}
def Al(s:Shape):soG s=(sG s (aA (dOf s))).1:=by unfold soG;rw[uT]
def KY(h:aj s=aE):∀p∈hsG s,p.1<(aA (vOf s))/\p.2<aA (vOf s):=λp hp=>by
 unfold hsG at hp;rcases bz.1 hp with hp|hp
 .unfold nxP at hp;obtain⟨i,hi,rfl⟩:=bn.1 hp;have hi:=cP.1 hi;obtain⟨j,ej,hj,_⟩:=Jm h hi;omega
 .obtain⟨q,hq,hpq⟩:=dL.1 hp;have hq2:q∈pG s:=It _ _ _ _ (bR _) q hq;have:=Ea (by rw[jv];exact h) hq2;unfold j7 at hpq;grind
def JE(h:aj s=aE){p:Nat×Nat}(hp:p∈hsG s):eE (AK s (aA (dOf s))) (aI7 (vOf s) p.1) (aI7 (vOf s) p.2):=
 xy h (bR _) ((Ad h).1 (bn.2 ⟨p,hp,rfl⟩))
def pc1(h:aj s=aE)(i j:Nat)(hm:(j:Int)∈bK (soG s) i):ArOk (vOf s) (soG s) i j/\ArOk (vOf s) (soG s) j i:=by
 have S:=ms h _ (bR _);rw[Al]at hm|-;have hi:i<aA (vOf s):=by
  by_cases hi:i<aA (vOf s)
  .exact hi
  .have:bK (sG s (aA (dOf s))).1 i=[] :=by unfold bK;rw[fY,List.getElem?_eq_none (by rw[Am];omega)];rfl
   grind
 obtain⟨m,e,hm2⟩:=S.rng i hi _ hm;have hj:j<aA (vOf s):=by have:=Int.ofNat.inj e;omega
 have g:eE (AK s (aA (dOf s))) (aI7 (vOf s) i) (aI7 (vOf s) j):=(S.mem i hi _).2 (bn.2 ⟨_,hm,by unfold vtx;grind⟩);exact⟨S.ar h hi hj g,S.ar h hj hi g.symm⟩
def pc2(h:aj s=aE):∀p∈hsG s,ArOk (vOf s) (soG s) p.2 p.1:=λp hp=>by have S:=ms h _ (bR _);obtain⟨h1,h2⟩:=KY h p hp;rw[Al];exact S.ar h h2 h1 (JE h hp).symm
def pc3(h:aj s=aE):∀i,i<aA (vOf s)->0<=dj (nG s) i:=λi hi=>by obtain⟨j,ej,_,_⟩:=Jm h hi;omega
def aDs(h:aj s=aE){p q:Nat×Nat}(hp:p.1<(aA (vOf s))/\p.2<aA (vOf s))(hq:q.1<(aA (vOf s))/\q.2<aA (vOf s))(e:phi (vOf s) p=phi (vOf s) q):p=q:=
 Prod.ext (ql h hp.1 hq.1 (congrArg aI9.a e)) (ql h hp.2 hq.2 (congrArg aI9.b e))
def Im(h:aj s=aE):∀(f:Nat) (U:List (Nat×Nat)) (p:Nat×Nat) (r:List V),(∀q∈U,q.1<(aA (vOf s))/\q.2<aA (vOf s))->p.1<aA (vOf s)->p.2<aA (vOf s)->
  eE (AK s (aA (dOf s))) (aI7 (vOf s) p.1) (aI7 (vOf s) p.2)->
  tr (nxK s (aA (dOf s))) f (U.map (phi (vOf s))) (phi (vOf s) p) r=((trc (vOf s) (soG s) f U p r).1.map (phi (vOf s)),(trc (vOf s) (soG s) f U p r).2)/\∀q∈(trc (vOf s) (soG s) f U p r).1,q.1<(aA (vOf s))/\q.2<aA (vOf s)
 |0,U,p,r,hU,_,_,_=>⟨rfl,hU⟩
 |f+1,U,p,r,hU,h1,h2,hs=>by
  have S:=ms h _ (bR _);have hin:phi (vOf s) p∈U.map (phi (vOf s))↔p∈U:=by
   constructor
   .intro g;obtain⟨q,hq,e⟩:=bn.1 g;rw[<-aDs h (hU q hq) ⟨h1,h2⟩ e];exact hq
   .grind
  by_cases hp:p∈U
  .rw[SU hp,EQ (hin.2 hp)];grind
  .rw[Qp hp,JT λg=>hp (hin.1 g)];have A:=S.ar h h2 h1 hs.symm;have ar:=A.around (-1);obtain⟨ar1,ar2⟩:=ar;have e1:nxK s (aA (dOf s)) (phi (vOf s) p)=aI7 (vOf s) (jj (soG s) p.2 p.1 (-1)):=by rw[Al];exact(Mw (S.fan _ h2) (λx=>(uG h (bR _)).trans (S.mem _ h2 x)) A.mem).symm
   have e2:(⟨(phi (vOf s) p).b,nxK s (aA (dOf s)) (phi (vOf s) p)⟩:aI9)=phi (vOf s) (nxH (soG s) p):=by rw[e1];rfl
   have hU2:∀q∈U++[p],q.1<(aA (vOf s))/\q.2<aA (vOf s):=λq hq=>aH;have hs2:eE (AK s (aA (dOf s))) (aI7 (vOf s) (nxH (soG s) p).1) (aI7 (vOf s) (nxH (soG s) p).2):=by rw[Al];refine(S.mem _ h2 _).2 (bn.2 ⟨_,ar1,?_⟩);unfold vtx;rw[ju];rfl
   have ih:=Im h f (U++[p]) (nxH (soG s) p) (r++[aI7 (vOf s) p.1]) hU2 h2 (by rw[Al];exact ar2) hs2;rw[dV]at ih;rw[e2];exact ih
end
end
section
variable {s:Shape}
variable{F:List (List V)}
def rp(h:aj s=aE)(Fc:aJi (nxK s (aA (dOf s))) (HL s) F){r:List V}(hr:r∈F):∀e∈cyc r,sides s (dOf s) e.a e.b:=λe he=>
 oA (bR _) (xy h (bR _) ((Fc.all e).1 (dL.2 ⟨r,hr,he⟩)))
def QR(h:aj s=aE)(Fc:aJi (nxK s (aA (dOf s))) (HL s) F){r:List V}(hr:r∈F):aA r<=aA (vOf s):=by
 have c:=Fc.cx r hr;have hv:∀u∈r,u∈vOf s:=λu hu=>by
  have hu2:u∈(cyc r).map S.a:=by rw[uH];exact hu
  obtain⟨e,he,rfl⟩:=bn.1 hu2;exact Hp h (rp h Fc hr e he)
 have hn:(r.map (dc (vOf s))).Nodup:=by unfold rV;rw[kG];refine Lv (λ{a b} ha hb hne e=>hne ?_) c.nodup;have e1:=uD (hv a ha);rw[e,uD (hv b hb)]at e1;exact e1.symm
 have:=DD (aA (vOf s)) _ hn λx hx=>by obtain⟨u,hu,rfl⟩:=bn.1 hx;exact o5 (hv u hu)
 grind
def HY(h:aj s=aE)(Fc:aJi (nxK s (aA (dOf s))) (HL s) F):∀r∈F,aA r<=trU (vOf s):=λr hr=>by have h1:=QR h Fc hr;have h2:=(Fc.cx r hr).three;unfold trU;have:aA (vOf s)*1<=aA (vOf s)*aA (vOf s):=Nat.mul_le_mul_left _ aC;omega
def aAt(Fc:aJi (nxK s (aA (dOf s))) (HL s) F):∀r∈F,∀k l,r=k++l->gC (l++k)=gC r:=λr hr _ _ e=>aD2 (Fc.cx r hr).nodup e
def H7(h:aj s=aE):∀k,k<=aA (hsG s)->qQ (nxK s (aA (dOf s))) (trU (vOf s)) gC (((hsG s).take k).map (phi (vOf s))) ([],[])=((pcK s k).1.map (phi (vOf s)),(pcK s k).2)/\∀q∈(pcK s k).1,q.1<(aA (vOf s))/\q.2<aA (vOf s)
 |0,_=>⟨rfl,λq hq=>(cp hq).elim⟩
 |k+1,hk=>by
  obtain⟨ih,hr⟩:=H7 h k aC;have hkl:k<aA (hsG s):=aC;have hm:(hsG s)[k]∈hsG s:=jr hkl;obtain⟨l1,l2⟩:=KY h _ hm;obtain⟨sim,hr2⟩:=Im h (trU (vOf s)) (pcK s k).1 (hsG s)[k] [] hr l1 l2 (JE h hm);rw[lC hkl,dV,List.map_singleton,Mh,ih];dsimp only;rw[sim,xb,om hkl];exact⟨rfl,hr2⟩
def aBb(h:aj s=aE)(Fc:aJi (nxK s (aA (dOf s))) (HL s) F){k:Nat}(hk:k<aA (hsG s))(h0:0<aA (trc (vOf s) (soG s) (trU (vOf s)) (pcK s k).1 (bC (hsG s) k) []).2):
  ∃r∈F,∃a b,r=a++b/\(trc (vOf s) (soG s) (trU (vOf s)) (pcK s k).1 (bC (hsG s) k) []).2=b++a:=by
 obtain⟨ih,hr⟩:=H7 h k aC;have hm:(hsG s)[k]∈hsG s:=jr hk;obtain⟨l1,l2⟩:=KY h _ hm;obtain⟨sim,_⟩:=Im h (trU (vOf s)) (pcK s k).1 (hsG s)[k] [] hr l1 l2 (JE h hm);have I:=Ps Fc (HY h Fc) (g:=gC) (((hsG s).take k).map (phi (vOf s))) ([],[]) (wT.nil F) λe he=>by obtain⟨p,hp,rfl⟩:=bn.1 he;exact(Ad h).1 (bn.2 ⟨p,List.mem_of_mem_take hp,rfl⟩)
 rw[ih]at I;rw[om hk]at h0|-;rcases Qr Fc (HY h Fc) I (e:=phi (vOf s) (hsG s)[k]) ((Ad h).1 (bn.2 ⟨_,hm,rfl⟩))with t|⟨r,hrF,a,b,e,t,_⟩
 .grind
 grind
def VY(h:aj s=aE):tM s:=by
 refine⟨pc1 h,pc2 h,pc3 h,λk hk h0=> ?_⟩;obtain⟨F,Fc⟩:=(ms h _ (bR _)).face;obtain⟨r,hr,a,b,e,et⟩:=aBb h Fc hk h0;have c:=Fc.cx r hr;have hl:=QR h Fc hr;have hv:=mv s;have c2:CX (b++a):=by rw[e]at c;exact c.swap
 have hp:(cyc (b++a)).Perm (cyc r):=by rw[e];exact kh a b
 rw[et];refine⟨?_,?_⟩
 .grind
 .rw[zP c2.nodup];exact List.length_pos_iff.2 (c2.corner (kC h) λq hq=>rp h Fc hr q (hp.mem_iff.1 hq))
def H8(h:aj s=aE)(Fc:aJi (nxK s (aA (dOf s))) (HL s) F):(pcK s (aA (hsG s))).2.Perm (F.map gC):=by have g:=G0 Fc (HY h Fc) (aAt Fc) ((hsG s).map (phi (vOf s))) ([],[]) [] F (λe he=>(Ad h).1 he) (.refl _) (λe=>af) (.refl _) λr hr e he=>(Ad h).2 ((Fc.all e).1 (dL.2 ⟨r,hr,he⟩));have e:=(H7 h (aA (hsG s)) (bR _)).1;grind
end
def JA(s:Shape):∀k,k<=aA (dOf s)->(kpR s k).Sublist ((dOf s).take k)
 |0,_=>List.nil_sublist _
 |k+1,h=>by
  have ih:=JA s k aC;have hk:k<aA (dOf s):=aC;rw[lC hk];unfold kpR;split
  .rw[iV hk];grind
  grind
section
variable {s:Shape}
def aEF(h:aj s=aE):stR s=kpR s (aA (dOf s)):=by unfold stR;rw[if_pos (by unfold eOf;rw[if_pos h])]
def aAu{F:List (List V)}(Fc:aJi (nxK s (aA (dOf s))) (HL s) F){e:S}(he:HL s e):HL s ⟨e.b,nxK s (aA (dOf s)) e⟩:=by
 obtain⟨r,hr,hm⟩:=dL.1 ((Fc.all e).2 he);have hb:e.b∈(cyc r).map S.a:=by rw[uH];exact nD hm
 obtain⟨f,hf,ef⟩:=bn.1 hb;have:=Fc.next r hr e hm f hf ef.symm;rw[this,<-ef];exact(Fc.all _).1 (dL.2 ⟨r,hr,hf⟩)
end
section
variable {s:Shape} {u:V}
end
section
variable {s:Shape}
def Dc(h:aj s=aE):(pcG s).Perm (pcK s (aA (hsG s))).2:=by unfold pcG;rw[jv,if_pos h];exact vJ _
def Zz(h:aj s=aE):(pcG s).Pairwise λa b=>cg a b<0:=by
 obtain⟨F,Fc⟩:=(ms h _ (bR _)).face;have hg:F.map gC=F.map dQ:=lg λr hr=>by unfold gC;rw[zP (Fc.cx r hr).nodup];rfl
 have hn:(pcG s).Nodup:=by rw[(Dc h).nodup_iff,(H8 h Fc).nodup_iff,hg];exact Fc.corners (kC h) λe he=>oA (bR _) (xy h (bR _) he)
 have hs:(pcG s).Pairwise j4:=by unfold pcG;rw[jv,if_pos h];exact Lx _ [] wU
 refine(List.Pairwise.and hs hn).imp λ{a b} ⟨h1,h2⟩=> ?_;have:cg a b≠0:=λe=>h2 (zQ _ _ e);unfold j4 at h1;omega
def Ji(h:aj s=aE):∀r∈pcG s,aA r<=1000:=λr hr=>
 I5 (VY h) _ (bR _) r ((Dc h).mem_iff.1 hr)
def aDt(h:aj s=aE):∀r∈pcG s,∀v∈r,v∈bW s:=λr hr v hv=>by obtain⟨F,Fc⟩:=(ms h _ (bR _)).face;obtain⟨q,hq,rfl⟩:=bn.1 ((H8 h Fc).mem_iff.1 ((Dc h).mem_iff.1 hr));unfold gC at hv;rw[(oe _).mem_iff]at hv;have hv:=He q _ (bR _) v hv;rw[<-uH q]at hv;obtain⟨e,he,rfl⟩:=bn.1 hv;exact(kC h).mem (oA (bR _) (xy h (bR _) ((Fc.all e).1 (dL.2 ⟨q,hq,he⟩))))
end
def trq(v:List V)(q:Nat×Nat×Nat):aU:=db (aI7 v q.1) (aI7 v q.2.1) (aI7 v q.2.2)
def Rx(s:Shape)(v:List V)(T:aJd)(i j:Nat)(acc:List aU):∀m,qT s v T i j acc m=acc++(kL s v T i j m).map (trq v)
 |0=>(vC _).symm
 |m+1=>by
  unfold qT se kL;rw[Rx s v T i j acc m,dV];split<;>simp[trq]
def Ry(s:Shape)(v:List V)(T:aJd)(i:Nat)(acc:List aU):∀m,pQ s v T i acc m=acc++(jL s v T i m).map (trq v)
 |0=>(vC _).symm
 |m+1=>by
  unfold pQ jL;rw[Ry s v T i acc m,dV];split
  .rw[Rx,kw]
  .simp
def R7(s:Shape)(v:List V)(T:aJd):∀n,kD s v T n=(iL s v T n).map (trq v)
 |0=>rfl
 |n+1=>by
  unfold kD iL;rw[Ry,R7 s v T n,dV]
section
variable {s:Shape}
def aB8(h:aj s=aE){i k:Nat}(hi:i<aA (vOf s))(hk:k<aA (vOf s)):tT s i k=aE↔sides s (dOf s) (aI7 (vOf s) i) (aI7 (vOf s) k):=by rw[<-TK h hi hk,Xc];unfold sides eE;rw[bz,bz,bz,bz,or_comm (a:=_∈dOf s),or_comm (a:=_∈dOf s)]
def aBh(h:aj s=aE):(tOf s).Perm ((iL s (vOf s) (tT s) (aA (vOf s))).map (trq (vOf s))):=by unfold tOf;rw[if_pos h];unfold TI;rw[<-R7];exact vJ _
def aB7(h:aj s=aE):∃TL,All3 (bW s) (sides s (dOf s)) (cT s) TL/\tOf s=TL.map T3.ring:=
 aA7 (tgR h) (v:=vOf s) (λx=>(tg h).mem_iff) (Ce h) (aE7 λi k hi hk=>aB8 h hi hk) (aBh h)
end
section
variable{r:List V}
def xT(h:2<=aA r):cyc r=aW r:=by rw[Dl aC];unfold aW;rw[if_neg aC];rfl
def DG(h:2<=aA r){q:P3}:LS r q↔∀f∈kP r,0<ev f q:=by unfold LS kP;rw[xT h];simp
def aAZ{a b:aU}(ha:CR a)(hb:CR b):fU a b=aK↔∃q:P3,0<q.d/\LS a q/\LS b q:=by
 have la:=ha.len;have lb:=hb.len;have h2:=MH ha.poly hb.poly;have r1:=xI a b aC;have r2:=xI b a aC;have e:Geo.Sat (kP a++kP b)↔∃q:P3,0<q.d/\LS a q/\LS b q:=by unfold Geo.Sat;simp only[DG (aC:2<=aA a),DG (aC:2<=aA b),bz,or_imp,forall_and]
 rw[<-e,h2];unfold fU;rw[Bool.or_eq_false_iff,pZ,pZ,ne_eq,ne_eq,r1,r2];grind
def aAN{W:List V}{side:V->V->Prop}(N:Net W side)(c:CX r)(hs:∀e∈cyc r,side e.a e.b)(hn:∀v∈r,bF v 2000=aE):c8 (dQ r)=aE:=by
 have pm:(dQ r).Perm (r.filter (eI r)):=oe _;have l3:3<=aA (dQ r):=by rw[pm.length_eq];exact c.corners3 N hs
 have nd:(dQ r).Nodup:=pm.nodup_iff.2 (c.nodup.filter _);unfold c8;rw[cD,cD,decide_eq_true_eq,cC,cC];refine⟨l3,λv hv=>hn v (eY.1 (pm.mem_iff.1 hv)).1,λi hi=>cC.2 λn hm=> ?_⟩;have hi:=cP.1 hi;have hm:=cP.1 hm;simp only[jd,decide_eq_true_eq];by_cases e1:n=i
 .exact .inl (.inl e1)
 by_cases e2:n=(i+1) % (aA (dQ r))
 .exact .inl (.inr e2)
 refine .inr ((sF _).2 ?_);have hj:=cG (i+1) (aC:0<aA (dQ r));have hij:i≠(i+1) % (aA (dQ r)):=λe=>by
  rcases pV (i+1) (aA (dQ r)) with g|g
  .rw[dK g]at e;omega
  .have:i+1=aA (dQ r):=aC;rw[this,io]at e;omega
 have m:=λ{k:Nat} (hk:k<aA (dQ r))=>pm.mem_iff.1 (dh hk);have ne:=λ{a b:Nat} (ha:a<aA (dQ r)) (hb:b<aA (dQ r)) (h:a≠b) (e:aI7 (dQ r) a=aI7 (dQ r) b)=>h (gU nd ha hb e);have lw:LW (dQ r) (pt (aI7 (dQ r) n)):=(c.corners N hs aK _).2 λe he=>c.left e he _ (eY.1 (m hm)).1;have g:0<=ev (lin (aI7 (dQ r) i) (aI7 (dQ r) ((i+1) % (aA (dQ r))))) (pt (aI7 (dQ r) n)):=lw ⟨_,_⟩ (by rw[xT (aC:2<=aA (dQ r))];exact Ab aC hi);rw[di]at g;have nz:=c.nocol (m hi) (m hj) (m hm) (ne hi hj hij) (ne hj hm (kZ e2)) (ne hi hm (kZ e1));show 0<cross (aJa (aI7 (dQ r) ((i+1) % (aA (dQ r)))) (aI7 (dQ r) i)) (aJa (aI7 (dQ r) n) (aI7 (dQ r) i));omega
section
variable {s:Shape}
def yN(h:aj s=aE):∃F TL,aJi (nxK s (aA (dOf s))) (HL s) F/\All3 (bW s) (sides s (dOf s)) (cT s) TL/\pI TL F/\(aA F)+aA (dOf s)=aA TL+(aA (kpR s (aA (dOf s))))/\(pcG s).Perm (F.map dQ):=by
 obtain⟨F,Fc,TL,A,P,n⟩:=(ms h _ (bR _)).faceQ;refine⟨F,TL,Fc,A,P,n,?_⟩;have hg:F.map gC=F.map dQ:=lg λr hr=>by unfold gC;rw[zP (Fc.cx r hr).nodup];rfl
 rw[<-hg];exact(Dc h).trans (H8 h Fc)
def Ap{F:List (List V)}(p:(pcG s).Perm (F.map dQ))(r:aU):r∈pcG s↔∃f∈F,dQ f=r:=by rw[p.mem_iff,bn]
def aAv(h:aj s=aE){f:List V}(hs:∀e∈cyc f,sides s (dOf s) e.a e.b)(c:CX f):∀v∈f,bF v 2000=aE:=λv hv=>by obtain⟨_,b,_,hb⟩:=c.around hv;exact lF (vsR h) ((kC h).mem (hs _ hb))
def AX(h:aj s=aE):∀r∈pcG s,c8 r=aE:=λr hr=>by obtain⟨F,TL,Fc,A,P,_,p⟩:=yN h;obtain⟨f,hf,rfl⟩:=(Ap p r).1 hr;exact aAN (kC h) (Fc.cx f hf) (rp h Fc hf) (aAv h (rp h Fc hf) (Fc.cx f hf))
end
end
section
variable {s:Shape}
variable{F:List (List V)}
def aAB(h:aj s=aE)(Fc:aJi (nxK s (aA (dOf s))) (HL s) F):∀e∈ao s,∃r∈F,e∈cyc r\/swp e∈cyc r:=λe hem=>by
 have hd:e∈de s\/swp e∈de s:=by unfold de;rw[z7,bz]at hem;rw[bz,bz,lJ,lJ,show swp (swp e)=e from rfl];grind
 have up:∀{d:S},d∈de s->∃r∈F,d∈cyc r:=λ{d} g=>dL.1 ((Fc.all d).2 (vz.2 (.inl g)));rcases hd with g|g
 .obtain⟨r,hr,k⟩:=up g;exact⟨r,hr,.inl k⟩
 .obtain⟨r,hr,k⟩:=up g;exact⟨r,hr,.inr k⟩
def IT(h:aj s=aE){TL:List T3}(Fc:aJi (nxK s (aA (dOf s))) (HL s) F)(A:All3 (bW s) (sides s (dOf s)) (cT s) TL)(P:pI TL F){f:List V}(hf:f∈F){q:P3}(hq:0<q.d)(g:LS f q){e:S}(he:e∈ao s)(b:Bet q e.a e.b):False:=by
 obtain⟨r,hr,k⟩:=aAB h Fc e he;have ends:e.a∈r/\e.b∈r:=by
  rcases k with k|k
  .exact⟨oM k,nD k⟩
  .exact⟨nD k,oM k⟩
 have e1:r=f:=dS λc=>P.one (kC h) A hf hr (λe=>c e.symm) hq g λd hd=>IX b ((Fc.cx r hr).left d hd _ ends.1) ((Fc.cx r hr).left d hd _ ends.2);subst e1;have z:ev (lin e.a e.b) q=0:=by have b1:=IX (f:=lin e.a e.b) b (by rw[cN];omega) (by rw[cU];omega);have b2:=IX (f:=lin e.b e.a) b (by rw[cU];omega) (by rw[cN];omega);rw[jf]at b2;omega
 rcases k with k|k
 .have:=g e k;omega
 .have:0<ev (lin e.b e.a) q:=g (swp e) k;rw[jf]at this;omega
def aCt(h:aj s=aE){TL:List T3}(Fc:aJi (nxK s (aA (dOf s))) (HL s) F)(A:All3 (bW s) (sides s (dOf s)) (cT s) TL)(P:pI TL F){f:List V}(hf:f∈F){q:P3}(hq:0<q.d)(g:LS f q):cT s q=aE:=by
 obtain⟨G,g1,g2,g3⟩:=id P;obtain⟨c,hc,rfl⟩:=bn.1 (g1.mem_iff.2 hf);obtain⟨t,ht,_⟩:=(g3 c hc).2 q λe he=>fZ (g e he);have T:=A.tri t (g2.mem_iff.1 (dL.2 ⟨c,hc,ht⟩));have ci:=BA T.left;have cl:=X8 T.left (Fc.cx _ hf) ((g3 c hc).1 t ht) ci λe he=>(kC h).ne (rp h Fc hf e he);rw[IP (vsR h) hq ci.1 λe he hm=> ?_]
 .exact T.mid
 .obtain⟨x,y,u,v,h1,h2,h3,h4,h5,h6⟩:=hm;have hd:0<(cmb u q v (ctr t.a t.b t.c)).d:=by rw[<-h6];show 0<x*1+y*1;omega
  refine IT h Fc A P hf hd (λd hd'=> ?_) he ⟨x,y,1,h1,h2,aC,by rw[h6];unfold cmb;simp⟩;have a:=g d hd';have b:=cl d hd';rw[bB];have hd:0<u*q.d+v*3:=hd;have m1:=cF h4 (fZ a);have m2:=cF h5 (fZ b);rcases Int.lt_or_le 0 u with k|k
  .have:=bJ k a;omega
  .have e:u=0:=aC;rw[e]at hd;have:=bJ (aC:0<v) b;omega
def Zy(h:aj s=aE){r:aU}(hr:r∈pcG s):mq s r=aE:=by
 have hc:=CR.of (AX h r hr);have hl:=hc.len;obtain⟨F,TL,Fc,A,P,_,p⟩:=yN h;obtain⟨f,hf,rfl⟩:=(Ap p r).1 hr;have N:=kC h;have st:=λq=>(Fc.cx f hf).corners N (rp h Fc hf) aE q;unfold mq;rw[cD,cC];refine⟨λe he=> ?_,?_⟩
 .rw[rP,pZ];intro g;obtain⟨x,y,hx,hy,k⟩:=(GL _ _).1 g;have hd:0<(cmb x (pt e.a) y (pt e.b)).d:=by show 0<x*1+y*1;omega
  refine IT h Fc A P hf hd ((st _).1 ((DG aC).2 λd hd=> ?_)) he ⟨x,y,1,aC,aC,aC,?_⟩
  .have:=k d hd;rw[bB,gu x,gu y];exact this
  .unfold cmb;simp
 .have near:=λi (hi:i<aA (dQ f))=>hc.near _ (dh hi);have hv:=L5 (near 0 aC) (near 1 aC) (near 2 aC);have hd:0<(gg (aI7 (dQ f) 0) (aI7 (dQ f) 1) (aI7 (dQ f) 2)).den:=by unfold dP jg at hv;simp only[cD,decide_eq_true_eq]at hv;omega
  have g:=(st (p3 (gg (aI7 (dQ f) 0) (aI7 (dQ f) 1) (aI7 (dQ f) 2)))).1 ((DG aC).2 λd hd=>(O4 d _ _ _).2 (hc.poly.cin d hd));rw[beq_iff_eq,HB (vsR h) hv λe he=> ?_]
  .exact aCt h Fc A P hf hd g
  .exact pZ.2 λk=>IT h Fc A P hf hd g he ((aDB hd ((tgR h).vs.p8 he)).1 k)
def aBN(h:aj s=aE){r o:aU}(hr:r∈pcG s)(ho:o∈pcG s)(hne:r≠o):gP r o=aK:=by have cr:=CR.of (AX h r hr);have co:=CR.of (AX h o ho);rw[GF cr co,Lr,<-WO,aAZ cr co];rintro⟨q,hq,g1,g2⟩;obtain⟨F,TL,Fc,A,P,_,p⟩:=yN h;obtain⟨f,hf,rfl⟩:=(Ap p r).1 hr;obtain⟨f',hf',rfl⟩:=(Ap p o).1 ho;have N:=kC h;exact P.one N A hf hf' (λe=>hne (by rw[e])) hq (((Fc.cx f hf).corners N (rp h Fc hf) aE q).1 g1) λe he=>fZ (((Fc.cx f' hf').corners N (rp h Fc hf') aE q).1 g2 e he)
def aBK(h:aj s=aE):(pcG s).Nodup:=(Zz h).imp λ{a b} h e=>by subst e;rw[MU]at h;omega
def R9(h:aj s=aE)(Fc:aJi (nxK s (aA (dOf s))) (HL s) F):(F.flatMap cyc).Perm (i7 (de s) (kpR s (aA (dOf s)))):=by have T:=tgR h;have sub:=(JA s (aA (dOf s)) (bR _)).trans (List.take_sublist _ _);have nd:(i7 (de s) (dOf s)).Nodup:=ze T (Cc T) λe he=>((nf T e).1 he).1;have nk:(i7 (de s) (kpR s (aA (dOf s)))).Nodup:=nd.sublist ((List.Sublist.refl _).append (sub.append (sub.map _)));refine(List.perm_ext_iff_of_nodup Fc.once nk).2 λe=> ?_;rw[Fc.all,vz];unfold i7;rw[bz,bz,lJ]
def aBM(h:aj s=aE):((pcG s).map area).sum=jZ s:=by
 obtain⟨F,TL,Fc,A,P,_,p⟩:=yN h;have T:=tgR h;have e1:∀f∈F,area (dQ f)=crs (cyc f):=λf hf=>by have hl:=(CR.of (AX h _ ((Ap p _).2 ⟨f,hf,rfl⟩))).len;rw[<-(Fc.cx f hf).area (kC h) (rp h Fc hf),xT aC,DU aC];rfl
 have t:=ZQ T A;have t2:=Il T A λe=>cross e.a e.b;rw[AC (f:=λd:S=>cross d.a d.b+cross (swp d).a (swp d).b) (λd _=>by show cross d.a d.b+cross d.b d.a=0;unfold cross;grind)]at t2;rw[du,show(area∘T3.ring)=λt:T3=>cross t.a t.b+cross t.b t.c+cross t.c t.a from funext OE]at t;have e2:crs (i7 (de s) (kpR s (aA (dOf s))))=crs (de s):=by unfold i7;rw[Gi,Gi,aEb];omega
 have e3:crs (de s)=jZ s:=by unfold jZ;rw[<-t];have t2:(TL.map λt=>cross t.a t.b+cross t.b t.c+cross t.c t.a).sum=_:=t2;rw[t2];unfold crs;omega
 rw[xQ (p.map _),du,show eP (area∘dQ) F=F.map (λf=>crs (cyc f))from lg e1,<-aCE,QY (R9 h Fc),e2,e3]
def aBL(h:aj s=aE):fz s (pcG s)=aE:=by
 have nd:=aBK h;unfold fz;rw[jv,h,jq,cD,decide_eq_true_eq,cC];refine⟨λi hi=> ?_,by unfold arS;rw[ri];exact aBM h⟩;have hi:=cP.1 hi;have hm:aP (pcG s) i∈pcG s:=iU hi;rw[cD,rP,rP];constructor
 .unfold ccA;rw[AX h _ hm,Zy h hm,tW.2 λv hv=> ?_];rfl;unfold fgn;rw[Bool.not_eq_true,Lr];exact kX.2 ⟨v,(tg h).mem_iff.2 (aDt h _ hm v hv),decide_eq_true rfl⟩
 .unfold ccB;rw[tW];intro o ho;obtain⟨j,hj,rfl⟩:=jQ ho;rw[mK]at hj;rw[FI,aBN h hm (jr _) λe=> ?_];simp;rw[jz hi]at e;have:=(List.getElem_inj nd).1 e;omega
def Pn(h:aj s=aE):aA (pcG s)+aA s.holes=aA (kpR s (aA (dOf s)))+1/\∃TL,All3 (bW s) (sides s (dOf s)) (cT s) TL/\(aA (pcG s))<=aA TL:=by obtain⟨F,TL,Fc,A,P,n,p⟩:=yN h;have e:=p.length_eq;rw[dq]at e;have c1:=Cf (tgR h) A;have c2:=Y3 (tgR h) A;have k:=Rv s (aA (dOf s));exact⟨aC,TL,A,aC⟩
end
def Sf{α β:Type}{R:α->β->Prop}:∀{K:List α} {M:List β},K.Nodup->(∀d∈K,∃c∈M,R d c)->(∀d∈K,∀e∈K,∀c,R d c->R e c->d=e)->aA K<=aA M
 |[],_,_,_,_=>lh _
 |d::K,M,hn,h1,h2=>by
  obtain⟨hd,hK⟩:=List.nodup_cons.1 hn;obtain⟨c,hc,r⟩:=h1 d cR;obtain⟨A,B,rfl⟩:=List.append_of_mem hc;have:=Sf (M:=A++B) hK (λe he=>by
   obtain⟨c',hc',r'⟩:=h1 e (cM _ he);refine⟨c',?_,r'⟩;have:c'≠c:=λg=>by subst g;have:=h2 d cR e (cM _ he) _ r r';subst this;exact hd he
   grind) λe he e' he'=>h2 e (cM _ he) e' (cM _ he')
  simp at this|-;omega
section
variable {s:Shape}
structure Needy(s:Shape)(p q f:aI8):Prop where
 side:eE (AK s (aA (dOf s))) p q
 pos:∀x,eE (AK s (aA (dOf s))) p x->x≠q->0<cross f (aJa x p)
 neg:cross f (aJa q p)<=0
def IL(s:Shape):∀k,k<=aA (dOf s)->∀e∈kpR s k,∃m,∃hm:m<aA (dOf s),(dOf s)[m] =e/\wD (AK s m) e=aE
 |0,_,e,he=>by cases he
 |k+1,h,e,he=>by
  unfold kpR at he;split at he
  .rename_i hk;rcases bz.1 he with he|he
   .exact IL s k aC e he
   .rw[cI.1 he];exact⟨k,aC,(iV aC).symm,hk⟩
  .exact IL s k aC e he
def IM(s:Shape){m:Nat}:∀k,m<=k->k<=aA (dOf s)->∀e∈kpR s k,e∈kpR s m\/e∈(dOf s).drop m
 |0,h,_,e,he=>by cases he
 |k+1,h,hk,e,he=>by
  rcases Nat.eq_or_lt_of_le h with g|g
  .exact .inl (by rw[g];exact he)
  .unfold kpR at he;split at he
   .rcases bz.1 he with he|he
    .exact IM s k aC aC e he
    .refine .inr ?_;rw[cI.1 he,iV aC];exact gv.2 ⟨k-m,by rw[FH];omega,by rw[V6];congr 1;omega⟩
   .exact IM s k aC aC e he
def SQ{m:Nat}(hm:m<=aA (dOf s)):∀e∈AK s (aA (dOf s)),e∈AK s m:=λe he=>by
 unfold AK mY at*;rw[List.drop_length,vC]at he;rcases bz.1 he with he|he
 .grind
 .have:=IM s _ hm (bR _) e he;grind
def xz{k:Nat}{e:aI9}(g:e∈ao s):e∈AK s k:=iS _ (iS _ g)
def aBX(h:aj s=aE){d:aI9}(hd:d∈kpR s (aA (dOf s))):∃p q f,(d=⟨p,q⟩\/d=⟨q,p⟩)/\Needy s p q f:=by
 obtain⟨m,hm,e,hk⟩:=IL s _ (bR _) d hd;have S:=ms h m aC;have inA:d∈AK s m:=by unfold AK mY;rw[uP hm,e];grind
 have inL:d∈AK s (aA (dOf s)):=by unfold AK mY;grind
 have dm:d∈dOf s:=by rw[<-e];exact jr hm
 have main:∀p q:aI8,(d=⟨p,q⟩\/d=⟨q,p⟩)->sr (AK s m) p q=aK->∃f,Needy s p q f:=λp q hpq hn=>by
  have sd:∀A:List aI9,d∈A->eE A p q:=λA hA=>hpq.imp (λg=>by rw[<-g];exact hA) λg=>by rw[<-g];exact hA
  have hp:=Hp h (oA aC (sd _ inA));obtain⟨i,hi,rfl⟩:=fC.1 hp;have hl:=λx=>(uG h aC).trans (nY h aC S (aI7 (vOf s) i) x);obtain⟨f,f1,f2⟩:=(AI S (aI7 (vOf s) i)).bad hl ((nY h aC S _ _).1 (sd _ inA)) (Hs h aC S hi dm (sd _ inA) hpq) (by unfold sr at hn;have:=of_decide_eq_false hn;omega);exact⟨f,sd _ inL,λx hx hne=>f1 x ((nY h aC S _ _).1 (hx.imp (SQ aC _) (SQ aC _))) hne,f2⟩
 unfold wD at hk;rw[jd,rP,rP]at hk;rcases hk with g|g
 .obtain⟨f,k⟩:=main d.a d.b (.inl rfl) g;exact⟨_,_,f,.inl rfl,k⟩
 .obtain⟨f,k⟩:=main d.b d.a (.inr rfl) g;exact⟨_,_,f,.inr rfl,k⟩
def CS(h:aj s=aE){p x y:aI8}(hx:eE (AK s (aA (dOf s))) p x)(hy:eE (AK s (aA (dOf s))) p y)(hne:x≠y):gh (aJa x p) (aJa y p):=
 (kC h).fanApart (oA (bR _) hx) (oA (bR _) hy) hne
def aAa(h:aj s=aE){p a q r f g:aI8}(ha:eE (AK s (aA (dOf s))) p a)(k1:Needy s p q f)(k2:Needy s p r g)(hq:q≠a)(hr:r≠a)(e:(0<cross (aJa q p) (aJa a p)↔0<cross (aJa r p) (aJa a p))):q=r:=
 dS λc=>aBS (k1.pos a ha (kZ hq)) (k1.pos r k2.side (kZ c)) k1.neg (k2.pos a ha (kZ hr)) (k2.pos q k1.side c) k2.neg (CS h k1.side ha hq) (CS h k2.side ha hr) e
def Y5(h:aj s=aE){a p b:aI8}(ha:(⟨a,p⟩:aI9)∈de s)(hb:(⟨p,b⟩:aI9)∈de s)(hab:a≠b):fW (qN (AK s (aA (dOf s))) p) p a aK=b:=by
 have S:=ms h _ (bR _);obtain⟨F,Fc⟩:=S.face;have T:=tgR h;have out:∀y,(⟨p,y⟩:aI9)∈de s->y=b:=λy hy=>by obtain⟨i,j,hi,e1,e2⟩:=Jo h hy;obtain⟨i',j',hi',e1',e2'⟩:=Jo h hb;have g1:=congrArg aI9.a e2;have g2:=congrArg aI9.a e2';dsimp only at g1 g2;have:=ql h hi hi' (g1.symm.trans g2);subst this;have hj:j=j':=aC;have g3:=congrArg aI9.b e2;have g4:=congrArg aI9.b e2';dsimp only at g3 g4;rw[g3,g4,hj]
 have ed:∀{e:aI9},e∈de s->e∈ao s\/swp e∈ao s:=λg=>((nf T _).1 g).1;have sa:eE (AK s (aA (dOf s))) p a:=by
  rcases ed ha with g|g
  .exact .inr (xz g)
  .exact .inl (xz g)
 have hl:=λx=>(uG h (bR _)).trans (nY h (bR _) S p x);have ma:=(nY h (bR _) S p a).1 sa;obtain⟨y,hy⟩:∃y,fW (qN (AK s (aA (dOf s))) p) p a aK=y:=⟨_,rfl⟩;rw[hy];have back:=(AI S p).Z9 hl ma hy;have my:y∈wO (vOf s) (sG s (aA (dOf s))).1 p:=by obtain⟨i,hi,e⟩:=gv.1 ma;obtain⟨m,hm,e2,_⟩:=(AI S p).nextAt hl hi;rw[e,hy]at e2;rw[e2];exact jr hm
 have no:¬HL s ⟨y,p⟩:=λg=>by
  have k:=aAu Fc g;rw[show nxK s (aA (dOf s)) ⟨y,p⟩=a from back]at k;rcases vz.1 k with k|k
  .exact hab (out a k)
  .have dsub:∀{e:aI9},e∈kpR s (aA (dOf s))->e∈dOf s:=λg=>Aa s _ (bR _) _ g;have kk:(⟨p,a⟩:aI9)∈dOf s\/(⟨a,p⟩:aI9)∈dOf s:=k.imp dsub dsub;rcases ed ha with g|g<;>rcases kk with k|k
   .exact(ls T k g).2 rfl
   .exact(ls T k g).1 rfl
   .exact(ls T k g).1 rfl
   .exact(ls T k g).2 rfl
 have sy:=(nY h (bR _) S p y).2 my;have two:∀e:aI9,(e=⟨p,y⟩\/e=⟨y,p⟩)->e∈AK s (aA (dOf s))->y=b:=λe he hm=>by
  unfold AK mY at hm;rw[List.drop_length,vC]at hm;rcases bz.1 hm with g|g
  .have hd:e∈de s\/swp e∈de s:=by unfold de;rw[z7,bz]at g;rw[bz,bz,lJ,lJ,show swp (swp e)=e from rfl];grind
   rcases he with rfl|rfl<;>rcases hd with k|k
   .exact out y k
   .exact absurd (vz.2 (.inl k)) no
   .exact absurd (vz.2 (.inl k)) no
   .exact out y k
  .refine absurd (vz.2 (.inr ?_)) no;rcases he with rfl|rfl
   .exact .inr g
   .exact .inl g
 rcases sy with g|g
 .exact two _ (.inl rfl) g
 .exact two _ (.inr rfl) g
def Xt(h:aj s=aE){a p b q f:aI8}(ha:(⟨a,p⟩:aI9)∈de s)(hb:(⟨p,b⟩:aI9)∈de s)(ht:0<turn a p b)(k:Needy s p q f)(hqa:q≠a)(hqb:q≠b):False:=by
 have S:=ms h _ (bR _);have T:=tgR h;have hc:0<cross (aJa b p) (aJa a p):=by have:=(sF _).1 ht;unfold cross aJa at*;grind
 have hab:a≠b:=λe=>by
  subst e;have:cross (aJa a p) (aJa a p)=0:=by unfold cross;grind
  omega
 have sd:∀{e:aI9},e∈de s->e∈AK s (aA (dOf s))\/swp e∈AK s (aA (dOf s)):=λg=>by
  rcases((nf T _).1 g).1 with g|g
  .exact .inl (xz g)
  .exact .inr (xz g)
 have sa:eE (AK s (aA (dOf s))) p a:=(sd ha).symm.imp id id;have sb:eE (AK s (aA (dOf s))) p b:=(sd hb).imp id id;have mem:=λx=>nY h (bR _) S p x;have hl:=λx=>(uG h (bR _)).trans (mem x);have F:=AI S p;have c3:=F.after hl ((mem a).1 sa) (Y5 h ha hb hab) ((mem q).1 k.side) hqa hqb;obtain⟨g1,g2⟩:=TD (F.nz _ ((mem b).1 sb)) (F.nz _ ((mem q).1 k.side)) (F.nz _ ((mem a).1 sa)) (CS h sb k.side (kZ hqb)) (CS h k.side sa hqa) c3 hc;exact aDC (k.pos a sa (kZ hqa)) (k.pos b sb (kZ hqb)) k.neg hc g1 g2
def rfV(s:Shape):List aI8:=((bT (aA s.outer)).filter λi=> !lfP s.outer i).map (aI7 s.outer)++s.holes.flatMap λr=>((bT (aA r)).filter (lfP r)).map (aI7 r)
def RF(h:aj s=aE):(aA (rfV s):Int)=ja s:=by
 have c:lfR s.outer (aA s.outer)+_=_:=C2 (p:=lfP s.outer) (q:=λi=> !lfP s.outer i) (aA s.outer) λi _=>af;have e:∀l:List aU,aA (l.flatMap λr=>((bT (aA r)).filter (lfP r)).map (aI7 r))=(l.map λr=>lfR r (aA r)).sum:=λl=>by
  induction l with
  |nil=>rfl
  |cons r l ih=>rw[fw,eR,ih,dU,List.sum_cons,dq];rfl
 unfold rfV ja;rw[if_pos h,eR,dq,e];unfold lfS;rw[ri];omega
def Mf{r:aU}(hr:3<=aA r){i:Nat}(hi:i<aA r):(⟨aI7 r ((i+aA r-1) % (aA r)),aI7 r i⟩:aI9)∈aW r/\(⟨aI7 r i,aI7 r ((i+1) % (aA r))⟩:aI9)∈aW r:=by
 refine⟨?_,Ab aC hi⟩;have hj:(i+aA r-1) % (aA r)<aA r:=cG _ aC;have:=Ab (r:=r) aC hj;have e:((i+aA r-1) % (aA r)+1) % (aA r)=i:=by
  rcases Nat.eq_zero_or_pos i with g|g
  .subst g;rw[(aC:0+aA r-1=aA r-1),dK (aC:aA r-1<aA r),(aC:aA r-1+1=aA r),io]
  .rw[(aC:i+aA r-1=(i-1)+aA r),mh,dK (aC:i-1<aA r),(aC:i-1+1=i),dK hi]
 rw[e]at this;exact this
def PF(a p b:aI8):turn b p a= -turn a p b:=by
 have e:cross (aJa p b) (aJa a b)= -cross (aJa p a) (aJa b a):=by unfold cross aJa;grind
 unfold turn;rw[e];unfold sgn;grind
def O2(h:aj s=aE){p:aI8}(hp:p∈bW s):∃a b,(⟨a,p⟩:aI9)∈de s/\(⟨p,b⟩:aI9)∈de s/\(p∉rfV s->0<turn a p b):=by
 have V:=vsR h;have hp:p∈s.outer\/∃r∈s.holes,p∈r:=by unfold bW at hp;simpa[aR,ml]using hp
 unfold de rfV;rcases hp with hp|⟨r,hr,hp⟩
 .obtain⟨i,hi,rfl⟩:=fC.1 hp;obtain⟨e1,e2⟩:=Mf V.outer.three hi;refine⟨_,_,iS _ e1,iS _ e2,λg=>dS λc=>g (iS _ (bn.2 ⟨i,eY.2 ⟨cP.2 hi,?_⟩,rfl⟩))⟩;unfold lfP;rw[decide_eq_false c];rfl
 .have Vr:=V.ring (cM _ hr);obtain⟨i,hi,rfl⟩:=fC.1 hp;obtain⟨e1,e2⟩:=Mf Vr.three hi;have up:∀{e:aI9},e∈aW r->swp e∈(s.holes.flatMap aW).map swp:=λg=>bn.2 ⟨_,dL.2 ⟨r,hr,g⟩,rfl⟩;refine⟨_,_,iF _ (up e2),iF _ (up e1),λg=> ?_⟩;have ht:=Vr.turn i hi;unfold prv nxt at ht;have c:¬0<turn (aI7 r ((i+aA r-1) % (aA r))) (aI7 r i) (aI7 r ((i+1) % (aA r))):=λc=>g (iF _ (dL.2 ⟨r,hr,bn.2 ⟨i,eY.2 ⟨cP.2 hi,decide_eq_true c⟩,rfl⟩⟩));show 0<turn (aI7 r ((i+1) % (aA r))) (aI7 r i) (aI7 r ((i+aA r-1) % (aA r)));rw[PF];omega
def QC(h:aj s=aE):(aA (kpR s (aA (dOf s))):Int)<=2*ja s:=by
 have T:=tgR h;have hnd:(kpR s (aA (dOf s))).Nodup:=by have sub:=(JA s (aA (dOf s)) (bR _)).trans (List.take_sublist _ _);exact List.Pairwise.sublist sub (T.once.imp λ{a b} g e=>g.1 e)
 obtain⟨c,hc⟩:∃c:aI8->aI8,∀p∈bW s,∃b,(⟨c p,p⟩:aI9)∈de s/\(⟨p,b⟩:aI9)∈de s/\(p∉rfV s->0<turn (c p) p b):=by refine⟨λp=>open Classical in if g:p∈bW s then(O2 h g).choose else p,λp hp=> ?_⟩;have:=(O2 h hp).choose_spec;simp only[hp,dite_true];exact this
 have off:∀{e d:aI9},e∈de s->d∈dOf s->e≠d/\e≠swp d:=λ{e d} he hd=>by
  rcases((nf T _).1 he).1 with g|g
  .exact ls T hd g
  .have:=ls T hd g;exact⟨λe'=>this.2 (by rw[e'];rfl),λe'=>this.1 (by rw[e'];rfl)⟩
 have dsub:∀{e:aI9},e∈kpR s (aA (dOf s))->e∈dOf s:=λg=>Aa s _ (bR _) _ g;have key:=Sf (K:=kpR s (aA (dOf s))) (M:=(rfV s).flatMap λp=>[(p,aE),(p,aK)])
  (R:=λd x=>∃q f,(d=⟨x.1,q⟩\/d=⟨q,x.1⟩)/\Needy s x.1 q f/\(x.2=aE↔0<cross (aJa q x.1) (aJa (c x.1) x.1))) hnd (λd hd=>by
   obtain⟨p,q,f,e,k⟩:=aBX h hd;have hp:=(kC h).mem (oA (bR _) k.side);obtain⟨b,g1,g2,g3⟩:=hc p hp;have dd:=dsub hd;have n1:=off g1 dd;have n2:=off g2 dd;have hr:p∈rfV s:=dS λg=>Xt h g1 g2 (g3 g) k (λe'=>by
    subst e';rcases e with e|e
    .exact n1.2 (by rw[e];rfl)
    .exact n1.1 e.symm) (λe'=>by
    subst e';rcases e with e|e
    .exact n2.1 e.symm
    .exact n2.2 (by rw[e];rfl))
   refine⟨(p,decide (0<cross (aJa q p) (aJa (c p) p))),dL.2 ⟨p,hr,?_⟩,q,f,e,k,decide_eq_true_iff⟩;cases decide (0<cross (aJa q p) (aJa (c p) p))<;>simp)
  (λd hd d' hd' x ⟨q,f,e,k,t⟩ ⟨q',f',e',k',t'⟩=>by
    have hp:=(kC h).mem (oA (bR _) k.side);obtain⟨b,g1,g2,g3⟩:=hc x.1 hp;have sa:eE (AK s (aA (dOf s))) x.1 (c x.1):=by
     rcases((nf T _).1 g1).1 with g|g
     .exact .inr (xz g)
     .exact .inl (xz g)
    have ne:∀{d:aI9} {q:aI8},d∈kpR s (aA (dOf s))->(d=⟨x.1,q⟩\/d=⟨q,x.1⟩)->q≠c x.1:=λ{d q} hd e e'=>by
     subst e';have n1:=off g1 (dsub hd);rcases e with e|e
     .exact n1.2 (by rw[e];rfl)
     .exact n1.1 e.symm
    have:=aAa h sa k k' (ne hd e) (ne hd' e') (t.symm.trans t');subst this;refine dS λhne=> ?_;obtain⟨i,hi,hI⟩:=gv.1 (dsub hd);obtain⟨j,hj,hJ⟩:=gv.1 (dsub hd');have o:=I7 h hi hj λe=>hne (by subst e;rw[<-hI,<-hJ]);rw[hI,hJ]at o;rcases e with e|e<;>rcases e' with e'|e'
    .exact hne (by rw[e,e'])
    .exact o.2 (by rw[e,e'];rfl)
    .exact o.2 (by rw[e,e'];rfl)
    .exact hne (by rw[e,e']))
 rw[<-RF h];have:∀l:List aI8,aA (l.flatMap λp=>[(p,aE),(p,aK)])=2*aA l:=λl=>by
  induction l with
  |nil=>rfl
  |cons x l ih=>rw[fw,eR,ih];simp;omega
 rw[this]at key;omega
end
section
variable {s:Shape}
def OL{E:S->Prop}(hE:∀a x y,E ⟨a,x⟩->E ⟨a,y⟩->x=y):∀(l m:List aI8) (a:aI8),aA l=aA m->(∀e∈cS a l,E e)->(∀e∈cS a m,E e)->l=m
 |[],[],_,_,_,_=>rfl
 |[],_::_,_,h,_,_=>by simp at h
 |_::_,[],_,h,_,_=>by simp at h
 |x::l,y::m,a,h,h1,h2=>by
  have e:=hE a x y (h1 _ cR) (h2 _ cR);subst e;rw[OL hE l m x (by simpa using h) (λe he=>h1 e (cM _ he)) λe he=>h2 e (cM _ he)]
def Z5(h:aj s=aE)(hr:ja s=0):aA (pcG s)=1/\aP (pcG s) 0=dX s.outer:=by
 obtain⟨F,TL,Fc,A,P,n,p⟩:=yN h;have V:=vsR h;have e:=p.length_eq;rw[dq]at e;have hc:=(Pn h).1;have hk:=QC h;have hp:=R9 h Fc;have hF:F≠[] :=λe0=>by subst e0;have:=hp.length_eq;have h3:=V.outer.three;unfold i7 de aW at this;rw[if_neg aC]at this;simp at this;omega
 have hl:0<aA F:=List.length_pos_iff.2 hF;have k0:kpR s (aA (dOf s))=[] :=pg.1 aC;have h0:s.holes=[] :=pg.1 aC;have l1:aA F=1:=aC;obtain⟨f,rfl⟩:=List.length_eq_one_iff.1 l1;have cx:=Fc.cx f cR;rw[k0]at hp;have hp:(cyc f).Perm (aW s.outer):=by
  have:i7 (de s) [] =aW s.outer:=by unfold i7 de;rw[h0];simp
  rw[this]at hp;simpa using hp
 have h2:2<=aA s.outer:=by have:=V.outer.three;omega
 have hout:∀a x y,(⟨a,x⟩:S)∈aW s.outer->(⟨a,y⟩:S)∈aW s.outer->x=y:=λa x y hx hy=>by obtain⟨i,hi,e1⟩:=xv hx;obtain⟨j,hj,e2⟩:=xv hy;have g1:=congrArg S.a e1;have g2:=congrArg S.a e2;dsimp only at g1 g2;have:=gU V.outer.nodup hi hj (g1.symm.trans g2);subst this;have g3:=congrArg S.b e1;have g4:=congrArg S.b e2;dsimp only at g3 g4;rw[g3,g4]
 have hcorn:f.filter (eI f)=f:=List.filter_eq_self.2 λv hv=>by
  obtain⟨a,b,ha,hb⟩:=cx.around hv;refine qo.2 ⟨a,b,ha,hb,?_⟩;obtain⟨i,hi,e1⟩:=xv (hp.mem_iff.1 hb);have g1:v=aI7 s.outer i:=congrArg S.a e1;have g2:b=aI7 s.outer ((i+1) % (aA s.outer)):=congrArg S.b e1;obtain⟨j,hj,e2⟩:=xv (hp.mem_iff.1 ha);have g3:a=aI7 s.outer j:=congrArg S.a e2;have g4:v=aI7 s.outer ((j+1) % (aA s.outer)):=congrArg S.b e2;have hij:=gU V.outer.nodup hi (cG _ aC) (g1.symm.trans g4);have ej:j=(i+aA s.outer-1) % (aA s.outer):=by
   rcases pV (j+1) (aA s.outer) with c|c
   .rw[dK c]at hij;subst hij;rw[(aC:j+1+aA s.outer-1=j+aA s.outer),mh,dK hj]
   .have:j+1=aA s.outer:=aC;rw[this,io]at hij;subst hij;rw[(aC:0+aA s.outer-1=j),dK hj]
  have ht:=V.outer.turn i hi;unfold prv nxt at ht;rw[g3,g1,g2,ej];exact ht
 have hrot:bo f=bo s.outer:=by
  match ho:s.outer,h2 with
  |x::y::m,_=>
   have hm:(⟨x,y⟩:S)∈cyc f:=hp.mem_iff.2 (by rw[<-xT aC,ho];exact cR)
   obtain⟨k,l,B,e1,e2⟩:=An cx hm;have pc:=kh k l;have len:aA f=aA s.outer:=by have:=hp.length_eq;rw[Dl (by have:=cx.three;omega),<-xT aC,Dl aC]at this;simpa using this
   have same:l++k=x::y::m:=by
    rw[e2]
    congr 1
    have lB:aA (y::B)=aA (y::m):=by
     have:aA (l++k)=aA f:=by rw[e1];simp;omega
     rw[e2,len,ho]at this;simpa using this
    have:=OL (E:=λe=>e∈aW s.outer) hout ((y::B)++[x]) ((y::m)++[x]) x (by simp at lB|-;omega) (λe he=>hp.mem_iff.1 (by rw[e1];exact pc.mem_iff.1 (by rw[e2];exact he))) (λe he=>by rw[<-xT aC,ho];exact he);exact List.append_cancel_right this
   rw[<-same,e1];exact(Nq (by rw[<-e1];exact cx.nodup)).symm
 refine⟨aC,?_⟩;have hm:pcG s=[dQ f] :=by have:=p;rw[dU,List.map_nil]at this;exact List.perm_singleton.1 this
 rw[hm];show dQ f=_;unfold dQ dX;rw[hcorn,hrot,if_pos ((ig _).2 V.outer)]
def XA(h:aj s=aE):fz s (pcG s)=aE/\(aA (pcG s))+aA s.holes=aA (sdG s)+1/\(aA (pcG s):Int)+aA s.holes<=2*ja s+1/\(aA (pcG s))<=(aA (tOf s))/\(ja s=0->aA (pcG s)=1/\aP (pcG s) 0=dX s.outer)/\(aA (tOf s))<=100/\(aA s.holes)<=6:=by
 obtain⟨c,TL,A,l⟩:=Pn h;have k:=QC h;have e:aA (sdG s)=aA (kpR s (aA (dOf s))):=by rw[aAh,aEF h]
 obtain⟨TL',A',e'⟩:=aB7 h;have t:=Cf (tgR h) A;have t':=Cf (tgR h) A';have e2:=congrArg aA e';rw[dq]at e2;have hv:=mv s;rw[(tg h).length_eq]at hv;have hh:=(vsR h).few;exact⟨aBL h,aC,aC,aC,Z5 h,aC,hh⟩
end
def tLM:=(((((((ET.adk Vc).adk k91).adk k35).adk k27).adk k58).adk k16).adk k48).adk k41
def c47:Con:=con (a1 aSh) (λs=>[pJ s]) (λs=> .bool (mE s&&aj s))
def k47:c47.Okz 42:=bI tLM (λ_=>[]
 ) λs hp=>bD (pJ s/\qbq (mE s) (Fit s/\aj s=(mE s&&aj s)) (aK=(mE s&&aj s))) (by
 change pJ s at hp;exact⟨hp,λh=>⟨QP hp h,by rw[h];rfl⟩,λh=>by rw[h];rfl⟩)
section
variable {s:Shape}
end
def aFZ:=(((((((((ET.adk k71).adk k76).adk k54).adk k43).adk k44).adk k22).adk k51).adk k48).adk k47).adk k41
def Vl:Con:=con (a1 aSh) (λs=>[pJ s]) (λ_=> .bool aE)
def aGW:Vl.Okz 14:=bI aFZ (λ_=>[]
 ) λs hp=>bD (aO (pcG s) λA=>aO (sdG s) λB=>aO (!fz s A) λC=>aO (aA A:Int) λD=>aO (aA B:Int) λE=>aO (2*ja s+1) λF=>aO (mE s&&aj s) λG=>aO (2*ja s+1-aA s.holes) λH=>aO (!aP A 0==iu s.outer) λI=>qbq (!aE) (aK=aE) (pJ s/\qbq (!G) (aE=aE) (Fit s/\(bL s=aE->GOk s/\SOk s/\tM s)/\Fit s/\(bL s=aE->GOk s/\SOk s)/\Fit s/\qiq (¬eV s=0) (aK=aE) (qiq (¬eV s=0) (aK=aE) (Fit s/\(aA A)<=1000/\(∀r:aU,r∈pcG s->aA r<=1000)/\qbq C (aK=aE) (Fit s/\(aA A)<=1000/\(∀r:aU,r∈pcG s->aA r<=1000)/\qbq C (aK=aE) (aX (E+1)/\aX (E+1-aA s.holes)/\qiq (¬D=aA B+1-aA s.holes) (aK=aE) (Fit s/\qiq (ja s=0) (qiq (¬D=1) (aK=aE) (ix 0 (aA A)/\(aA s.outer)<=100000/\(aA (aP A 0))<=1000000/\qbq I (aK=aE) (aX (2*ja s)/\aX F/\aX H/\qiq (D<=2*ja s+1-aA s.holes) (decide (D<=aA (tOf s))=aE) (aK=aE)))) (aX (2*ja s)/\aX F/\aX H/\qiq (D<=2*ja s+1-aA s.holes) (decide (D<=aA (tOf s))=aE) (aK=aE)))))))))) (by
 change pJ s at hp;have hf:(!(mE s&&aj s))=aK->mE s=aE/\aj s=aE:=λh=>by rw[Lr,cD]at h;exact h
 refine⟨λh=>(by cases h),λ_=>⟨hp,λ_=>rfl,λf=> ?_⟩⟩;obtain⟨f1,v⟩:=hf f;have F:=QP hp f1;have e0:eV s=0:=by unfold eV;rw[jv];exact if_pos v
 obtain⟨c1,c2,c3,c4,c5,c6,c7⟩:=XA v;have ro:=(vsR v).outer;have hlo:=F.1;have cr:iu s.outer=dX s.outer:=by unfold iu dX;rw[tw]
 have pos:=RF v;have p1:aA (pcG s)<=1000:=aC;have rl:ja s<=1000000:=by have l:=Jr (s:=s) (λx hx=>F.2.2 _ (iU hx)) (aA s.holes) (bR _);unfold ja;rw[if_pos v];omega
 rw[c1,cr];refine⟨F,λ_=>⟨gok v,sok v,VY v⟩,F,λ_=>⟨gok v,sok v⟩,F,λh=>absurd e0 h,λ_=>⟨λh=>absurd e0 h,λ_=>⟨F,p1,Ji v,λh=>(by cases h),λ_=>⟨F,p1,Ji v,λh=>(by cases h),λ_=>⟨bP aC,bP aC,λh=>absurd aC h,λ_=>⟨F,λr0=> ?_,λ_=>⟨bP aC,bP aC,bP aC,λ_=>decide_eq_true aC,λh=>absurd aC h⟩⟩⟩⟩⟩⟩⟩;obtain⟨d1,d2⟩:=c5 r0;rw[d2];refine⟨λh=>absurd aC h,λ_=>⟨by unfold ix;omega,aC,?_,λh=>(by simp at h),λ_=>⟨bP aC,bP aC,bP aC,λ_=>decide_eq_true aC,λh=>absurd aC h⟩⟩⟩;rw[<-d2];exact cZ (Ji v _ (iU aC)) bg)
end Go.Proofs.YthbofdolalagjaaGreat
