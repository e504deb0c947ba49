/- Part 5 of what the statement stands on -/
import Derived.Test.YthbofdolalagjaaGreatCD4
import Derived.Lib.AppendZerosOnto
import Derived.OrdersIn
import Derived.RangeFuncCalls
import Derived.TacticsIn
import Derived.RangeFuncNested
import Derived.RangeFuncBound
import Derived.RangeFuncLeaves
import Derived.RangeFuncFrom
import Derived.Shelf.Abstract
import Derived.OwnWalkIn
import Derived.TacticsInMore
import Derived.LoopNIn
import Derived.LoopIn
import Derived.Deep.DeepCutAuto
import Derived.Calls
set_option linter.all false
set_option maxRecDepth 100000
set_option maxHeartbeats 8000000
open Bool renaming false->aK,true->aE,and_eq_true->cD,or_eq_true->jd,true_and->jq,eq_iff_iff->gR,eq_false_iff->pZ
open List renaming length->aA,length_eq_zero_iff->pg,take->ak,take_succ_eq_append_getElem->lC,take_of_length_le->jB,getElem_of_mem->jQ,any->jT,all_eq_true->cC,mem_range->cP,mem_cons_self->cR,mem_cons_of_mem->cM,take_add_one->nO,getElem?_eq_getElem->fQ,flatten->iH,flatten_append->ww,flatten_singleton->WL,take_append_drop->vD,length_append->eR,drop->fE,all_eq_false->vF,getElem_mem->jr,all->od,range->bT,flatMap_cons->fw,length_cons->iE,length_nil->nI,getElem?_append_right->mg,getElem?_eq_some_iff->Bs,getElem?_map->ip,map_flatMap->Lt,size_toArray->wv,push_toArray->zH,append_toArray->zI,nil_append->tQ,cons_append->k8,getD_eq_getElem?_getD->fY,map->eP,mem_append->bz,map_map->du,length_map->dq,mem_cons->bO,flatMap_map->LZ,foldl_cons->Ba,map_cons->dU,getElem?_take->rQ,getElem?_drop->yv,mem_of_getElem?->WJ,mem_map->bn,length_take->mK,Perm.refl->FF,Pairwise.nil->wU,exists_mem_of_ne_nil->Bh,pairwise_map->kG,pairwise_iff_getElem->u5,Perm.eq_of_pairwise->V2,map_append->dV,getElem_map->kz,pairwise_cons->jA,replicate->dO,length_set->Bv,length_replicate->Bu,getD->lk,set->pj,length_singleton->wV
open And renaming intro->cJ
open Nat renaming le_antisymm->w7,gcd->bQ,gcd_comm->By,mod_lt->cG,eq_zero_or_pos->rO,le_trans->cZ,beq->bZ,zero_add->ku,le_refl->bR,zero_le->lh,lt_of_lt_of_le->y7,reduceAdd->zD,reduceSub->zE,le_of_eq->Fo,mul_le_mul->rZ
open Decidable renaming of_not_not->vE,not_not->V3
open Int renaming natAbs->ce,tmod->dA,natAbs_tmod->Bx,tdiv->fe
open Option renaming some->aD,none->aM,map_eq_some_iff->oW,map_some->fk,getD_some->pf,some.injEq->iG
open Go.Proofs.Tryz renaming prog->bi,underlying3->zA,func178->Fk,underlying24->Fl
open Go.Region renaming wanted->kI,binds->kH
open Go.Oper renaming semAt_some->B0
open Go.Value renaming int->dN,ownBlock->FV
open Array renaming getElem?_eq_some_iff->Ls,replicate_succ->zF,replicate_zero->zG
open Go.World renaming cell?_of_block->kc,ownsRow_nil->Lk,block_lt_of_cell?->lj
open Go.Sem renaming run->iT
open Go.Result renaming ok->B5
open Go.Sort renaming grow->Fp
open Function renaming comp->FG
open Go.RowKit
open Go.Proofs.YthbofdolalagjaaGreat.Geo
open Go.Proofs.YthbofdolalagjaaGreat.Geo renaming gG->aJb,sub->aJa,nth->aI7,bm->aJe,V->aI8,rowP->aJf
noncomputable section
namespace Go.Proofs.YthbofdolalagjaaGreat
def aH2:Con:=con (a1 aI) ae (λ_=> .bool aK
 )
def aGw:aH2.Okz 183:=bI t16 ae λx _=>bD (decide (¬x=x)=aK) (by grind)
def UO:=t16.adk aGw
def aIE:Con:=con (ac aI (a1 aI)) ae (λ(x,y)=> .iqz (aJb x y)
 )
def aG7:aIE.Okz 137:=bI UO ae λ(x,y) _=>bD (qbq aK (qbq aK (0=aJb x y) (-1=aJb x y)) (qbq aK (1=aJb x y) (qiq (x<y) (-1=aJb x y) (qiq (y<x) (1=aJb x y) (0=aJb x y))))) (by unfold aJb;grind)
def U3:=UO.adk aG7
def orU(l:List Int)(k:Nat):Prop:=∀j,j<k->dj l j=0
def orL:List Int->Int
 |[] =>0
 |x::l=>if x=0 then orL l else x
def Sh:∀{l:List Int} {k:Nat},¬dj l k=0->orU l k->k<aA l->dj l k=orL l
 |[],k,_,_,h=>by simp at h
 |x::l,0,h,_,_=>by
  have h:¬x=0:=h;show x=orL (x::l);unfold orL;rw[if_neg h]
 |x::l,k+1,h,h2,h3=>by
  have h0:x=0:=h2 0 aC;show dj l k=orL (x::l);unfold orL;rw[if_pos h0];exact Sh h (λj hj=>h2 (j+1) aC) aH
def RY:∀{l:List Int},orU l (aA l)->0=orL l
 |[],_=>rfl
 |x::l,h=>by
  have h0:x=0:=h 0 af;unfold orL;rw[if_pos h0];exact RY λj hj=>h (j+1) aH
def aIv:Con:=con (a1 (aL .I)) (λl=>[aA l<=1000]) (λl=> .iqz (orL l))
def aGY:aIv.Okz 147:=bI U3 (λl=>[cnt 3 8 (aA l) (orU l)]
  ) λl hp=>bD ((0=(0:Int)/\(0:Nat)<=(aA l)/\orU l 0)/\
 (∀x:Nat,aO (x:Int) λA=>x<=(aA l)/\orU l x->qiq (A<aA l) (ix A (aA l)/\qiq (¬dj l x=0) (dj l x=orL l) (qnr A x (x+1<=(aA l)/\orU l (x+1)/\(aA l)-(x+1)<aA l-x))) (0=orL l))) (by
  change (aA l)<=1000 at hp
  with_reducible ((repeat' first|apply cJ|intro);all_goals repeat cases‹_/\_›)
  all_goals first|assumption|rfl|exact trivial|exact nb aJ|exact nb' aJ|omega|exact iX aC|(unfold ix;omega)|(unfold aX;omega)|exact iJ _|exact cO aJ aJ|(refine cO aJ ?_;simp_all;done)|exact Sh aJ aJ aC|(obtain rfl:_=aA l:=w7 aJ aC;exact RY aJ)|(refine cO aJ ?_;exact vE ‹¬¬_›)|grind)
def Uu:=U3.adk aGY
def c78:Con:=con (ac aV (a1 aV)) ae (λ(a,b)=> .iqz (cQ a b)
 )
def k78:c78.Okz 77:=bI Uu ae λ(a,b) _=>bD ([aJb a.y b.y,aJb a.x b.x].length<=1000/\orL [aJb a.y b.y,aJb a.x b.x] =cQ a b) (by refine⟨af,?_⟩;unfold cQ;simp only[orL];grind)
def t78:=Uu.adk k78
def aHL:Con:=con (ac aV (a1 aV)) ae (λ(a,b)=> .bool (cB a b)
 )
def aGe:aHL.Okz 219:=bI t78 ae λ(a,b) _=>bD (decide (cQ a b<0)=cB a b) (by unfold cB cQ aJb;grind)
def T8:=t78.adk aGe
def aIU:Con:=con (ac aV (a1 aV)) (λ(a,b)=>[bd 2000000000 a,bd 2000000000 b]) (λ(a,b)=> .iqz (cross a b)
 )
def aHo:aIU.Okz 120:=bI T8 ae λ(a,b) hp=>bD (aX (a.x*b.y)/\aX (a.y*b.x)/\aX (a.x*b.y-a.y*b.x)/\a.x*b.y-a.y*b.x=cross a b) (by change bd 2000000000 a/\bd 2000000000 b at hp;have:=pu hp.1 hp.2;exact⟨bP aC,bP aC,bP aC,rfl⟩)
def VJ:=T8.adk aHo
def aID:Con:=con (ac aV (a1 aV)) (λ(a,b)=>[bd 1000000000 a,bd 1000000000 b]) (λ(a,b)=>aV.enc (aJa a b)
 )
def aG6:aID.Okz 138:=bI VJ ae λ(a,b) hp=>bD (aX (a.x-b.x)/\aX (a.y-b.y)/\a.x-b.x=(aJa a b).x/\a.y-b.y=(aJa a b).y) (by change bd 1000000000 a/\bd 1000000000 b at hp;unfold bd at hp;exact⟨bP aC,bP aC,rfl,rfl⟩)
def U2:=VJ.adk aG6
def c63:Con:=con (ac aV (ac aV (a1 aV))) (λ(a,b,c)=>[bd 1000000000 a,bd 1000000000 b,bd 1000000000 c]) (λ(a,b,c)=> .iqz (turn a b c)
 )
def k63:c63.Okz 64:=bI U2 ae λ(a,b,c) hp=>bD (bd 1000000000 b/\bd 1000000000 a/\bd 1000000000 c/\bd 1000000000 a/\bd 2000000000 (aJa b a)/\bd 2000000000 (aJa c a)/\aJb (cross (aJa b a) (aJa c a)) 0=turn a b c) (by
 change bd 1000000000 a/\bd 1000000000 b/\bd 1000000000 c at hp;have e:∀n,aJb n 0=sgn n:=λn=>by unfold aJb sgn;grind
 exact⟨hp.2.1,hp.1,hp.2.2,hp.1,j0 hp.2.1 hp.1,j0 hp.2.2 hp.1,e _⟩)
def t63:=U2.adk k63
def aIC:Con:=con (ac aV (a1 aI)) (λ(_,m)=>[0<=m,m<=9000000000000000000]) (λ(a,m)=> .bool (bF a m)
 )
def aG5:aIC.Okz 139:=bI t63 ae λ(a,m) hp=>bD (aX (0-m)/\qiq (0-m<=a.x) (qiq (a.x<=m) (aX (0-m)/\qiq (0-m<=a.y) (decide (a.y<=m)=bF a m) (aK=bF a m)) (aK=bF a m)) (aK=bF a m)) (by change 0<=m/\m<=9000000000000000000 at hp;unfold bF;have:= @aX;grind[aX])
def U1:=t63.adk aG5
def aIA:Con:=con (a1 aV) ae (λa=>aT.enc (fL a)
 )
def aG3:aIA.Okz 141:=bI U1 ae λa _=>bD (aO (fL a) λA=>a.x=A.x/\a.y=A.y/\1=A.den) (by exact⟨rfl,rfl,rfl⟩)
def Uz:=U1.adk aG3
def uq(b:S)(p:V):Bool:=decide (b.a.x<=p.x)&&decide (p.x<=b.b.x)&&decide (b.a.y<=p.y)&&decide (p.y<=b.b.y)
def bU(l:List V):Nat->S
 |0=>⟨aI7 l 0,aI7 l 0⟩
 |k+1=>⟨⟨min (bU l k).a.x (aI7 l k).x,min (bU l k).a.y (aI7 l k).y⟩,⟨max (bU l k).b.x (aI7 l k).x,max (bU l k).b.y (aI7 l k).y⟩⟩
def aHG:Con:=con (ac aS (a1 aV)) ae (λ(b,p)=> .bool (uq b p)
 )
def aGa:aHG.Okz 227:=bI Uz ae λ(b,p) _=>bD (qiq (b.a.x<=p.x) (qiq (p.x<=b.b.x) (qiq (b.a.y<=p.y) (decide (p.y<=b.b.y)=uq b p) (aK=uq b p)) (aK=uq b p)) (aK=uq b p)) (by unfold uq;grind)
def T5:=Uz.adk aGa
def aHH:Con:=con (a1 (aL .V)) (λl=>[aA l<=1000]) (λl=> .tup [aS.enc (bU l (aA l)),.bool (decide (0<aA l))])
def aGb:aHH.Okz 226:=bI T5 (λl=>[lp 5 19 (aA l) ae [] ae (λk=>[(12,.box 196 [.iqz (bU l k).a.x,.iqz (bU l k).a.y,.iqz (bU l k).b.x,.iqz (bU l k).b.y])])]
 ) λl hp=>bD (aO (bU l 0) λC=>aO (0:Nat) λF=>aO (aI7 l 0) λG=>aO (bU l (aA l)) λI=>aO (aA l:Int) λJ=>qiq (J=0) (0=I.a.x/\0=I.a.y/\0=I.b.x/\0=I.b.y/\aK=decide (F<aA l)) (ix 0 (aA l)/\ix 0 (aA l)/\(0=(0:Int)/\G.x=C.a.x/\G.y=C.a.y/\G.x=C.b.x/\G.y=C.b.y/\F<=aA l)/\
 (∀x:Nat,aO (bU l x) λB=>aO (bU l (x+1)) λD=>aO (x:Int) λE=>aO (aI7 l x) λH=>x<=aA l->qiq (E<aA l) (ix E (aA l)/\ix E (aA l)/\ix E (aA l)/\ix E (aA l)/\qnr E x (Min.min B.a.x H.x=D.a.x/\Min.min B.a.y H.y=D.a.y/\Max.max B.b.x H.x=D.b.x/\Max.max B.b.y H.y=D.b.y/\x+1<=(aA l)/\(aA l)-(x+1)<aA l-x)) (B.a.x=I.a.x/\B.a.y=I.a.y/\B.b.x=I.b.x/\B.b.y=I.b.y/\aE=decide (F<aA l))))) (by
 change (aA l)<=1000 at hp;have eU:∀x:Nat,¬(x:Int)<aA l->x<=aA l->bU l x=bU l (aA l):=λx h1 h2=>aH
 with_reducible ((repeat' first|apply cJ|intro);all_goals repeat cases‹_/\_›)
 all_goals first|rfl|(have h0:l=[] :=pg.1 aC;subst h0;rfl)|(rw[eU _ aJ aJ])|(symm;rw[decide_eq_false_iff_not];omega)|grind)
def T6:=T5.adk aGb
def aHR:Con:=con (ac aI (a1 aI)) (λ(a,b)=>[-9000000000000000000<=a,a<=9000000000000000000,-9000000000000000000<=b,b<=9000000000000000000]) (λ(a,b)=> .iqz ((bQ a.natAbs b.natAbs:Nat):Int))
def aGk:aHR.Okz 208:=bI T6 (λ(a,b)=>[(1,.mk (Int×Int) (λF _=>Kv F 0 1) [] (λp=>[p.1.natAbs<=9000000000000000000,p.2.natAbs<=9000000000000000000,bQ p.1.natAbs p.2.natAbs=bQ a.natAbs b.natAbs]) (λp=>[(0,.iqz p.1),(1,.iqz p.2)]) ae (λp=>p.2.natAbs) ae)]
  ) λ(a,b) hp=>bD (aO (ce a) λA=>aO (ce b) λB=>(a=a/\b=b/\ce a<=9000000000000000000/\ce b<=9000000000000000000/\bQ A B=bQ A B)/\
 (∀x:Prod Int Int,aO (dA x.1 x.2) λC=>ce x.1<=9000000000000000000/\ce x.2<=9000000000000000000/\bQ (ce x.1) (ce x.2)=bQ A B->qiq (¬x.2=0) (x.2≠0/\x.2=x.2/\dA x.1 x.2=dA x.1 x.2/\ce x.snd<=9000000000000000000/\ce C<=9000000000000000000/\bQ (ce x.snd) (ce C)=bQ A B/\ce C<ce x.2) (aX (0-x.1)/\Max.max x.1 (0-x.1)=bQ A B))) (by
  change-9000000000000000000<=a/\a<=9000000000000000000/\ -9000000000000000000<=b/\b<=9000000000000000000 at hp;have e1:∀x y:Int,bQ y.natAbs (dA x y).natAbs=bQ x.natAbs y.natAbs:=λx y=>by rw[Bx,By,<-Nat.gcd_rec,By]
  have e2:∀x y:Int,¬y=0->(dA x y).natAbs<y.natAbs:=λx y h=>by rw[Bx];exact cG _ aC
  have e3:∀(x y:Int) (g:Nat),bQ x.natAbs y.natAbs=g->¬¬y=0->max x (0-x)=(g:Int):=λx y g h h2=>by rw[vE h2]at h;grind
  repeat' first|with_reducible apply cJ|with_reducible intro
  all_goals repeat with_reducible cases‹_/\_›
  all_goals first|rfl|with_reducible solve_by_elim|(rw[e1];assumption)|exact trivial|exact nb aJ|exact nb' aJ|omega|exact iX aC|(unfold ix;omega)|(unfold aX;omega)|exact iJ _|exact cO aJ aJ|(refine cO aJ ?_;simp_all;done)|grind|grind)
def UE:=T6.adk aGk
def aHS:Con:=con (ac aT (a1 aI)) (λ(_,m)=>[0<=m,m<=1000000]) (λ(p,m)=> .bool (jg p m)
 )
def aGl:aHS.Okz 207:=bI UE ae λ(p,m) hp=>bD (qiq (p.den<1) (aK=jg p m) (qiq (134217728<p.den) (aK=jg p m) (aX (m*p.den)/\0<=m*p.den/\m*p.den<=9000000000000000000/\bF ⟨p.x,p.y⟩ (m*p.den)=jg p m))) (by
 change 0<=m/\m<=1000000 at hp;unfold jg;have hm:¬p.den<1->¬134217728<p.den->aX (m*p.den)/\0<=m*p.den/\m*p.den<=9000000000000000000:=λh1 h2=>by have:=jE (x:=m) (y:=p.den) (A:=1000000) (B:=134217728) aC aC;exact⟨bP aC,Int.mul_nonneg hp.1 aC,aC⟩
 grind)
def UF:=UE.adk aGl
def aH1:Con:=con (a1 aT) ae (λp=> .bool (dP p)
 )
def aGv:aH1.Okz 184:=bI UF ae λp _=>bD (aO (bQ (ce p.x) (ce p.y):Int) λC=>(0:Int)<=4000/\(4000:Int)<=1000000/\qbq (jg p 4000) (-9000000000000000000<=p.x/\p.x<=9000000000000000000/\ -9000000000000000000<=p.y/\p.y<=9000000000000000000/\ -9000000000000000000<=C/\C<=9000000000000000000/\ -9000000000000000000<=p.den/\p.den<=9000000000000000000/\decide ((bQ (ce C) (ce p.den):Int)=1)=dP p) (aK=dP p)) (by
 have hB:jg p 4000=aE->PtB p:=λh=>by unfold jg bF at h;simp only[cD,decide_eq_true_eq]at h;unfold PtB;omega
 have hn:∀n m B:Nat,n<=B->m<=B->bQ n m<=B:=λn m B h1 h2=>by
  rcases rO n with e|e
  .grind
  .exact cZ (Nat.gcd_le_left m e) h1
 have hg:PtB p->bQ p.x.natAbs p.y.natAbs<=600000000000:=λh=>hn _ _ _ (by unfold PtB at h;omega) (by unfold PtB at h;omega);have ht:jg p 4000=aE->decide ((bQ (ce (bQ (ce p.x) (ce p.y):Int)) (ce p.den):Int)=1)=dP p:=λh=>by unfold dP;grind
 with_reducible ((repeat' first|apply cJ|intro);all_goals repeat cases‹_/\_›)
 all_goals first|rfl|exact ht aJ|(have h1:=hB aJ;have h2:=hg h1;unfold PtB at h1;omega)|(unfold dP;grind)|grind)
def UN:=UF.adk aGv
def aHP:Con:=con (a1 aS) ae (λs=> .bool (bX s)
 )
def aGi:aHP.Okz 215:=bI UN ae λs _=>bD ((0:Int)<=4000/\(4000:Int)<=9000000000000000000/\qbq (bF s.a 4000) ((0:Int)<=4000/\(4000:Int)<=9000000000000000000/\bF s.b 4000=bX s) (aK=bX s)) (by unfold bX;grind)
def UC:=UN.adk aGi
def aHN:Con:=con (ac aS (a1 aV)) ae (λ(s,p)=> .bool (onS s p)
 )
def aGg:aHN.Okz 217:=bI UC ae λ(s,p) _=>bD ([s.a,s.b].length<=1000/\qbq (bX s) (qbq (uq (bU [s.a,s.b] [s.a,s.b].length) p) (bd 1000000000 s.a/\bd 1000000000 s.b/\bd 1000000000 p/\decide (turn s.a s.b p=0)=onS s p) (aK=onS s p)) (aK=onS s p)) (by
 have e0:uq (bU [s.a,s.b] [s.a,s.b].length) p=iO s p:=by show(decide (min (min s.a.x s.a.x) s.b.x<=p.x)&&decide (p.x<=max (max s.a.x s.a.x) s.b.x)&&decide (min (min s.a.y s.a.y) s.b.y<=p.y)&&decide (p.y<=max (max s.a.y s.a.y) s.b.y))=_;rw[Int.min_self,Int.min_self,Int.max_self,Int.max_self];rfl
 rw[e0];have hv:∀{M:Int},bX s=aE->4000<=M->bd M s.a/\bd M s.b:=λh hM=>qE (by rw[h];rfl) hM;refine⟨af,λh=>⟨λh2=>⟨(hv h bg).1,(hv h bg).2,Ss (hv h bg) h2,?_⟩,λh2=>by unfold onS;rw[h2];simp⟩,λh=>by unfold onS;rw[h];rfl⟩;unfold onS;grind)
def UA:=UC.adk aGg
def aHM:Con:=con (a1 aV) ae (λp=> .agg [.iqz 1,.iqz p.x,.iqz p.y,.iqz 1,.iqz 0,.iqz 0,.iqz 0,.iqz 0]
 )
def aGf:aHM.Okz 218:=bI UA ae λp _=>bD (aO (0:Int) λA=>aO (fL p) λB=>(1:Int)=1/\B.x=p.x/\B.y=p.y/\B.den=1/\A=0/\A=0/\A=0/\A=0) (by
 with_reducible ((repeat' first|apply cJ|intro);all_goals repeat cases‹_/\_›)
 all_goals first|rfl|grind)
def T9:=UA.adk aGf
structure Com where
 k:Int
 p:Pt
 s:S
def Vv(c:Com):SV:= .agg [.int .i64 c.k,.int .i64 c.p.x,.int .i64 c.p.y,.int .i64 c.p.den,.int .i64 c.s.a.x,.int .i64 c.s.a.y,.int .i64 c.s.b.x,.int .i64 c.s.b.y]
def cz:Com:=⟨0,⟨0,0,0⟩,⟨⟨0,0⟩,⟨0,0⟩⟩⟩
def lA(s t:S)(d:Int):Int:=if d<0 then-cross (aJa t.a s.a) (aJa t.b t.a)else cross (aJa t.a s.a) (aJa t.b t.a)
def lB(s t:S)(d:Int):Int:=if d<0 then-cross (aJa t.a s.a) (aJa s.b s.a)else cross (aJa t.a s.a) (aJa s.b s.a)
def lE(d:Int):Int:=if d<0 then-d else d
def lX(s t:S)(d:Int):Int:=s.a.x*lE d+lA s t d*(aJa s.b s.a).x
def lY(s t:S)(d:Int):Int:=s.a.y*lE d+lA s t d*(aJa s.b s.a).y
def lG(s t:S)(d:Int):Int:=((bQ (bQ (lX s t d).natAbs (lY s t d).natAbs:Int).natAbs (lE d).natAbs:Nat):Int)
def lN(s t:S)(d:Int):Com:=if qx s t d=0 then cz else⟨qx s t d,⟨(lX s t d).tdiv (lG s t d),(lY s t d).tdiv (lG s t d),(lE d).tdiv (lG s t d)⟩,cz.s⟩
def jO(key:Nat)(obs:List (Nat×SOb)):Nat×Ann:=(key+10000,.mk Unit (λ_ _=>aD ()) [] ae ae (λ_=>obs) (λ_=>0) ae)
def aHD(c:Com):List SV:=[.int .i64 c.k,.int .i64 c.p.x,.int .i64 c.p.y,.int .i64 c.p.den,.int .i64 c.s.a.x,.int .i64 c.s.a.y,.int .i64 c.s.b.x,.int .i64 c.s.b.y]
def rr{x g B:Int}(h: -B<=x/\x<=B): -B<=x.tdiv g/\x.tdiv g<=B:=by have:=Int.natAbs_tdiv_le_natAbs x g;omega
def aE9{n m B:Nat}(h1:n<=B)(h2:m<=B):bQ n m<=B:=by
 rcases rO n with e|e
 .grind
 .exact cZ (Nat.gcd_le_left m e) h1
def Ct{s t:S}{d:Int}(h:lA s t d<0\/lE d<lA s t d\/lB s t d<0\/lE d<lB s t d):lN s t d=cz:=if_pos (if_pos h)
def NT{s t:S}{d:Int}(h1:¬lA s t d<0)(h2:¬lE d<lA s t d)(h3:¬lB s t d<0)(h4:¬lE d<lB s t d):qx s t d=if lA s t d=0\/lA s t d=lE d\/lB s t d=0\/lB s t d=lE d then 1 else 2:=if_neg (by simp only[not_or];exact⟨h1,h2,h3,h4⟩)
def NU{s t:S}{d k:Int}(h:qx s t d=k)(hk:k≠0):lN s t d=⟨k,⟨(lX s t d).tdiv (lG s t d),(lY s t d).tdiv (lG s t d),(lE d).tdiv (lG s t d)⟩,cz.s⟩:=by unfold lN;grind
def aHO:Con:=con (ac aS (ac aS (a1 aI))) (λ(s,t,d)=>[bX s=aE,bX t=aE,d≠0,-200000000<=d/\d<=200000000]) (λ(s,t,d)=>Vv (lN s t d))
def aGh:aHO.Okz 216:=bI T9 (λ(s,t,d)=>[jU 6 [(10,.iqz (lA s t d)),(11,.iqz (lB s t d)),(2,.iqz (lE d))],(9+10000,.mk Unit (λ_ _=>aD ()) [] (λ_=>[¬lA s t d<0,¬lE d<lA s t d,¬lB s t d<0,¬lE d<lB s t d]) (λ_=>[(12,.iqz (lX s t d)),(13,.iqz (lY s t d))]) ae (λ_=>0) ae),
  jU 10 [(14,.iqz (lG s t d))],jO 13 [(59,.box 175 (aHD (lN s t d)))]]
  ) λ(s,t,d) hp=>bD (aO (lE d) λA=>aO (lG s t d) λB=>aO (lX s t d) λC=>aO (lY s t d) λD=>aO (lN s t d) λE=>aO (aJa s.b s.a) λH=>aO (aJa t.a s.a) λI=>aO (aJa t.b t.a) λJ=>aO (bQ (ce C) (ce D):Int) λK=>bd 1000000000 s.b/\bd 1000000000 s.a/\bd 1000000000 t.b/\bd 1000000000 t.a/\bd 1000000000 t.a/\bd 1000000000 s.a/\bd 2000000000 I/\bd 2000000000 J/\bd 2000000000 I/\bd 2000000000 H/\(qiq (d<0) (aX (0-cross I J)/\aX (0-cross I H)/\aX (0-d)/\0-cross I J=lA s t d/\0-cross I H=lB s t d/\0-d=lE d) (cross I J=lA s t d/\cross I H=lB s t d/\d=lE d))/\
 (∀y:Unit,qiq (lA s t d<0) (0=E.k/\0=E.p.x/\0=E.p.y/\0=E.p.den/\0=E.s.a.x/\0=E.s.a.y/\0=E.s.b.x/\0=E.s.b.y) (qiq (lE d<lA s t d) (0=E.k/\0=E.p.x/\0=E.p.y/\0=E.p.den/\0=E.s.a.x/\0=E.s.a.y/\0=E.s.b.x/\0=E.s.b.y) (qiq (lB s t d<0) (0=E.k/\0=E.p.x/\0=E.p.y/\0=E.p.den/\0=E.s.a.x/\0=E.s.a.y/\0=E.s.b.x/\0=E.s.b.y) (qiq (lE d<lB s t d) (0=E.k/\0=E.p.x/\0=E.p.y/\0=E.p.den/\0=E.s.a.x/\0=E.s.a.y/\0=E.s.b.x/\0=E.s.b.y) ((aX (s.a.x*lE d)/\aX (lA s t d*H.x)/\aX (s.a.x*lE d+lA s t d*H.x)/\aX (s.a.y*lE d)/\aX (lA s t d*H.y)/\aX (s.a.y*lE d+lA s t d*H.y)/\s.a.x*lE d+lA s t d*H.x=lX s t d/\s.a.y*lE d+lA s t d*H.y=lY s t d/\¬lA s t d<0/\¬lE d<lA s t d/\¬lB s t d<0/\¬lE d<lB s t d)/\
   (∀y_1:Unit,¬lA s t d<0/\¬lE d<lA s t d/\¬lB s t d<0/\¬lE d<lB s t d->(-9000000000000000000<=lX s t d/\lX s t d<=9000000000000000000/\ -9000000000000000000<=lY s t d/\lY s t d<=9000000000000000000/\ -9000000000000000000<=K/\K<=9000000000000000000/\ -9000000000000000000<=lE d/\lE d<=9000000000000000000/\(bQ (ce K) (ce A):Int)=lG s t d)/\
    (∀y_2:Unit,lG s t d≠0/\aX (fe C B)/\lG s t d≠0/\aX (fe D B)/\lG s t d≠0/\aX (fe A B)/\(qiq (lA s t d=0) (1=E.k/\fe C B=E.p.x/\fe D B=E.p.y/\fe A B=E.p.den/\0=E.s.a.x/\0=E.s.a.y/\0=E.s.b.x/\0=E.s.b.y) (qiq (lA s t d=lE d) (1=E.k/\fe C B=E.p.x/\fe D B=E.p.y/\fe A B=E.p.den/\0=E.s.a.x/\0=E.s.a.y/\0=E.s.b.x/\0=E.s.b.y) (qiq (lB s t d=0) (1=E.k/\fe C B=E.p.x/\fe D B=E.p.y/\fe A B=E.p.den/\0=E.s.a.x/\0=E.s.a.y/\0=E.s.b.x/\0=E.s.b.y) (qiq (lB s t d=lE d) (1=E.k/\fe C B=E.p.x/\fe D B=E.p.y/\fe A B=E.p.den/\0=E.s.a.x/\0=E.s.a.y/\0=E.s.b.x/\0=E.s.b.y) (2=E.k/\fe C B=E.p.x/\fe D B=E.p.y/\fe A B=E.p.den/\0=E.s.a.x/\0=E.s.a.y/\0=E.s.b.x/\0=E.s.b.y)))))/\
     (∀y_3:Unit,E.k=E.k/\E.p.x=E.p.x/\E.p.y=E.p.y/\E.p.den=E.p.den/\E.s.a.x=E.s.a.x/\E.s.a.y=E.s.a.y/\E.s.b.x=E.s.b.x/\E.s.b.y=E.s.b.y))))))))) (by
  change bX s=aE/\bX t=aE/\d≠0/\(-200000000<=d/\d<=200000000)at hp;obtain⟨hs,ht,h0,hd⟩:=hp;have bs:bd 4000 s.a/\bd 4000 s.b:=qE (by rw[hs];rfl);have bt:bd 4000 t.a/\bd 4000 t.b:=qE (by rw[ht];rfl);have u1:=j0 bs.2 bs.1;have u2:=j0 bt.2 bt.1;have u3:=j0 bt.1 bs.1;have c1:=pu u3 u2;have c2:=pu u3 u1;have gM:∀{M:Int} {v:V},16000<=M->bd 4000 v->bd M v:=λh1 h2=>by unfold bd at*;omega
  have gN:∀{M:Int} {v:V},16000<=M->bd (4000+4000) v->bd M v:=λh1 h2=>by unfold bd at*;omega
  have a1: -128000000<=lA s t d/\lA s t d<=128000000:=by unfold lA cross;split<;>omega
  have e1: -200000000<=lE d/\lE d<=200000000:=by unfold lE;split<;>omega
  have e2:lE d≠0:=by unfold lE;split<;>omega
  have k1:aX (0-cross (aJa t.a s.a) (aJa t.b t.a)):=bP (by unfold cross;omega);have k2:aX (0-cross (aJa t.a s.a) (aJa s.b s.a)):=bP (by unfold cross;omega);have x1:=jE (A:=4000) (B:=200000000) bs.1.1 e1;have x2:=jE (A:=128000000) (B:=8000) a1 u1.1;have y1:=jE (A:=4000) (B:=200000000) bs.1.2 e1;have y2:=jE (A:=128000000) (B:=8000) a1 u1.2;have xB: -2000000000000<=lX s t d/\lX s t d<=2000000000000:=by unfold lX;omega
  have yB: -2000000000000<=lY s t d/\lY s t d<=2000000000000:=by unfold lY;omega
  have g1:bQ (lX s t d).natAbs (lY s t d).natAbs<=2000000000000:=aE9 aC aC;have g2:lG s t d≠0:=by unfold lG;have:=Nat.gcd_pos_of_pos_right (bQ (lX s t d).natAbs (lY s t d).natAbs:Int).natAbs (aC:0<(lE d).natAbs);omega
  have q1:=rr (g:=lG s t d) xB;have q2:=rr (g:=lG s t d) yB;have q3:=rr (g:=lG s t d) e1;have r1:aX (s.a.x*lE d):=bP aC;have r2:aX (lA s t d*(aJa s.b s.a).x):=bP aC;have r3:aX (s.a.x*lE d+lA s t d*(aJa s.b s.a).x):=bP aC;have r4:aX (s.a.y*lE d):=bP aC;have r5:aX (lA s t d*(aJa s.b s.a).y):=bP aC;have r6:aX (s.a.y*lE d+lA s t d*(aJa s.b s.a).y):=bP aC;have r7:aX ((lX s t d).tdiv (lG s t d)):=bP aC;have r8:aX ((lY s t d).tdiv (lG s t d)):=bP aC;have r9:aX ((lE d).tdiv (lG s t d)):=bP aC;have r10:aX (0-d):=bP aC;have f1:d<0->0-cross (aJa t.a s.a) (aJa t.b t.a)=lA s t d:=λh=>by unfold lA;omega
  have f2:d<0->0-cross (aJa t.a s.a) (aJa s.b s.a)=lB s t d:=λh=>by unfold lB;omega
  have f3:d<0->0-d=lE d:=λh=>by unfold lE;omega
  have f4:¬d<0->cross (aJa t.a s.a) (aJa t.b t.a)=lA s t d:=λh=>by unfold lA;rw[if_neg h]
  have f5:¬d<0->cross (aJa t.a s.a) (aJa s.b s.a)=lB s t d:=λh=>by unfold lB;rw[if_neg h]
  have f6:¬d<0->d=lE d:=λh=>by unfold lE;rw[if_neg h]
  have n1:lA s t d<0->lN s t d=cz:=λh=>Ct (.inl h);have n2:lE d<lA s t d->lN s t d=cz:=λh=>Ct (.inr (.inl h));have n3:lB s t d<0->lN s t d=cz:=λh=>Ct (.inr (.inr (.inl h)));have n4:lE d<lB s t d->lN s t d=cz:=λh=>Ct (.inr (.inr (.inr h)));have t0:¬lA s t d<0->¬lE d<lA s t d->¬lB s t d<0->¬lE d<lB s t d->lA s t d=0\/lA s t d=lE d\/lB s t d=0\/lB s t d=lE d->lN s t d=⟨1,⟨(lX s t d).tdiv (lG s t d),(lY s t d).tdiv (lG s t d),(lE d).tdiv (lG s t d)⟩,cz.s⟩:=λh1 h2 h3 h4 h=>NU (by rw[NT h1 h2 h3 h4,if_pos h]) bg;have t1:¬lA s t d<0->¬lE d<lA s t d->¬lB s t d<0->¬lE d<lB s t d->¬(lA s t d=0\/lA s t d=lE d\/lB s t d=0\/lB s t d=lE d)->lN s t d=⟨2,⟨(lX s t d).tdiv (lG s t d),(lY s t d).tdiv (lG s t d),(lE d).tdiv (lG s t d)⟩,cz.s⟩:=λh1 h2 h3 h4 h=>NU (by rw[NT h1 h2 h3 h4,if_neg h]) bg;have b1:=gM (M:=1000000000) bg bs.1;have b2:=gM (M:=1000000000) bg bs.2;have b3:=gM (M:=1000000000) bg bt.1;have b4:=gM (M:=1000000000) bg bt.2;have b5:=gN (M:=2000000000) bg u1;have b6:=gN (M:=2000000000) bg u2;have b7:=gN (M:=2000000000) bg u3;have hX: -9000000000000000000<=lX s t d/\lX s t d<=9000000000000000000:=aC;have hY: -9000000000000000000<=lY s t d/\lY s t d<=9000000000000000000:=aC;have hE: -9000000000000000000<=lE d/\lE d<=9000000000000000000:=aC;have hG1: -9000000000000000000<=((bQ (lX s t d).natAbs (lY s t d).natAbs:Nat):Int):=aC;have hG2:((bQ (lX s t d).natAbs (lY s t d).natAbs:Nat):Int)<=9000000000000000000:=aC;clear hs ht h0 hd bs bt u1 u2 u3 c1 c2 gM gN a1 e1 e2 x1 x2 y1 y2 xB yB g1 q1 q2 q3;obtain⟨hX1,hX2⟩:=hX;obtain⟨hY1,hY2⟩:=hY;obtain⟨hE1,hE2⟩:=hE
  with_reducible ((repeat' first|apply cJ|intro);all_goals repeat cases‹_/\_›)
  all_goals first|assumption|rfl|exact f1 aJ|exact f2 aJ|exact f3 aJ|exact f4 aJ|exact f5 aJ|exact f6 aJ|(rw[n1 aJ];rfl)|(rw[n2 aJ];rfl)|(rw[n3 aJ];rfl)|(rw[n4 aJ];rfl)|(rw[t0 aJ aJ aJ aJ (.inl aJ)] <;>rfl)|(rw[t0 aJ aJ aJ aJ (.inr (.inl aJ))] <;>rfl)|(rw[t0 aJ aJ aJ aJ (.inr (.inr (.inl aJ)))] <;>rfl)|(rw[t0 aJ aJ aJ aJ (.inr (.inr (.inr aJ)))] <;>rfl)|(rw[t1 aJ aJ aJ aJ (λh=>h.elim aJ λh=>h.elim aJ λh=>h.elim aJ aJ)] <;>rfl))
def UB:=T9.adk aGh
def v2(v:V):List SV:=[.int .i64 v.x,.int .i64 v.y]
def wL(v:V):Com:=⟨1,fL v,cz.s⟩
def pD(s t:S):Int:=cross (aJa s.b s.a) (aJa t.b t.a)
def qK(s t:S):Com:=
 if cQ (fy s t) (gk s t)=0 then wL (fy s t)
 else if cQ (fy s t) (gk s t)= -1 then⟨3,⟨0,0,0⟩,⟨fy s t,gk s t⟩⟩
 else cz
def mb1(s t:S):Bool:=decide (s.a=s.b)&&onS t s.a
def mb3(s t:S):Bool:=decide (s.a=s.b)||(decide (t.a=t.b)||decide (¬turn s.a s.b t.a=0))
def fX(s t:S):Com:=
 if(!bX s)=aE then cz
 else if(!bX t)=aE then cz
 else if¬pD s t=0 then lN s t (pD s t)
 else if mb1 s t=aE then wL s.a
 else if mb1 t s=aE then wL t.a
 else if mb3 s t=aE then cz
 else qK s t
def aHX:Con:=con (ac aS (a1 aS)) ae (λ(s,t)=>Vv (fX s t))
def aGq:aHX.Okz 198:=bI UB (λ(s,t)=>[jb 7 36 (mb1 s t),jb 9 51 (mb1 t s),jb 11 66 (mb3 s t),jP 12 [fX s t=qK s t],lU 14 3,jO 18 [(34,.box 189 (v2 (loS s)++v2 (hiS s)++v2 (loS t)++v2 (hiS t)))],jO 21 [(40,.box 44 (v2 (fy s t)))],jO 23 [(41,.box 44 (v2 (gk s t)))]]
 ) λ(s,t) _=>bD (aO (fX s t) λA=>aO (loS s) λB=>aO (hiS s) λC=>aO (loS t) λD=>aO (hiS t) λE=>aO (0+2:Int) λF=>aO (!bX s) λG=>aO (!bX t) λH=>aO (aJa s.b s.a) λI=>aO (aJa t.b t.a) λJ=>aO (lN s t (cross I J)) λL=>aO (fy s t) λM=>aO (gk s t) λN=>aO (0+2+2:Int) λO=>qbq G (0=A.k/\0=A.p.x/\0=A.p.y/\0=A.p.den/\0=A.s.a.x/\0=A.s.a.y/\0=A.s.b.x/\0=A.s.b.y) (qbq H (0=A.k/\0=A.p.x/\0=A.p.y/\0=A.p.den/\0=A.s.a.x/\0=A.s.a.y/\0=A.s.b.x/\0=A.s.b.y) (bd 1000000000 s.b/\bd 1000000000 s.a/\bd 1000000000 t.b/\bd 1000000000 t.a/\bd 2000000000 I/\bd 2000000000 J/\qiq (¬cross I J=0) (bX s=aE/\bX t=aE/\cross I J≠0/\(-200000000<=cross I J/\cross I J<=200000000)/\L.k=A.k/\L.p.x=A.p.x/\L.p.y=A.p.y/\L.p.den=A.p.den/\L.s.a.x=A.s.a.x/\L.s.a.y=A.s.a.y/\L.s.b.x=A.s.b.x/\L.s.b.y=A.s.b.y) (((qiq (s.a=s.b) (onS t s.a=mb1 s t) (aK=mb1 s t))/\
   (∀y:Unit,qbq (mb1 s t) (1=A.k/\s.a.x=A.p.x/\s.a.y=A.p.y/\1=A.p.den/\0=A.s.a.x/\0=A.s.a.y/\0=A.s.b.x/\0=A.s.b.y) ((qiq (t.a=t.b) (onS s t.a=mb1 t s) (aK=mb1 t s))/\
     (∀y_1:Unit,qbq (mb1 t s) (1=A.k/\t.a.x=A.p.x/\t.a.y=A.p.y/\1=A.p.den/\0=A.s.a.x/\0=A.s.a.y/\0=A.s.b.x/\0=A.s.b.y) ((qiq (s.a=s.b) (aE=mb3 s t) (qiq (t.a=t.b) (aE=mb3 s t) (bd 1000000000 s.a/\bd 1000000000 s.b/\bd 1000000000 t.a/\decide (¬turn s.a s.b t.a=0)=mb3 s t)))/\
       (∀y_2:Unit,qbq (mb3 s t) (0=A.k/\0=A.p.x/\0=A.p.y/\0=A.p.den/\0=A.s.a.x/\0=A.s.a.y/\0=A.s.b.x/\0=A.s.b.y) (fX s t=qK s t)))))))/\
  (∀y:Unit,fX s t=qK s t->(qiq ((0:Int)<4) (aX (0+1)/\ix (0+1) 4/\ix 0 4/\qbq (cB s.b s.a) (aX (0+1)/\aX (0+1)/\ix (0+1) 4/\ix 0 4/\ix 0 4/\ix (0+1) 4/\aX (0+2)/\qiq (F<4) (aX (0+2+1)/\ix (0+2+1) 4/\ix (0+2) 4/\qbq (cB t.b t.a) (aX (0+2+1)/\aX (0+2+1)/\ix (0+2+1) 4/\ix (0+2) 4/\ix (0+2) 4/\ix (0+2+1) 4/\aX (0+2+2)/\qiq (O<4) (aX (0+2+2+1)/\ix (0+2+2+1) 4/\False) (s.b.x=B.x/\s.b.y=B.y/\s.a.x=C.x/\s.a.y=C.y/\t.b.x=D.x/\t.b.y=D.y/\t.a.x=E.x/\t.a.y=E.y)) (aX (0+2+2)/\qiq (O<4) (aX (0+2+2+1)/\ix (0+2+2+1) 4/\False) (s.b.x=B.x/\s.b.y=B.y/\s.a.x=C.x/\s.a.y=C.y/\t.a.x=D.x/\t.a.y=D.y/\t.b.x=E.x/\t.b.y=E.y))) (s.b.x=B.x/\s.b.y=B.y/\s.a.x=C.x/\s.a.y=C.y/\t.a.x=D.x/\t.a.y=D.y/\t.b.x=E.x/\t.b.y=E.y)) (aX (0+2)/\qiq (F<4) (aX (0+2+1)/\ix (0+2+1) 4/\ix (0+2) 4/\qbq (cB t.b t.a) (aX (0+2+1)/\aX (0+2+1)/\ix (0+2+1) 4/\ix (0+2) 4/\ix (0+2) 4/\ix (0+2+1) 4/\aX (0+2+2)/\qiq (O<4) (aX (0+2+2+1)/\ix (0+2+2+1) 4/\False) (s.a.x=B.x/\s.a.y=B.y/\s.b.x=C.x/\s.b.y=C.y/\t.b.x=D.x/\t.b.y=D.y/\t.a.x=E.x/\t.a.y=E.y)) (aX (0+2+2)/\qiq (O<4) (aX (0+2+2+1)/\ix (0+2+2+1) 4/\False) (s.a.x=B.x/\s.a.y=B.y/\s.b.x=C.x/\s.b.y=C.y/\t.a.x=D.x/\t.a.y=D.y/\t.b.x=E.x/\t.b.y=E.y))) (s.a.x=B.x/\s.a.y=B.y/\s.b.x=C.x/\s.b.y=C.y/\t.a.x=D.x/\t.a.y=D.y/\t.b.x=E.x/\t.b.y=E.y))) (s.a.x=B.x/\s.a.y=B.y/\s.b.x=C.x/\s.b.y=C.y/\t.a.x=D.x/\t.a.y=D.y/\t.b.x=E.x/\t.b.y=E.y))/\
   (∀y_1:Unit,ix 0 4/\ix 1 4/\(ix 2 4/\qbq (cB B D) (ix 2 4/\D.x=M.x/\D.y=M.y) (B.x=M.x/\B.y=M.y))/\
    (∀y_2:Unit,(ix 3 4/\qbq (cB E C) (ix 3 4/\E.x=N.x/\E.y=N.y) (C.x=N.x/\C.y=N.y))/\
     (∀y_3:Unit,qiq (cQ M N=0) (1=A.k/\M.x=A.p.x/\M.y=A.p.y/\1=A.p.den/\0=A.s.a.x/\0=A.s.a.y/\0=A.s.b.x/\0=A.s.b.y) (qiq (cQ M N= -1) (3=A.k/\0=A.p.x/\0=A.p.y/\0=A.p.den/\M.x=A.s.a.x/\M.y=A.s.a.y/\N.x=A.s.b.x/\N.y=A.s.b.y) (0=A.k/\0=A.p.x/\0=A.p.y/\0=A.p.den/\0=A.s.a.x/\0=A.s.a.y/\0=A.s.b.x/\0=A.s.b.y)))))))))) (by
 have gB:(!bX s)=aK->(!bX t)=aK-> -200000000<=pD s t/\pD s t<=200000000:=λh1 h2=>by have bs:bd 4000 s.a/\bd 4000 s.b:=qE h1;have bt:bd 4000 t.a/\bd 4000 t.b:=qE h2;have c1:=pu (j0 bs.2 bs.1) (j0 bt.2 bt.1);unfold pD cross;omega
 have gM:∀{r:S} {M:Int},8000<=M->(!bX r)=aK->bd M r.a/\bd M r.b/\bd M (aJa r.b r.a):=λhM h=>by have b:=qE h (M:=4000);have c:=j0 b.2 b.1;unfold bd at*;omega
 have e1:(!bX s)=aE->fX s t=cz:=λh=>if_pos h;have e2:(!bX t)=aE->fX s t=cz:=λh=>by unfold fX;grind
 have e3:(!bX s)=aK->(!bX t)=aK->¬pD s t=0->fX s t=lN s t (pD s t):=λh1 h2 h3=>by unfold fX;grind
 have e4:(!bX s)=aK->(!bX t)=aK->¬¬pD s t=0->mb1 s t=aE->fX s t=wL s.a:=λh1 h2 h3 h4=>by unfold fX;grind
 have e5:(!bX s)=aK->(!bX t)=aK->¬¬pD s t=0->mb1 s t=aK->mb1 t s=aE->fX s t=wL t.a:=λh1 h2 h3 h4 h5=>by unfold fX;grind
 have e6:(!bX s)=aK->(!bX t)=aK->¬¬pD s t=0->mb1 s t=aK->mb1 t s=aK->mb3 s t=aE->fX s t=cz:=λh1 h2 h3 h4 h5 h6=>by unfold fX;grind
 have e7:(!bX s)=aK->(!bX t)=aK->¬¬pD s t=0->mb1 s t=aK->mb1 t s=aK->mb3 s t=aK->fX s t=qK s t:=λh1 h2 h3 h4 h5 h6=>by unfold fX;grind
 have e8:fX s t=qK s t->cQ (fy s t) (gk s t)=0->fX s t=wL (fy s t):=λh h1=>by rw[h];exact if_pos h1
 have e9:fX s t=qK s t->¬cQ (fy s t) (gk s t)=0->cQ (fy s t) (gk s t)= -1->fX s t=⟨3,⟨0,0,0⟩,⟨fy s t,gk s t⟩⟩:=λh h1 h2=>by rw[h];unfold qK;grind
 have e10:fX s t=qK s t->¬cQ (fy s t) (gk s t)=0->¬cQ (fy s t) (gk s t)= -1->fX s t=cz:=λh h1 h2=>by rw[h];unfold qK;grind
 have q1:s.a=s.b->aE=mb3 s t:=λh=>by unfold mb3;grind
 have q2:t.a=t.b->aE=mb3 s t:=λh=>by unfold mb3;grind
 have q3:¬s.a=s.b->¬t.a=t.b->decide (¬turn s.a s.b t.a=0)=mb3 s t:=λh1 h2=>by unfold mb3;grind
 have q4:∀{s t:S},s.a=s.b->onS t s.a=mb1 s t:=λh=>by unfold mb1;grind
 have q5:∀{s t:S},¬s.a=s.b->aK=mb1 s t:=λh=>by unfold mb1;grind
 have w1:∀{r:S},cB r.b r.a=aE->r.b=loS r/\r.a=hiS r:=λh=>by unfold loS hiS;grind
 have w2:∀{r:S},cB r.b r.a=aK->r.a=loS r/\r.b=hiS r:=λh=>by unfold loS hiS;grind
 have w3:cB (loS s) (loS t)=aE->loS t=fy s t:=λh=>by unfold fy;rw[h];rfl
 have w4:cB (loS s) (loS t)=aK->loS s=fy s t:=λh=>by unfold fy;rw[h];rfl
 have w5:cB (hiS t) (hiS s)=aE->hiS t=gk s t:=λh=>by unfold gk;rw[h];rfl
 have w6:cB (hiS t) (hiS s)=aK->hiS s=gk s t:=λh=>by unfold gk;rw[h];rfl
 with_reducible ((repeat' first|apply cJ|intro);all_goals repeat cases‹_/\_›)
 all_goals first|assumption|rfl|(unfold ix;omega)|(unfold aX;omega)|omega|exact nb aJ|exact q1 aJ|exact q2 aJ|exact q3 aJ aJ|exact q4 aJ|exact q5 aJ|(rw[e1 aJ] <;>rfl)|(rw[e2 aJ] <;>rfl)|(rw[e3 aJ aJ aJ] <;>rfl)|(rw[e4 aJ aJ aJ aJ] <;>rfl)|(rw[e5 aJ aJ aJ aJ aJ] <;>rfl)|(rw[e6 aJ aJ aJ aJ aJ aJ] <;>rfl)|exact e7 aJ aJ aJ aJ aJ aJ|(rw[e8 aJ aJ] <;>rfl)|(rw[e9 aJ aJ aJ] <;>rfl)|(rw[e10 aJ aJ aJ] <;>rfl)|exact(gB aJ aJ).1|exact(gB aJ aJ).2|exact(gM bg aJ).1|exact(gM bg aJ).2.1|exact(gM bg aJ).2.2|(rw[<-(w1 aJ).1];done)|(rw[<-(w1 aJ).2];done)|(rw[<-(w2 aJ).1];done)|(rw[<-(w2 aJ).2];done)|(rw[w3 aJ];done)|(rw[w4 aJ];done)|(rw[w5 aJ];done)|(rw[w6 aJ];done))
def UJ:=UB.adk aGq
def aB4(s t:S)(d:Int):(lN s t d).k=qx s t d:=by
 unfold lN;split
 .rename_i h;rw[h];rfl
 .rfl
def aDM(s t:S):(fX s t).k=cX s t:=by
 have hc:(cz).k=0:=rfl;have h1:∀v,(wL v).k=1:=λ_=>rfl;have e1:mb1 s t=aE↔s.a=s.b/\onS t s.a=aE:=by unfold mb1;simp
 have e2:mb1 t s=aE↔t.a=t.b/\onS s t.a=aE:=by unfold mb1;simp
 have e3:mb3 s t=aE↔s.a=s.b\/t.a=t.b\/turn s.a s.b t.a≠0:=by unfold mb3;simp
 unfold fX cX qK;rw[<-pD];simp only[<-e1,<-e2,<-e3];cases bX s<;>cases bX t<;>simp only[Bool.not_true,Bool.not_false,Bool.and_true,Bool.and_false,if_true,Bool.false_eq_true,if_false,hc,ne_eq]
 repeat' split
 all_goals first|rfl|exact aB4 _ _ _
def aIo:Con:=con (ac aS (a1 aS)) ae (λ(s,t)=> .iqz (cX s t)
 )
def aGR:aIo.Okz 155:=bI UJ ae λ(s,t) _=>bD ((fX s t).k=cX s t) (by exact aDM s t)
def Uk:=UJ.adk aGR
def aIq:Con:=con (ac (aL .V) (a1 aN)) (λ(r,i)=>[i<aA r,aA r<=1000000]) (λ(r,i)=>aV.enc (prv r i)
 )
def aGT:aIq.Okz 152:=bI Uk ae λ(r,i) hp=>bD (aX ((i:Int)+aA r)/\aX ((i:Int)+aA r-1)/\(aA r:Int)≠0/\ix (dA ((i:Int)+aA r-1) (aA r:Int)) (aA r)/\(aI7 r (dA ((i:Int)+aA r-1) (aA r:Int)).toNat).x=(prv r i).x/\(aI7 r (dA ((i:Int)+aA r-1) (aA r:Int)).toNat).y=(prv r i).y) (by
 change i<(aA r)/\(aA r)<=1000000 at hp;have h:dA ((i:Int)+aA r-1) (aA r:Int)=(((i+aA r-1) % (aA r):Nat):Int):=by rw[show(i:Int)+aA r-1=((i+aA r-1:Nat):Int) by omega,<-Int.ofNat_tmod]
 rw[h];exact⟨bP aC,bP aC,aC,iX aC,rfl,rfl⟩)
def Un:=Uk.adk aGT
def aIp:Con:=con (ac (aL .V) (a1 aN)) (λ(r,i)=>[i<aA r,aA r<=1000000]) (λ(r,i)=>aV.enc (nxt r i)
 )
def aGS:aIp.Okz 153:=bI Un ae λ(r,i) hp=>bD (aO ((i+1) % (aA r)) λA=>aX ((i:Int)+1)/\(aA r:Int)≠0/\ix (((i+1) % (aA r):Nat):Int) (aA r)/\(aI7 r A).x=(nxt r i).x/\(aI7 r A).y=(nxt r i).y) (by change i<(aA r)/\(aA r)<=1000000 at hp;exact⟨bP aC,aC,iX aC,rfl,rfl⟩)
def Um:=Un.adk aGS
def Vk:Con:=FD (a1 (aL .V)) (λr=>[aA r<=1000]) 46 .S (λr=>aW r) ae
def Vd:Vk.Okz 154:=JN (qO Um.o) (raw:=wC) (λr=>[lp 5 11 (aA r) ae [21] (λk=>[(3,.own 21 .S k)]) (λk=>[(21,.row 46 .S ((aW r).take k))])]
 ) (λ_=>⟨[],rfl⟩) λr hp=>bD (aO (aW r) λB=>aO (aA r:Int) λG=>aO ([] :List S) λH=>qiq (G<2) (aW r=H) ((0=(0:Int)/\(0:Nat)=0/\ak 0 B=H/\(0:Nat)<=aA r)/\
 (∀x:Nat,aO (x:Int) λA=>aO (ak x B) λE=>aO (⟨(aI7 r x),(nxt r x)⟩:S) λF=>x<=aA r->qiq (A<aA r) (ix A (aA r)/\x<(aA r)/\(aA r)<=1000000/\x=(aA E)/\(aA E)+[F].length<=1000000/\qnr A x (aA (ak x B++[F])=x+1/\ak x B++[F] =ak (x+1) B/\x+1<=(aA r)/\(aA r)-(x+1)<aA r-x)) (ak x B=aW r/\x=aA E)))) (by
 change (aA r)<=1000 at hp;have e0:(aA r:Int)<2->aW r=[] :=λh=>by unfold aW;grind
 have e1:¬(aA r:Int)<2->aA (aW r)=aA r:=λh=>zO r aC;have e2:¬(aA r:Int)<2->∀x:Nat,(x:Int)<aA r->ak x (aW r)++[⟨aI7 r x,nxt r x⟩] =ak (x+1) (aW r):=λh x hx=>by
  have hx':x<aA (aW r):=by rw[e1 h];omega
  rw[lC hx',<-iV hx',zZ aC aC];rfl
 have e3:¬(aA r:Int)<2->∀x:Nat,x<=aA r->aA (ak x (aW r))=x:=λh x hx=>aH;have e4:¬(aA r:Int)<2->∀x:Nat,¬(x:Int)<aA r->ak x (aW r)=aW r:=λh x hx=>jB aC
 with_reducible ((repeat' first|apply cJ|intro);all_goals repeat cases‹_/\_›)
 all_goals grind)
def Ul:=Um.adk Vd
def aIr:Con:=con (a1 (aL .V)) (λr=>[near r=aE,aA r<=100000]) (λr=> .iqz (area r))
def aGU:aIr.Okz 151:=bI Ul (λr=>[lp 3 8 (aA r) ae [] (λk=>[(3,.iqz (ar r k))]) ae]
  ) λr hp=>bD ((0=(0:Int)/\0=ar r 0/\(0:Nat)<=aA r)/\
 (∀x:Nat,aO (x:Int) λA=>aO (aI7 r x) λB=>aO (nxt r x) λC=>x<=aA r->qiq (A<aA r) (ix A (aA r)/\x<(aA r)/\(aA r)<=1000000/\bd 2000000000 B/\bd 2000000000 C/\aX (ar r x+cross B C)/\qnr A x (ar r x+cross B C=ar r (x+1)/\x+1<=(aA r)/\(aA r)-(x+1)<aA r-x)) (ar r x=area r))) (by
  change near r=aE/\(aA r)<=100000 at hp;have hn:=λi hi=> @o4 r hp.1 i hi 2000000000;have ha:=λk (hk:k<=aA r)=>wJ hp.1 k hk;have hs:=Dv r;have hE:∀x:Nat,¬(x:Int)<aA r->x<=aA r->ar r x=area r:=λx h1 h2=>by rw[(aC:x=aA r)];rfl
  have hI:∀x:Nat,(x:Int)<aA r->aX (ar r x+cross (aI7 r x) (nxt r x)):=λx h=>by have h1:=ha (x+1) aC;rw[hs x]at h1;exact bP (by unfold nxt;omega)
  with_reducible ((repeat' first|apply cJ|intro);all_goals repeat cases‹_/\_›)
  all_goals first|rfl|with_reducible solve_by_elim|exact hn _ aC bg|exact hn _ (cG _ aC) bg|exact(hs _).symm|grind)
def Uo:=Ul.adk aGU
def aHY:Con:=con (a1 aV) ae (λv=> .bool (!bF v 2000)
 )
def aGs:aHY.Okz 197:=bI Uo ae λv _=>bD (aO (!bF v 2000) λA=>(0:Int)<=2000/\(2000:Int)<=9000000000000000000/\A=A) (by grind)
def UK:=Uo.adk aGs
def aF(f:Nat):Ar Unit where
 enc _:= .fnp f [] []
 dec s:=match s with
  | .fnp g [] [] =>(match bZ g f with|true=>aD ()|false=>aM)
  |_=>aM
 ok s a h:=by
  split at h
  .split at h<;>cases h;simp_all
  .cases h
 pl _:=⟨_,rfl⟩
def fI{α:Type}(q:α->Bool)(l:List α):Int:=match l.findIdx? q with
 |some i=>(i:Int)
 |none=> -1
def s8{t:LT}{l:List t.ty}{q:t.ty->Bool}{k:Nat}(hk:k<aA l)(h:q (t.nth l k)=aE)(hu:aY (λj=>q (t.nth l j)=aK) k):(k:Int)=fI q l:=by
 have e:l.findIdx? q=aD k:=by rw[List.findIdx?_eq_some_iff_getElem];refine⟨hk,by rw[<-t.nth_eq l hk];exact h,λj hj=> ?_⟩;have:=hu j hj;dsimp only at this;rw[t.nth_eq l aC]at this;rw[this];simp
 unfold fI;rw[e]
def vq{t:LT}{l:List t.ty}{q:t.ty->Bool}(hu:aY (λj=>q (t.nth l j)=aK) (aA l)): -1=fI q l:=by
 have e:l.findIdx? q=aM:=by rw[List.findIdx?_eq_none_iff];intro x hx;obtain⟨j,hj,rfl⟩:=jQ hx;have:=hu j hj;dsimp only at this;rwa[t.nth_eq l hj]at this
 unfold fI;rw[e]
def yC{α:Type}(q:α->Bool)(l:List α):decide (0<=fI q l)=l.any q:=by unfold fI;grind
def aHQ:Con:=con (ac (aL .V) (a1 (aF 197))) (λ(l,_)=>[aA l<=1000000]) (λ(l,_)=> .iqz (fI (λv=> !bF v 2000) l))
def aGj:aHQ.Okz 214:=bI UK (λ(l,_)=>[cnt 2 8 (aA l) (aY λj=>(!bF (aI7 l j) 2000)=aK)]
  ) λ(l,u) hp=>bD ((0=(0:Int)/\(0:Nat)<=(aA l)/\aY (λj=>(!bF (aI7 l j) 2000)=aK) 0)/\
 (∀x:Nat,aO (x:Int) λA=>aO (!bF (aI7 l x) 2000) λB=>x<=(aA l)/\aY (λj=>(!bF (aI7 l j) 2000)=aK) x->qiq (A<aA l) (ix A (aA l)/\qbq B (A=fI (λv=>(!bF v 2000)) l) (qnr A x (x+1<=(aA l)/\aY (λj=>(!bF (aI7 l j) 2000)=aK) (x+1)/\(aA l)-(x+1)<aA l-x))) (-1=fI (λv=>(!bF v 2000)) l))) (by
  change (aA l)<=1000000 at hp
  with_reducible ((repeat' first|apply cJ|intro);all_goals repeat cases‹_/\_›)
  all_goals first|rfl|exact s8 (t:= .V) aC aJ aJ|(obtain rfl:_=aA l:=w7 aJ aC;exact vq (t:= .V) aJ)|grind)
def UD:=UK.adk aGj
def aHZ:Con:=con (ac (aL .V) (a1 (aF 197))) (λ(l,_)=>[aA l<=1000000]) (λ(l,_)=> .bool (l.any λv=> !bF v 2000)
 )
def aGt:aHZ.Okz 196:=bI UD ae λ(l,u) hp=>bD (aA l<=1000000/\decide (0<=fI (λv=>(!bF v 2000)) l)=jT l (λv=>(!bF v 2000))) (by change (aA l)<=1000000 at hp;exact⟨hp,yC _ _⟩)
def UL:=UD.adk aGt
def aIs:Con:=con (a1 (aL .V)) (λl=>[aA l<=1000000]) (λl=> .bool (near l)
 )
def aGV:aIs.Okz 150:=bI UL ae λl hp=>bD (aA l<=1000000/\(!jT l (λv=>(!bF v 2000)))=near l) (by change (aA l)<=1000000 at hp;refine⟨hp,?_⟩;unfold near;grind)
def Uq:=UL.adk aGV
def tP(r:aU)(i:Nat):Prop:=¬turn (prv r i) (aI7 r i) (nxt r i)=0
def iY(r:aU)(i k:Nat):Bool:=(decide (¬(k:Int)=i+1)&&(decide (¬(i:Int)=0)||decide (¬(k:Int)=aA r-1)))&&decide (¬cX (bh r i) (bh r k)=0)
def up2{p:Nat->Nat->Prop}{i k n:Nat}(h:∀j,i<j->j<k->p i j)(hk:¬(k:Int)<n):∀j,i<j->j<n->p i j:=λj h1 h2=>h j h1 aC
def GA(r:aU):dC r=aE↔3<=(aA r)/\(aA r)<=40/\near r=aE/\0<area r/\(∀i,i<aA r->tP r i)/\(∀i k,i<k->k<aA r->iY r i k=aK):=by unfold dC tP iY;simp only[cD,decide_eq_true_eq,cC,cP,jd,bne_iff_ne,beq_iff_eq,Bool.and_eq_false_imp,decide_eq_false_iff_not,ne_eq,and_assoc,V3];grind
def c83:Con:=con (a1 (aL .V)) (λr=>[aA r<=1000]) (λr=> .bool (dC r))
def k83:c83.Okz 82:=bI Uq (λr=>[jP 4 [3<=aA r,aA r<=40,near r=aE,0<area r],cnt 5 29 (aA r) (aY (tP r)),lp 12 47 (aA r) (λi=>[aY (λi=>∀k,i<k->k<aA r->iY r i k=aK) i]) [] ae ae λi=>[(15,.mk Nat (λF _=>nA F 8) [] (λk=>[i<k,k<=aA r,∀j,i<j->j<k->iY r i j=aK]) (λk=>[(8,.iqz (k:Int))]) ae (λk=>aA r-k) λk=>[jb 18 82 (iY r i k)])]]
  ) λr hp=>bD (aO (aW r) λD=>aO (aA r:Int) λI=>(qiq (I<3) (aK=dC r) (qiq (40<I) (aK=dC r) (aA r<=1000000/\qbq (!near r) (aK=dC r) (near r=aE/\(aA r)<=100000/\qiq (area r<=0) (aK=dC r) ((3:Nat)<=(aA r)/\(aA r)<=40/\near r=aE/\0<area r)))))/\
 (∀y:Unit,(3:Nat)<=(aA r)/\(aA r)<=40/\near r=aE/\0<area r->(0=(0:Int)/\(0:Nat)<=(aA r)/\aY (tP r) 0)/\
  (∀x:Nat,aO (x:Int) λA=>aO (prv r x) λE=>aO (aI7 r x) λF=>aO (nxt r x) λG=>x<=(aA r)/\aY (tP r) x->qiq (A<aA r) (ix A (aA r)/\x<(aA r)/\(aA r)<=1000000/\x<(aA r)/\(aA r)<=1000000/\bd 1000000000 E/\bd 1000000000 F/\bd 1000000000 G/\qiq (turn E F G=0) (aK=dC r) (qnr A x (x+1<=(aA r)/\aY (tP r) (x+1)/\(aA r)-(x+1)<aA r-x))) (aA r<=1000/\(0=(0:Int)/\(0:Nat)<=(aA r)/\aY (λi=>∀k:Nat,i<k->k<aA r->iY r i k=aK) 0)/\
    (∀x_1:Nat,aO (x_1:Int) λB=>aO (x_1+1:Nat) λH=>x_1<=(aA r)/\aY (λi=>∀k:Nat,i<k->k<aA r->iY r i k=aK) x_1->qiq (B<aA r) (aX (B+1)/\(B+1=(H:Int)/\x_1<x_1+1/\x_1+1<=(aA r)/\(∀j:Nat,x_1<j->j<x_1+1->iY r x_1 j=aK))/\
      (∀x_2:Nat,aO (x_2:Int) λC=>x_1<x_2/\x_2<=(aA r)/\(∀j:Nat,x_1<j->j<x_2->iY r x_1 j=aK)->qiq (C<aA r) ((aX (B+1)/\qiq (¬C=x_1+1) (qiq (¬B=0) (ix B (aA D)/\x_1<(aA D)/\ix C (aA D)/\x_2<(aA D)/\decide (¬cX (az D x_1) (az D x_2)=0)=iY r x_1 x_2) (aX (I-1)/\qiq (¬C=aA r-1) (ix B (aA D)/\x_1<(aA D)/\ix C (aA D)/\x_2<(aA D)/\decide (¬cX (az D x_1) (az D x_2)=0)=iY r x_1 x_2) (aK=iY r x_1 x_2))) (aK=iY r x_1 x_2))/\
        (∀y_1:Unit,qbq (iY r x_1 x_2) (aK=dC r) (qnr C x_2 (x_1<x_2+1/\x_2+1<=(aA r)/\(∀j:Nat,x_1<j->j<x_2+1->iY r x_1 j=aK)/\(aA r)-(x_2+1)<aA r-x_2)))) (aX (B+1)/\B+1=(H:Int)/\x_1+1<=(aA r)/\aY (λi=>∀k:Nat,i<k->k<aA r->iY r i k=aK) (x_1+1)/\(aA r)-(x_1+1)<aA r-x_1))) (aE=dC r)))))) (by
  change (aA r)<=1000 at hp;have iff:=GA r;have hf:(dC r=aE->False)->aK=dC r:=λh=>aH;have el:3<=aA r->aA (aW r)=aA r:=λh=>zO r aC;have en:near r=aE->∀i,i<aA r->bd 1000000000 (aI7 r i):=λh i hi=>o4 h hi;have ep:3<=aA r->∀i,i<aA r->az (aW r) i=bh r i:=λh i hi=>zZ aC hi;have hE:3<=aA r->aA r<=40->near r=aE->0<area r->∀x y:Nat,¬(x:Int)<aA r->¬(y:Int)<aA r->aY (tP r) x->aY (λi=>∀k:Nat,i<k->k<aA r->iY r i k=aK) y->aE=dC r:=λh1 h2 h3 h4 x y hx hy h5 h6=>
   (iff.2 ⟨h1,h2,h3,h4,λi hi=>h5 i aC,λi k hi hk=>h6 i aC k hi hk⟩).symm
  have b0:∀x y:Nat,¬(¬(y:Int)=x+1)->aK=iY r x y:=λx y h=>by unfold iY;grind
  have b1:∀x y:Nat,¬(¬(x:Int)=0)->¬(¬(y:Int)=aA r-1)->aK=iY r x y:=λx y h1 h2=>by unfold iY;grind
  have b2:∀x y:Nat,3<=aA r->¬(y:Int)=x+1->¬(x:Int)=0->(x:Int)<aA r->(y:Int)<aA r->decide (¬cX (az (aW r) x) (az (aW r) y)=0)=iY r x y:=λx y h0 h1 h2 h3 h4=>by unfold iY;grind
  have b3:∀x y:Nat,3<=aA r->¬(y:Int)=x+1->¬(y:Int)=aA r-1->(x:Int)<aA r->(y:Int)<aA r->decide (¬cX (az (aW r) x) (az (aW r) y)=0)=iY r x y:=λx y h0 h1 h2 h3 h4=>by unfold iY;grind
  with_reducible ((repeat' first|apply cJ|intro);all_goals repeat cases‹_/\_›)
  all_goals first|assumption|rfl|exact trivial|exact nb aJ|exact nb' aJ|omega|exact iX aC|(unfold ix;omega)|(unfold aX;omega)|exact iJ _|exact cO aJ aJ|(refine cO aJ ?_;simp_all;done)|exact en aJ _ aC|exact en aJ _ (cG _ aC)|(rw[el aJ];exact fS aC)|(rw[el aJ];omega)|exact b0 _ _ aJ|exact b1 _ _ aJ aJ|exact b2 _ _ aJ aJ aJ aJ aJ|exact b3 _ _ aJ aJ aJ aJ aJ|exact hE aJ aJ aJ aJ _ _ aJ aJ aJ aJ|(refine hf λh=> ?_;have h:=iff.1 h;first|omega|(have h4:=‹(!near r)=aE›;rw[h.2.2.1]at h4;cases h4)|(exact absurd ‹turn _ _ _=0› (h.2.2.2.2.1 _ aC))|grind)|exact cO aJ (show tP r _ from‹¬turn _ _ _=0›)|(intro j h1 h2;omega)|exact cO aJ (up2 (p:=λi k=>iY r i k=aK) aJ aJ)|grind)
def t83:=Uq.adk k83
def aCn(n:Nat)(w:World)(h0:0<n)(hn:n<=100000):
  Calls bi 206 #[.slice aM 0 0,.int .i64 n] w λe w'=>∃v,e= .returned v/\w'.ownsRow w.heap.size 44 2 v 0 []/\Below w.heap.size w w':=by
 have hinf:(bi.info? 44).map (λi=>(i.zero,i.size,i.bytes))=aD (aD (.agg #[.int .i64 0,.int .i64 0]),2,16):=br;obtain⟨i,hi1,hi2⟩:=oW.1 hinf;simp only[Prod.mk.injEq]at hi2;obtain⟨i1,i2,i3⟩:=hi2;have hold:(Builtin.firstCells i.size 0 (.slice aM 0 0)).run bi w.drew= .ok ([] :List Value).toArray w.drew:=run_firstCells_none w.drew i.size 0 0 0;have hrz:∀ty,(Builtin.append_ #[23,3] ty #[.slice aM 0 0,.int .i64 n]).run bi w= .ok (.slice (aD ⟨w.heap.size,0,aM⟩) n (grownCap w n 0 44))
   (w.drew.alloc (.cells (#[] ++Builtin.zeroCells #[.int .i64 0,.int .i64 0] n++Builtin.zeroCells #[.int .i64 0,.int .i64 0] (grownCap w n 0 44-n)) 44)):=λty=>by
  have h:=Lib.run_append_grow_zeros w 23 3 ty 44 i (.agg #[.int .i64 0,.int .i64 0]) .i64 .i64 Tryz.underlying23 zA hi1 i1 aM 0 0 [] hold n h0 aC aC aC aH
   (by unfold Builtin.nextslicecap;grind)
  rw[ku]at h;exact h
 have hGn:n<=grownCap w n 0 44:=grownCap_ge w _ _ _;have hGm:=grownCap_le_maxLen w n 0 44 (by unfold maxLen;omega);obtain⟨G,hG⟩:∃G,G=grownCap w n 0 44:=⟨_,rfl⟩;rw[<-hG]at hrz hGn hGm;have hG63:G<=9223372036854775807:=by unfold maxLen at hGm;omega
 have hzc:∀m,(Builtin.zeroCells #[.int .i64 0,.int .i64 0] m).size=m*2:=by intro m;unfold Builtin.zeroCells;simp
 obtain⟨cur,hcur⟩:∃cur,cur=(#[] ++Builtin.zeroCells #[.int .i64 0,.int .i64 0] n++Builtin.zeroCells #[.int .i64 0,.int .i64 0] (G-n):Array Value):=⟨_,rfl⟩;have hcs:cur.size=G*2:=by rw[hcur];simp[hzc];omega
 rw[<-hcur]at hrz;have hrow:(w.drew.alloc (.cells cur 44)).ownsRow w.heap.size 44 2 (.slice (aD ⟨w.heap.size,0,aM⟩) 0 G) 0 [] :=
  ⟨af,.inr ⟨w.heap.size,G,cur,rfl,bR _,Blk.new w.drew 44 cur,aC,hGm,hcs,af⟩⟩
 have hbl:Below w.heap.size w (w.drew.alloc (.cells cur 44)):=((Below.refl _ _).drew).alloc (bR _) _;clear hold hinf hi1 i1 i2 i3 hcur hcs hzc hG hGm
 go_enter Tryz.func206,Tryz.ntmps206
 go_wp2_with (at_builtin;refine Lib.wpList_append_run _ rfl _ _ _ _ rfl _ _ rfl rfl _ _ (hrz _) ?_)
 all_goals
  go_ret
  exact⟨_,rfl,hrow,hbl⟩
def Zg{n:Nat}(h0:0<n)(hn:n<=100000):LF bi 206 [.int .i64 n] 44 2 [] 0 [] :=by
 refine⟨br,bg,λC w vs hC h=> ?_⟩;unfold bk at h;obtain⟨v,r,rfl,h1,h2⟩:=h;unfold bE at h1;unfold bk at h2;subst h1 h2;refine(aCn n w h0 hn).mono ?_;rintro e w' ⟨v,rfl,⟨_,h3⟩,hb⟩;rcases h3 with⟨rfl,_⟩|⟨g,cap,cur,rfl,h4,h5,_,h6,h7,_⟩
 .exact⟨_,[],aM,0,rfl,hb,by unfold bk;rfl,.inl ⟨rfl,rfl,rfl,rfl,rfl⟩⟩
 .exact⟨_,[],aD g,cap,rfl,hb,by unfold bk;rfl,.inr ⟨g,cur,rfl,rfl,lh _,h4,h5,h7,lh _,h6,λi x hi=>by simp at hi⟩⟩
def K9:List SV->Option Nat
 |[.nil,.int .i64 (.ofNat n)] =>aD n
 |_=>aM
def aAD{s:List SV}{n:Nat}(h:K9 s=aD n):s=[.nil,.int .i64 (n:Int)] :=by
 unfold K9 at h;split at h
 .cases h;rfl
 .cases h
def aHT:Con:=⟨Nat,K9,λn=>[0<n,n<=100000],.ownN 44 .V (λ_=>[])⟩
def aGm:aHT.Okz 206:=by intro s n hd hp;rw[aAD hd];exact⟨[.int .i64 ((show Nat from n:Nat):Int)],rfl,Zg (hp _ cR) (hp _ (cM _ cR))⟩
def aPt:Ar Pt where
 enc p:= .pro [.int .i64 p.x,.int .i64 p.y,.int .i64 p.den] 0
 dec s:=match s with
  | .pro [.int .i64 x,.int .i64 y,.int .i64 z] 0=>aD ⟨x,y,z⟩
  |_=>aM
 ok s a h:=aH
 pl _:=⟨_,rfl⟩
def jPU(key:Nat)(I:List Prop)(u:Frm):Nat×Ann:=(key+10000,.mk Unit (λ_ _=>aD ()) [] (λ_=>I) (λ_=>u) ae (λ_=>0) ae)
def BR(p:Pt)(l:List S):Bool:=l.foldl (λb s=>b !=fN s p) aK
def Z1{p:Pt}{l:List S}{k:Nat}(h:k<aA l):BR p (l.take (k+1))=(BR p (l.take k) !=fN (az l k) p):=by unfold BR;rw[nO,fQ h,List.foldl_append,iV h];rfl
def PY{p:Pt}:∀{l:List S} {k:Nat} (ins:Bool),k<aA l->(∀j,j<k->onP (az l j) p=aK)->onP (az l k) p=aE->fV p l ins=1
 |[],k,ins,h,_,_=>by simp at h
 |s::l,0,ins,h,_,h2=>by
  unfold fV;rw[show onP s p=aE from h2];rfl
 |s::l,k+1,ins,h,h1,h2=>by
  unfold fV;rw[show onP s p=aK from h1 0 (by omega)];exact PY (l:=l) (k:=k) _ (by simpa using h) (λj hj=>h1 (j+1) aC) h2
def N9{p:Pt}:∀{l:List S} (ins:Bool),(∀j,j<aA l->onP (az l j) p=aK)->fV p l ins=if l.foldl (λb s=>b !=fN s p) ins=aE then 2 else 0
 |[],ins,_=>rfl
 |s::l,ins,h1=>by
  unfold fV;rw[show onP s p=aK from h1 0 (by simp)];exact N9 (l:=l) _ (λj hj=>h1 (j+1) aH)
def pb(r:aU)(p:Pt)(k:Nat):Bool:=BR p ((aW r).take k)
def aCz{r:aU}(h:dC r=aE){j:Nat}(hj:j<aA (aW r)):bd 2000 (az (aW r) j).a/\bd 2000 (az (aW r) j).b:=SD (by rw[<-tw];exact h) hj
def cOK(a b:V):Prop:=(-4000000000000000000<=a.x*b.y/\a.x*b.y<=4000000000000000000)/\(-4000000000000000000<=a.y*b.x/\a.y*b.x<=4000000000000000000)
def aFS:Con:=con (ac aV (a1 aV)) (λ(a,b)=>[cOK a b]) (λ(a,b)=> .iqz (cross a b)
 )
def aFG:aFS.Okz 120:=bI t83 ae λ(a,b) hp=>bD (aX (a.x*b.y)/\aX (a.y*b.x)/\aX (a.x*b.y-a.y*b.x)/\a.x*b.y-a.y*b.x=cross a b) (by change cOK a b at hp;unfold cOK at hp;exact⟨bP aC,bP aC,bP aC,rfl⟩)
def TT:=t83.adk aFG
def aH0:Con:=con (ac aV (a1 aPt)) (λ(v,p)=>[PtB p,bd 10000 v]) (λ(v,p)=>aV.enc (toV p v)
 )
def aGu:aH0.Okz 185:=bI TT ae λ(v,p) hp=>bD (aX (v.x*p.den)/\aX (p.x-v.x*p.den)/\aX (v.y*p.den)/\aX (p.y-v.y*p.den)/\p.x-v.x*p.den=(toV p v).x/\p.y-v.y*p.den=(toV p v).y) (by change PtB p/\bd 10000 v at hp;have h:=hp.1.off hp.2;have h2:(-600000000000<=p.x/\p.x<=600000000000)/\(-600000000000<=p.y/\p.y<=600000000000):=hp.1.2;exact⟨bP aC,bP aC,bP aC,bP aC,rfl,rfl⟩)
def UM:=TT.adk aGu
def aIB:Con:=con (ac (aL .V) (a1 aT)) (λ(r,_)=>[aA r<=1000]) (λ(r,p)=> .iqz (cE r p))
def aG4:aIB.Okz 140:=bI UM (λ(r,p)=>[jP 3 [dC r=aE,dP p=aE],lp 6 25 (aA (aW r)) (λk=>[aY (λj=>onP (nE r j) p=aK) k]) [] (λk=>[(6,.bool (pb r p k))]) ae λk=>[jb 11 77 (onP (nE r k) p),jb 14 91 (fN (nE r k) p),jPU 15 [onP (nE r k) p=aK] [(6,.bool (pb r p (k+1)))]]]
  ) λ(r,p) hp=>bD (aO (aW r) λD=>aO (!dC r) λG=>aO (!dP p) λH=>(aA r<=1000/\qbq G (0=cE r p) (qbq H (0=cE r p) (dC r=aE/\dP p=aE)))/\
 (∀y:Unit,dC r=aE/\dP p=aE->aA r<=1000/\(0=(0:Int)/\aK=pb r p 0/\(0:Nat)<=(aA D)/\aY (λj=>onP (nE r j) p=aK) 0)/\
  (∀x:Nat,aO (x+1) λA=>aO (nE r x) λB=>aO (x:Int) λC=>aO (toV p B.a) λE=>aO (toV p B.b) λF=>aO (aJa B.b B.a) λI=>aO (decide (0<=E.y) !=decide (0<=F.y)) λJ=>x<=(aA D)/\aY (λj=>onP (nE r j) p=aK) x->qiq (C<aA D) ((ix C (aA D)/\x<(aA D)/\PtB p/\bd 10000 B.a/\PtB p/\bd 10000 B.b/\bd 1000000000 B.b/\bd 1000000000 B.a/\cOK I E/\(qiq (cross I E=0) (qiq (Min.min E.x F.x<=0) (qiq (0<=Max.max E.x F.x) (qiq (Min.min E.y F.y<=0) (decide (0<=Max.max E.y F.y)=onP B p) (aK=onP B p)) (aK=onP B p)) (aK=onP B p)) (aK=onP B p))/\
     (∀y_1:Unit,qbq (onP B p) (1=cE r p) ((qbq J ((decide (0<=E.y)==decide (0<cross I E))=fN B p) (aK=fN B p))/\
       (∀y_2:Unit,qbq (fN B p) ((!pb r p x)=pb r p A/\onP B p=aK) (pb r p x=pb r p A/\onP B p=aK)))))/\
    (∀y_1:Unit,onP B p=aK->qnr C x (pb r p A=pb r p A/\x+1<=(aA D)/\aY (λj=>onP (nE r j) p=aK) A/\(aA D)-A<aA D-x))) (qbq (pb r p x) (2=cE r p) (0=cE r p))))) (by
  change (aA r)<=1000 at hp;have e0:pb r p 0=aK:=rfl;have es:∀k:Nat,(k:Int)<aA (aW r)->pb r p (k+1)=(pb r p k !=fN (nE r k) p):=λk h=>Z1 aC;have hw0:dC r=aK\/dP p=aK->0=cE r p:=λh=>by unfold cE;grind
  have hw:dC r=aE->dP p=aE->cE r p=fV p (aW r) aK:=λh1 h2=>by unfold cE;simp[h1,h2]
  have eb:dC r=aE->∀j:Nat,(j:Int)<aA (aW r)->bd 2000 (az (aW r) j).a/\bd 2000 (az (aW r) j).b:=λh j hj=>aCz h aC;have el:aA (aW r)<=1000:=by unfold aW;split<;>simp<;>omega
  have s1:∀j:Nat,(j:Int)<aA (aW r)->aY (λj=>onP (nE r j) p=aK) j->onP (nE r j) p=aE->fV p (aW r) aK=1:=λj h1 h2 h3=>PY aK aC h2 h3;have s2:∀k:Nat,¬(k:Int)<aA (aW r)->k<=aA (aW r)->aY (λj=>onP (nE r j) p=aK) k->fV p (aW r) aK=if pb r p k=aE then 2 else 0:=λk h1 h2 h=>by obtain rfl:k=aA (aW r):=aC;rw[N9 aK h];unfold pb BR;grind
  have gV:dC r=aE->dP p=aE->∀j:Nat,(j:Int)<aA (aW r)->cOK (aJa (az (aW r) j).b (az (aW r) j).a) (toV p (az (aW r) j).a):=λh1 h2 j hj=>by
   have b1:=j0 (eb h1 j hj).2 (eb h1 j hj).1;have hB:=PtB.of h2;have b2:=hB.off (eb h1 j hj).1.mono;have h2:(-600000000000<=p.x/\p.x<=600000000000)/\(-600000000000<=p.y/\p.y<=600000000000):=hB.2;have b3:bd 2000000000000 (toV p (az (aW r) j).a):=by unfold bd toV;dsimp only;omega
   exact⟨by have:=jE b1.1 b3.2;omega,by have:=jE b1.2 b3.1;omega⟩
  have oN:∀j:Nat,(¬gi (nE r j) p=0\/¬Min.min (toV p (nE r j).a).x (toV p (nE r j).b).x<=0\/¬0<=Max.max (toV p (nE r j).a).x (toV p (nE r j).b).x\/¬Min.min (toV p (nE r j).a).y (toV p (nE r j).b).y<=0)->aK=onP (nE r j) p:=λj h=>by symm;unfold onP;grind
  have oY:∀j:Nat,gi (nE r j) p=0->Min.min (toV p (nE r j).a).x (toV p (nE r j).b).x<=0->0<=Max.max (toV p (nE r j).a).x (toV p (nE r j).b).x->Min.min (toV p (nE r j).a).y (toV p (nE r j).b).y<=0->decide (0<=Max.max (toV p (nE r j).a).y (toV p (nE r j).b).y)=onP (nE r j) p:=λj h1 h2 h3 h4=>by unfold onP;grind
  have hN:∀j:Nat,(decide (0<=(toV p (nE r j).a).y) !=decide (0<=(toV p (nE r j).b).y))=aK->aK=fN (nE r j) p:=λj h=>by unfold fN;rw[h];rfl
  have hY:∀j:Nat,(decide (0<=(toV p (nE r j).a).y) !=decide (0<=(toV p (nE r j).b).y))=aE->(decide (0<=(toV p (nE r j).a).y)==decide (0<gi (nE r j) p))=fN (nE r j) p:=λj h=>by unfold fN;rw[h];rfl
  with_reducible ((repeat' first|apply cJ|intro);all_goals repeat cases‹_/\_›)
  all_goals first|rfl|with_reducible solve_by_elim|exact PtB.of aJ|exact(eb aJ _ aJ).1.mono|exact(eb aJ _ aJ).2.mono|exact gV aJ aJ _ aJ|exact oN _ (.inl aJ)|exact oN _ (.inr (.inl aJ))|exact oN _ (.inr (.inr (.inl aJ)))|exact oN _ (.inr (.inr (.inr aJ)))|exact hw0 (.inl (nb' aJ))|exact hw0 (.inr (nb' aJ))|(rw[hw aJ aJ,s1 _ aJ aJ aJ];done)|(rw[hw aJ aJ,s2 _ aJ aJ aJ,‹pb _ _ _=_›];rfl)|(rw[es _ aJ,‹fN _ _=_›];simp;done)|grind)
def U0:=UM.adk aG4
def c65:Con:=con (ac (aL .V) (a1 aV)) (λ(r,_)=>[aA r<=1000]) (λ(r,v)=> .iqz (dB r v)
 )
def k65:c65.Okz 66:=bI U0 ae λ(r,v) hp=>bD (aO (!bF v 4000) λA=>(0:Int)<=4000/\(4000:Int)<=9000000000000000000/\qbq A (0=dB r v) (aA r<=1000/\cE r (fL v)=dB r v)) (by change (aA r)<=1000 at hp;have e:dB r v=if(!bF v 4000)=aE then 0 else cE r (fL v):=rfl;grind)
def t65:=U0.adk k65
def c89:Con:=con (a1 (aL .V)) (λr=>[aA r<=1000]) (λr=> .iqz (if dC r=aE then area r else 0)
 )
def k89:c89.Okz 88:=bI t65 ae λr hp=>bD (aO (!dC r) λA=>aA r<=1000/\qbq A (0=(if dC r=aE then area r else 0)) (near r=aE/\(aA r)<=100000/\area r=(if dC r=aE then area r else 0))) (by change (aA r)<=1000 at hp;refine⟨hp,λh=>aH,λh=>⟨?_,aC,aH⟩⟩;exact((GA r).1 (nb h)).2.2.1)
def t89:=t65.adk k89
def UG:=t89.adk aGm
def aH5:Con:=con (a1 (aL .R)) (λl=>[aA l<=1000,0<aA l.flatten,aA l.flatten<=1000]) (λl=> .lst .V l.flatten)
def aGz:aH5.Okz 180:=yF (qO UG.o) (raw:=λr i=>bZ r 1&&bZ i 0) (λl=>[lp 3 11 (aA l) ae [] (λk=>[(3,.int .i64 ((aA (l.take k).flatten:Nat):Int))]) ae,lp 11 27 (aA l) ae [7] (λk=>[(6,.own 7 .V (aA (l.take k).flatten))]) (λk=>[(7,.row 44 .V ((l.take k).flatten))])]
  ) (λ_=>⟨_,rfl⟩) λl hp=>bD (aO (0:Nat) λB=>aO (ak 0 l) λG=>aO (iH G) λK=>aO ([] :List V) λN=>(0=(0:Int)/\0=(aA K:Int)/\B<=aA l)/\
 (∀x:Nat,aO (x:Int) λA=>aO (aP l x) λE=>aO (iH (ak x l)) λI=>aO (aA I:Int) λJ=>x<=aA l->qiq (A<aA l) (ix A (aA l)/\aX (J+aA E)/\qiq (J+aA E<0) False (qnr A x (J+aA E=(aA (iH (ak (x+1) l)))/\x+1<=(aA l)/\(aA l)-(x+1)<aA l-x))) (B<(aA I)/\(aA I)<=100000/\(0=(0:Int)/\(aA N)=(aA K)/\N=iH G/\B<=aA l)/\
   (∀x_1:Nat,aO (x_1:Int) λD=>aO (ak (x_1+1) l) λH=>aO (ak x_1 l) λL=>aO (iH L) λM=>x_1<=aA l->qiq (D<aA l) (ix D (aA l)/\(aA M)=(aA M)/\(aA M)+aA (aP l x_1)<=1000000/\qnr D x_1 (aA (iH L++aP l x_1)=(aA (iH H))/\iH L++aP l x_1=iH H/\x_1+1<=(aA l)/\(aA l)-(x_1+1)<aA l-x_1)) (aA M=(aA M)/\iH L=iH l))))) (by
  change (aA l)<=1000/\0<(aA l.flatten)/\(aA l.flatten)<=1000 at hp;have e1:∀x:Nat,(x:Int)<aA l->(l.take (x+1)).flatten=(l.take x).flatten++aP l x:=λx h=>by rw[lC aC,ww,WL,jz aC]
  have e2:∀x:Nat,aA (l.take x).flatten<=aA l.flatten:=λx=>by
   conv=>rhs;rw[<-vD x l,ww,eR]
   omega
  have e3:∀x:Nat,¬(x:Int)<aA l->ak x l=l:=λx h=>jB aC;have e4:∀x:Nat,(x:Int)<aA l->aA (l.take x).flatten+aA (aP l x)<=aA l.flatten:=λx h=>aH;have e5:∀x:Nat,(x:Int)<aA l->(aA (iH (ak x l)):Int)+aA (aP l x)=aA (iH (ak (x+1) l)):=λx h=>aH;have e6:∀x:Nat,(x:Int)<aA l->aX ((aA (iH (ak x l)):Int)+aA (aP l x)):=λx h=>bP aH
  repeat' first|with_reducible apply cJ|with_reducible intro
  all_goals repeat with_reducible cases‹_/\_›
  all_goals grind)
def UR:=UG.adk aGz
def Ag(a b:V):cQ a b<0↔cB a b=aE:=by unfold cQ cB aJb;grind
def G9(a:V):cB a a=aK:=by unfold cB;grind
def aH8:Con:=con (ac (aL .V) (a1 (aF 77))) (λ(r,_)=>[0<aA r,aA r<=1000]) (λ(r,_)=>aV.enc (aI7 r (dt r)))
def aGC:aH8.Okz 170:=bI UR (λ(r,_)=>[(5,.mk Nat (λF _=>nA F 6) [] (λk=>[0<k,k<=aA r]) (λk=>[(6,.iqz (k:Int))]) (λk=>[(7,.box 44 [.iqz (aI7 r (dw r k)).x,.iqz (aI7 r (dw r k)).y])]) (λk=>aA r-k) ae)]
 ) λ(r,u) hp=>bD (aO (0:Nat) λC=>aO (dt r) λE=>aO (aA r:Int) λF=>aO (dw r 1) λK=>qiq (F<1) False (ix 0 (aA r)/\(1=(1:Int)/\(aI7 r 0).x=(aI7 r K).x/\(aI7 r 0).y=(aI7 r K).y/\C<1/\(1:Nat)<=aA r)/\
 (∀x:Nat,aO (x+1) λA=>aO (x:Int) λB=>aO (aI7 r x) λD=>aO (aI7 r (dw r x)) λH=>aO (aI7 r (dw r A)) λJ=>aO ((x+1:Nat):Int) λL=>C<x/\x<=aA r->qiq (B<aA r) (ix B (aA r)/\qiq (cQ D H<0) (ix B (aA r)/\aX (B+1)/\B+1=L/\D.x=J.x/\D.y=J.y/\C<x+1/\x+1<=(aA r)/\(aA r)-A<aA r-x) (aX (B+1)/\B+1=L/\H.x=J.x/\H.y=J.y/\C<x+1/\x+1<=(aA r)/\(aA r)-A<aA r-x)) (H.x=(aI7 r E).x/\H.y=(aI7 r E).y)))) (by
 change 0<(aA r)/\(aA r)<=1000 at hp;have e0:dw r 1=0:=by unfold dw dw;split<;>rfl
 have e1:∀x:Nat,cQ (aI7 r x) (aI7 r (dw r x))<0->dw r (x+1)=x:=λx h=>if_pos ((Ag _ _).1 h);have e2:∀x:Nat,¬cQ (aI7 r x) (aI7 r (dw r x))<0->dw r (x+1)=dw r x:=λx h=>if_neg λh2=>h ((Ag _ _).2 h2);have e3:∀x:Nat,¬(x:Int)<aA r->x<=aA r->dw r x=dt r:=λx h1 h2=>by rw[(aC:x=aA r)];rfl
 with_reducible ((repeat' first|apply cJ|intro);all_goals repeat cases‹_/\_›)
 all_goals grind)
def UU:=UR.adk aGC
def aH9:Con:=con (ac (aL .V) (a1 aV)) (λ(r,_)=>[aA r<=1000]) (λ(r,v)=> .iqz (fI (λx=>decide (v=x)) r))
def aGD:aH9.Okz 169:=bI UU (λ(r,v)=>[cnt 2 8 (aA r) (aY λj=>decide (v=aI7 r j)=aK)]
  ) λ(r,v) hp=>bD ((0=(0:Int)/\(0:Nat)<=(aA r)/\aY (λj=>decide (v=aI7 r j)=aK) 0)/\
 (∀x:Nat,aO (x:Int) λA=>x<=(aA r)/\aY (λj=>decide (v=aI7 r j)=aK) x->qiq (A<aA r) (ix A (aA r)/\qiq (v=(aI7 r x)) (A=fI (λx=>decide (v=x)) r) (qnr A x (x+1<=(aA r)/\aY (λj=>decide (v=aI7 r j)=aK) (x+1)/\(aA r)-(x+1)<aA r-x))) (-1=fI (λx=>decide (v=x)) r))) (by
  change (aA r)<=1000 at hp
  with_reducible ((repeat' first|apply cJ|intro);all_goals repeat cases‹_/\_›)
  all_goals first|rfl|exact s8 (t:= .V) aC (decide_eq_true aJ) aJ|(obtain rfl:_=aA r:=w7 aJ aC;exact vq (t:= .V) aJ)|grind)
def UV:=UU.adk aGD
def aIN:Con:=con (a1 (aL .V)) (λr=>[aA r<=1000]) (λr=> .lst .V (dX r)
 )
def aHh:aIN.Okz 126:=bI UV ae λr hp=>bD (aO (aI7 r (dt r)) λB=>aO (!dC r) λC=>aA r<=1000/\qbq C (dX r=([] :List V)) ((0:Nat)<(aA r)/\(aA r)<=1000/\(aA r)<=1000/\(0<=fI (λx=>decide (B=x)) r/\fI (λx=>decide (B=x)) r<=aA r)/\(0<=fI (λx=>decide (B=x)) r/\fI (λx=>decide (B=x)) r<=aA r)/\[fE (fI (λx=>decide (B=x)) r).toNat r,ak (fI (λx=>decide (B=x)) r).toNat r].length<=1000/\(0:Nat)<(aA (iH [fE (fI (λx=>decide (B=x)) r).toNat r,ak (fI (λx=>decide (B=x)) r).toNat r]))/\(aA (iH [fE (fI (λx=>decide (B=x)) r).toNat r,ak (fI (λx=>decide (B=x)) r).toNat r]))<=1000/\iH [fE (fI (λx=>decide (B=x)) r).toNat r,ak (fI (λx=>decide (B=x)) r).toNat r] =dX r)) (by
 change (aA r)<=1000 at hp;have h0:(!dC r)=aK->0<aA r:=λh=>by have:=((GA r).1 (nb h)).1;omega
 have hf:0<aA r->fI (λx=>decide (aI7 r (dt r)=x)) r=(dt r:Int):=λh=>by
  have hl:=nR h;symm;exact s8 (t:= .V) hl (decide_eq_true rfl) λj hj=>decide_eq_false λe=>by have:=Fv r (aA r) j hj;rw[show dw r (aA r)=dt r from rfl,e]at this;exact absurd ((G9 (aI7 r j)).symm.trans this) bg
 refine⟨hp,λh=>by unfold dX;grind,λh=> ?_⟩;have h1:=h0 h;have hl:=nR h1;rw[hf h1];have hc:[fE ((dt r:Nat):Int).toNat r,ak ((dt r:Nat):Int).toNat r].flatten=dX r:=by unfold dX;rw[nb h];simp[bo]
 grind)
def VB:=UV.adk aHh
def aPR:Ar aU where
 enc r:= .pro [.lst .V r] 0
 dec s:=match s with
  | .pro [x] 0=>rI .V x
  |_=>aM
 ok s a h:=by
  split at h
  .have e:=uM h;show(match bm (avs [_])with|some q=>AV.p (.pro q 0)|none=> .any)=_;rw[avs,avs,e];rfl
  .cases h
 pl _:=⟨_,rfl⟩
def aPi:Ar Int where
 enc n:= .pro [.int .i64 n] 0
 dec s:=match s with
  | .pro [.int .i64 n] 0=>aD n
  |_=>aM
 ok s a h:=aH
 pl _:=⟨_,rfl⟩
def aCl(f:Nat){α:Type}(A:Arl α):Ar α where
 enc a:= .fnp f [] (A.enc a)
 dec s:=match s with
  | .fnp g [] b=>(match bZ g f with|true=>A.dec b|false=>aM)
  |_=>aM
 ok s a h:=by
  split at h
  .split at h
   .rename_i b e;have:=A.ok _ _ h;simp only[SV.av,this];simp_all
   .cases h
  .cases h
 pl a:=by obtain⟨q,h⟩:=A.pl a;exact⟨.fn (.func f) [] q,by simp only[SV.av,h,avs,eW];rfl⟩
def Tu:Ar (aU×Int×Unit):=aCl 179 (ac aPR (ac aPi a0))
def EL{t:LT}{l:List t.ty}{q:t.ty->Bool}{j:Nat}(hj:j<aA l)(h:q (t.nth l j)=aK):l.all q=aK:=
 vF.2 ⟨_,jr hj,by rw[<-t.nth_eq l hj,h];simp⟩
def Dw{t:LT}{l:List t.ty}{q:t.ty->Bool}(h:aY (λj=>q (t.nth l j)=aE) (aA l)):l.all q=aE:=
 cC.2 λx hx=>by obtain⟨j,hj,rfl⟩:=jQ hx;have:=h j hj;dsimp only at this;rwa[t.nth_eq l hj]at this
def aH6:Con:=con (ac aV (ac aPR (a1 aPi))) (λ(_,r,_)=>[aA r<=1000]) (λ(v,r,p)=> .bool (decide (¬dB r v=p))
 )
def aGA:aH6.Okz 179:=bI VB ae λ(v,r,p) hp=>bD (aA r<=1000/\decide (¬dB r v=p)=decide (¬dB r v=p)) (by change (aA r)<=1000 at hp;grind)
def US:=VB.adk aGA
def aIn:Con:=con (ac (aL .V) (a1 Tu)) (λ(l,c)=>[aA l<=1000000,aA c.1<=1000]) (λ(l,c)=> .iqz (fI (λv=>decide (¬dB c.1 v=c.2.1)) l))
def aGQ:aIn.Okz 156:=bI US (λ(l,c)=>[cnt 2 8 (aA l) (aY λj=>decide (¬dB c.1 (aI7 l j)=c.2.1)=aK)]
  ) λ(l,c) hp=>bD ((0=(0:Int)/\(0:Nat)<=(aA l)/\aY (λj=>decide (¬dB c.1 (aI7 l j)=c.2.1)=aK) 0)/\
 (∀x:Nat,aO (x:Int) λA=>x<=(aA l)/\aY (λj=>decide (¬dB c.1 (aI7 l j)=c.2.1)=aK) x->qiq (A<aA l) (ix A (aA l)/\(aA c.1)<=1000/\qbq (decide (¬dB c.1 (aI7 l x)=c.2.1)) (A=fI (λv=>decide (¬dB c.1 v=c.2.1)) l) (qnr A x (x+1<=(aA l)/\aY (λj=>decide (¬dB c.1 (aI7 l j)=c.2.1)=aK) (x+1)/\(aA l)-(x+1)<aA l-x))) (-1=fI (λv=>decide (¬dB c.1 v=c.2.1)) l))) (by
  change (aA l)<=1000000/\(aA c.1)<=1000 at hp
  with_reducible ((repeat' first|apply cJ|intro);all_goals repeat cases‹_/\_›)
  all_goals first|rfl|exact s8 (t:= .V) aC aJ aJ|(obtain rfl:_=aA l:=w7 aJ aC;exact vq (t:= .V) aJ)|grind)
def Uj:=US.adk aGQ
def c84:Con:=con (ac (aL .V) (a1 Tu)) (λ(l,c)=>[aA l<=1000000,aA c.1<=1000]) (λ(l,c)=> .bool (l.any λv=>decide (¬dB c.1 v=c.2.1))
 )
def k84:c84.Okz 83:=bI Uj ae λ(l,c) hp=>bD (aA l<=1000000/\(aA c.fst)<=1000/\decide (0<=fI (λv=>decide (¬dB c.fst v=c.2.1)) l)=jT l (λv=>decide (¬dB c.1 v=c.2.1))) (by change (aA l)<=1000000/\(aA c.1)<=1000 at hp;exact⟨hp.1,hp.2,yC _ _⟩)
def t84:=Uj.adk k84
def Vp:Con:=con (ac (aL .V) (ac (aL .V) (a1 aI))) (λ(r,q,_)=>[aA r<=1000,aA q<=1000]) (λ(r,q,p)=> .bool (aJe r q p)
 )
def Vh:Vp.Okz 123:=bI t84 ae λ(r,q,p) hp=>bD (aA r<=1000000/\(aA q)<=1000/\(!jT r (λv=>decide (¬dB q v=p)))=aJe r q p) (by change (aA r)<=1000/\(aA q)<=1000 at hp;refine⟨aC,hp.2,?_⟩;unfold aJe;grind)
def VD:=t84.adk Vh
def Vo:Con:=con (ac (aL .V) (a1 (aL .V))) (λ(a,b)=>[aA a<=1000,aA b<=1000]) (λ(a,b)=> .bool (gQ a b))
def Vg:Vo.Okz 124:=bI VD (λ(a,b)=>[cnt 2 12 (aA (aW a)) (aY λi=>((aW b).all λy=>cX (az (aW a) i) y==0)=aE) λi=>[cnt 5 19 (aA (aW b)) (aY λk=>(cX (az (aW a) i) (az (aW b) k)==0)=aE)]]
  ) λ(a,b) hp=>bD (aO (aW a) λC=>aO (aW b) λE=>aA a<=1000/\(0=(0:Int)/\(0:Nat)<=(aA C)/\aY (λi=>od E (λy=>cX (az C i) y==0)=aE) 0)/\
 (∀x:Nat,aO (x:Int) λA=>aO (az C x) λD=>x<=(aA C)/\aY (λi=>od E (λy=>cX (az C i) y==0)=aE) x->qiq (A<aA C) (ix A (aA C)/\x<(aA C)/\(aA b)<=1000/\(0=(0:Int)/\(0:Nat)<=(aA E)/\aY (λk=>(cX D (az E k)==0)=aE) 0)/\
   (∀x_1:Nat,aO (x_1:Int) λB=>x_1<=(aA E)/\aY (λk=>(cX D (az E k)==0)=aE) x_1->qiq (B<aA E) (ix B (aA E)/\x_1<(aA E)/\qiq (¬cX D (az E x_1)=0) (aK=gQ a b) (qnr B x_1 (x_1+1<=(aA E)/\aY (λk=>(cX D (az E k)==0)=aE) (x_1+1)/\(aA E)-(x_1+1)<aA E-x_1))) (qnr A x (x+1<=(aA C)/\aY (λi=>od E (λy=>cX (az C i) y==0)=aE) (x+1)/\(aA C)-(x+1)<aA C-x)))) (aE=gQ a b))) (by
  change (aA a)<=1000/\(aA b)<=1000 at hp;have el:∀r:aU,aA r<=1000->aA (aW r)<=1000:=λr h=>by unfold aW;grind
  have ea:=el a hp.1;have eb:=el b hp.2;have h1:∀x y:Nat,(x:Int)<aA (aW a)->(y:Int)<aA (aW b)->¬cX (az (aW a) x) (az (aW b) y)=0->aK=gQ a b:=λx y hx hy h=>
   (EL (t:= .S) (l:=aW a) (j:=x) aC (EL (t:= .S) (l:=aW b) (q:=λy=>cX (az (aW a) x) y==0) (j:=y) aC (beq_eq_false_iff_ne.2 h))).symm
  have h2:∀x:Nat,¬(x:Int)<aA (aW a)->x<=aA (aW a)->aY (λi=>((aW b).all λy=>cX (az (aW a) i) y==0)=aE) x->aE=gQ a b:=λx hx hx2 h=>by obtain rfl:x=aA (aW a):=aC;exact(Dw (t:= .S) h).symm
  have h3:∀x y:Nat,¬(y:Int)<aA (aW b)->y<=aA (aW b)->aY (λk=>(cX (az (aW a) x) (az (aW b) k)==0)=aE) y->((aW b).all λz=>cX (az (aW a) x) z==0)=aE:=λx y hy hy2 h=>by obtain rfl:y=aA (aW b):=aC;exact Dw (t:= .S) h
  with_reducible ((repeat' first|apply cJ|intro);all_goals repeat cases‹_/\_›)
  all_goals first|rfl|with_reducible solve_by_elim|exact cO aJ (h3 _ _ aJ aJ aJ)|exact cO aJ (beq_iff_eq.2 (vE ‹¬¬_›))|grind)
def Er:=VD.adk Vg
section
variable{P:Program}
def aDl{r n:Nat}{row:String}{args:Array Value}{w:World}{R:Value->World->Prop}(h:Rows P row args w R):RowsIn (Fence.wide.inRound r) n P row args w R:=
 λc cs _=>let⟨v,w',hr,s⟩:=h c cs;⟨v,w',hr,stepsIn_wide.2 s⟩
def tu{r n:Nat}{P:Program}{ops:Array Oper}{Q:Exit->Act->World->Prop}(hd:∀(i:Nat) (o:Oper),ops[i]? =aD o->∀c,o.op≠ .defer c)(hno:¬LetsOut Q):
  ∀(l:List Nat) (a:Act) (w:World),wpOps P ops Q l a w->wpOpsIn (Fence.wide.inRound r) n P ops Q l a w
 |[],_,_,h=>h
 |i::rest,a,w,h=>by
  unfold wpOps at h;unfold wpOpsIn;cases ho:ops[i]? with
  |none=>rw[ho]at h;exact tu hd hno rest a w h
  |some o=>
   rw[ho]at h;simp only[]at h|-;by_cases hw:kI o (yielded ops a.tmps)=aE
   .rw[if_pos hw]at h|-;rcases h with h|⟨_,h⟩
    .refine⟨λ_ _=>trivial,?_⟩;show o.uponIn _ n P a _ Q ((Oper.semAt (aD r) a.eval o).run P w);rw[B0 r a.eval o (hd i o ho)];unfold Oper.wp at h;generalize (execOp a.eval o).run P w=res at h|-;cases res with
     |ok x w'=>
      cases x with
      |value v=>exact tu hd hno rest _ _ h
      |skip=>exact tu hd hno rest _ _ h
      |defer d=>exact tu hd hno rest _ _ h
      |enter f args=>
       refine⟨λh=>by simp[Fence.wide]at h,CallsIn.inRound r (callsIn_wide.2 (Calls.mono h ?_))⟩;intro e w'' he;cases e with
       |returned v=>exact tu hd hno rest _ _ he
       |panicked c=>exact he
       |outgrown=>exact he
      |row row args=>
       refine⟨λh=>by simp[Fence.wide]at h,aDl (Rows.mono h ?_)⟩;intro v w'' he;exact tu hd hno rest _ _ he
      |_=>exact h.elim
     |halt x w'=>cases x<;>first|exact h|exact h.elim
    grind
   .rw[if_neg hw]at h|-;exact⟨λ_ _=>trivial,tu hd hno rest _ _ h⟩
def TY(Q:Exit->Act->World->Prop):Exit->Act->World->Prop:=λe a w=>e= .normal/\Q .normal a w
def aBR(Q:Exit->Act->World->Prop):¬LetsOut (TY Q):=λh=>by obtain⟨a,w,e,_⟩:=h;cases e
variable{Q:Exit->Act->World->Prop}
def aBQ{F:Fence}{n:Nat}{c:Code}{a:Act}{w:World}(h:c.wpIn F n P (TY Q) a w):c.wpIn F n P Q a w:=
 wpIn_mono h λe a w he=>by obtain⟨rfl,he⟩:=he;exact he
def Ww{l:List Oper}{a0:Act}{w0:World}
  (dsts:List Nat) (anc:List (List Nat)) (hok:okF l anc=aE) (hdst:((bT (aA l)).all λi=>fF l i==1000000||dsts.contains (fF l i))=aE) (hds:∀s∈dsts,s<a0.tmps.size)
  (WR:(Nat->Bool)->World->Prop) (fact:Nat->Value->World->Prop) (h0:WR (λ_=>aK) w0.drew)
  (hmono:∀j v w w',fact j v w->Below w.heap.size w w'->fact j v w')
  (hstep:DW (TU P l anc a0 WR fact) l 0)
  (hend:∀(D:Nat->Bool) (V:Nat->Value) (w:World),(∀i,i<aA l->D i=aE)->(∀i,i<aA l->fact i (oI l V i) w)->WR D w->Q .normal (lM a0 dsts V) w):
  wpAny P .any l.toArray Q l.toArray.size (Array.replicate l.toArray.size aK) a0 w0.drew:=by
 unfold okF at hok;rw[cC]at hok;have hget:∀i o,l[i]? =aD o->i<aA l:=aH;have hop:∀i o,l[i]? =aD o->(∀e∈o.after.toList,kH .any e=aE->e.on<i/\(iP anc i).contains e.on=aE)/\o.guard=aM/\
   (∀j,(iP anc i).contains j=aE->j<i/\∃e∈o.after.toList,kH .any e=aE/\(e.on=j\/(iP anc e.on).contains j=aE))/\(∀d,o.dst=aD d->fF l i=d/\d≠1000000)/\(o.dst=aM->fF l i=1000000):=by
  intro i o ho;have h1:=hok i (cP.2 (hget i o ho));simp only[cD]at h1;obtain⟨⟨h2,h3⟩,_⟩:=h1;rw[ho]at h2;simp only[fk,pf,cD,Option.isNone_iff_eq_none,bne_iff_ne,ne_eq]at h2;refine⟨?_,h2.1.2,?_,?_,?_⟩
  .grind
  .intro j hj;rw[cC]at h3;have:=h3 j aH;simp only[cD,decide_eq_true_eq]at this;obtain⟨h4,h5⟩:=this;refine⟨h4,?_⟩;rw[ho]at h5;simp only[fk,pf,List.any_eq_true,cD,jd,beq_iff_eq]at h5;exact h5
  .intro d hd;refine⟨by unfold fF;grind,?_⟩;grind
  .unfold fF;grind
 have huniq:∀i j,i<aA l->j<aA l->j≠i->fF l j=fF l i->fF l i=1000000:=by
  intro i j hi hj hne he;have h1:=hok i (cP.2 hi);simp only[cD]at h1;obtain⟨_,h3⟩:=h1;rw[cC]at h3;have:=h3 j (cP.2 hj);simp only[jd,beq_iff_eq,bne_iff_ne,ne_eq]at this;rcases this with(h|h)|h
  .omega
  .omega
  .exact h
 let G:(Nat->Bool)->(Nat->Value)->World->Prop:=λD V w=>
  (∀i j,D i=aE->(iP anc i).contains j=aE->D j=aE)/\(∀i,i<aA l->D i=aE->fact i (oI l V i) w)/\
  (∀s,(∀j,j<aA l->fF l j=s->D j=aK)->V s=a0.tmps.getD s undef)/\WR D w
 refine MK dsts ?_ hds G ?_ ?_ ?_
 .rw[cC];intro i hi;have hi':=cP.1 hi;have ho:l[i]? =aD l[i] :=fQ hi';simp only[List.getElem?_toArray,ho,fk,pf,cD];refine⟨?_,?_⟩
  .grind
  .cases hd:l[i].dst with
   |none=>rfl
   |some d=>
    grind
 .grind
 .intro i o D V w ho ⟨g1,g2,g3,g4⟩ hD hpre hV;have ho':l[i]? =aD o:=by simpa using ho
  obtain⟨q1,q2,q3,q4,q5⟩:=hop i o ho';have hi:=hget i o ho';have hanc:∀j,(iP anc i).contains j=aE->D j=aE:=by
   intro j hj;obtain⟨_,e,he,hb,h⟩:=q3 j hj;have:=hpre e he hb;rcases h with rfl|h
   .exact this
   .grind
  have hdesc:∀j,(iP anc j).contains i=aE->D j=aK:=by
   intro j hj;cases hx:D j with
   |false=>rfl
   |true=>grind
  have hs:=MV l 0 hstep i o ho';rw[ku]at hs;have hrun:=hs D V w hD (λj hj=>⟨hanc j hj,g2 j (Nat.lt_trans (q3 j hj).1 hi) (hanc j hj)⟩) hdesc (λs hsl=>g3 s (λj hj hjs=>by unfold Sr at hsl;grind)) g4
  rw[if_pos (by unfold kI;rw[q2])];have hmono':∀(K K':Value->World->Prop),(∀v w,K v w->K' v w)->cv P o V w K->cv P o V w K':=by
   intro K K' hk h;unfold cv at h|-;split at h
   .grind
   .grind
   .exact h.mono λe w'' ⟨v,he,hv⟩=>⟨v,he,hk _ _ hv⟩
   .exact h.elim
  have key:∀(U:Nat->Value) (v:Value) (w':World),(∀s,s≠fF l i->U s=V s)->(fF l i≠1000000->U (fF l i)=v)->
    (fact i (if fF l i=1000000 then undef else v) w'/\WR (im D i) w'/\(w'=w\/Below w.heap.size w w'\/∀j,D j=aE->fact j (oI l V j) w->fact j (oI l V j) w'))->G (im D i) U w':=by
   rintro U v w' hVd hVv ⟨k1,k2,k3⟩;refine⟨?_,?_,?_,k2⟩
   .intro i' j h1 h2;by_cases e:j=i
    .simp[im,e]
    .by_cases e':i'=i
     .simp only[im,e,if_false];grind
     .simp only[im,e',if_false]at h1;simp only[im,e,if_false];grind
   .intro i' hi' h1;by_cases e:i'=i
    .subst e;have:oI l U i'=if fF l i'=1000000 then undef else v:=by
      unfold oI;by_cases h6:fF l i'=1000000
      .grind
      .grind
     grind
    .simp only[im,e,if_false]at h1;have:oI l U i'=oI l V i':=by
      unfold oI;by_cases h6:fF l i'=1000000
      .grind
      .grind
     rw[this];have h8:=g2 i' hi' h1;rcases k3 with rfl|k3|k3
     .exact h8
     .grind
     grind
   .intro s hs;have hne:s≠fF l i:=by intro h;have:=hs i hi h.symm;simp[im]at this
    rw[hVd s hne];refine g3 s (λj hj hjs=> ?_);have:=hs j hj hjs;by_cases e:j=i
    .grind
    .simpa[im,e]using this
  refine hmono' _ _ ?_ hrun;intro v w' hk;show G (im D i) _ w';cases hd:o.dst with
  |none=>
   have e1:=q5 hd;refine key _ v w' ?_ (λh=>absurd e1 h) hk;grind
  |some d=>
   refine key _ v w' ?_ ?_ hk
   .grind
   grind
 grind
def Fu{r n:Nat}{id:Nat}{l:List Oper}{a0:Act}{w0:World}(hm:P.follows .mixedOrders=aE)
  (hdf:(l.all λo=>match o.op with| .defer _=>aK|_=>aE)=aE)
  (dsts:List Nat) (anc:List (List Nat)) (hok:okF l anc=aE) (hdst:((bT (aA l)).all λi=>fF l i==1000000||dsts.contains (fF l i))=aE) (hds:∀s∈dsts,s<a0.tmps.size)
  (WR:(Nat->Bool)->World->Prop) (fact:Nat->Value->World->Prop) (h0:WR (λ_=>aK) w0.drew)
  (hmono:∀j v w w',fact j v w->Below w.heap.size w w'->fact j v w')
  (hstep:DW (TU P l anc a0 WR fact) l 0)
  (hend:∀(D:Nat->Bool) (V:Nat->Value) (w:World),(∀i,i<aA l->D i=aE)->(∀i,i<aA l->fact i (oI l V i) w)->WR D w->Q .normal (lM a0 dsts V) w):
  (Code.region id l.toArray aE).wpIn (Fence.wide.inRound r) n P Q a0 w0:=by
 refine aBQ (wpIn_region_draw λt=> ?_);simp only[Region.schedule,hm,Bool.true_or,if_true];refine tu ?_ (aBR Q) _ _ _ (wpAny_sound _ t _ _ _ (Ww dsts anc hok hdst hds WR fact h0 hmono hstep λD V w h1 h2 h3=>⟨rfl,aH⟩));grind
end
section
def RdV(w:World)(a:Option Addr)(xs:List V):Prop:=
 ∀i,i<aA xs->∃b off,a=aD ⟨b,off,aM⟩/\b<w.heap.size/\w.cell? ⟨b,off+i*2,aM⟩=aD (.int .i64 (aI7 xs i).x)/\w.cell? ⟨b,off+i*2+1,aM⟩=aD (.int .i64 (aI7 xs i).y)
variable{w:World}{a:Option Addr}{xs:List V}
def RdV.below{w':World}(h:RdV w a xs)(hb:Below w.heap.size w w'):RdV w' a xs:=by intro i hi;obtain⟨b,off,ha,hlt,h1,h2⟩:=h i hi;exact⟨b,off,ha,y7 hlt hb.size,(hb.cell (p:=⟨b,_,aM⟩) hlt).trans h1,(hb.cell (p:=⟨b,_,aM⟩) hlt).trans h2⟩
def j6(xs:List S):List Value:=xs.flatMap λs=>[.int .i64 s.a.x,.int .i64 s.a.y,.int .i64 s.b.x,.int .i64 s.b.y]
def MS(xs:List S):aA (j6 xs)=aA xs*4:=by
 induction xs with
 |nil=>rfl
 |cons s l ih=>unfold j6 at*;simp only[fw,eR,ih,iE,nI];omega
def XD(xs ys:List S):j6 (xs++ys)=j6 xs++j6 ys:=by unfold j6;grind
variable{v:Value}
def Rd.Rb{base:Nat}{e:TypeId}{size:Nat}{n:Nat}{cs:List Value}(h:w.ownsRow base e size v n cs):∃a c,v= .slice a n c/\Rd w a cs/\kn base a/\(a=aM->c=0)/\n<=c:=by
 obtain⟨a,c,hv,h1,h2,h3⟩:=Rd.Jk h;refine⟨a,c,hv,h1,h2,h3,?_⟩;rcases h.2 with⟨h4,h5⟩|⟨g,cap,cur,h4,_,_,h5,_⟩
 .omega
 grind
def MN{base base':Nat}{e:TypeId}{size:Nat}{n:Nat}{xs:List Value}(h:w.ownsRow base e size v n xs)(hb:base'<=base):w.ownsRow base' e size v n xs:=
 ⟨h.1,h.2.imp id λ⟨g,cap,cur,h1,h2,h3⟩=>⟨g,cap,cur,h1,cZ hb h2,h3⟩⟩
def nC(xs:List V):List Value:=xs.flatMap λv=>[.int .i64 v.x,.int .i64 v.y]
def MR(xs:List V):aA (nC xs)=aA xs*2:=by
 induction xs with
 |nil=>rfl
 |cons s l ih=>unfold nC at*;grind
def Oq(xs:List V):∀(i:Nat),i<aA xs->(nC xs)[i*2]? =aD (.int .i64 (aI7 xs i).x)/\(nC xs)[i*2+1]? =aD (.int .i64 (aI7 xs i).y):=by
 induction xs with
 |nil=>grind
 |cons s l ih=>
  intro i hi;have e:nC (s::l)=[.int .i64 s.x,.int .i64 s.y] ++nC l:=by unfold nC;rw[fw]
  rw[e];cases i with
  |zero=>simp[aI7]
  |succ i=>
   have h:=ih i aH;have e0:(i+1)*2=2+i*2:=aC;rw[e0,mg af,mg eO];simpa[Nat.add_assoc,Nat.add_sub_cancel_left,aI7]using h
def RdV.aFz(h:Rd w a (nC xs)):RdV w a xs:=by intro i hi;obtain⟨g0,g1⟩:=Oq xs i hi;obtain⟨b,off,ha,hlt,h0⟩:=h _ _ g0;obtain⟨b',off',he,_,h1⟩:=h _ _ g1;grind
structure RV where
 a:Option Addr
 c:Nat
 r:aU
instance:Inhabited RV:=⟨⟨aM,0,[]⟩⟩
def RV.enc(x:RV):Value:= .slice x.a (aA x.r) x.c
def Len(x:RV):Prop:=aA x.r<=1000/\(aA x.r)<=x.c/\(x.a=aM->x.c=0)
def qP(w:World):bf:=λb o v=>w.cell? ⟨b,o,aM⟩=aD v
def ry{c:Nat}{r:List V}(h:RdV w a r)(hl:Len ⟨a,c,r⟩):bE (qP w) (.sl (aA r) (iR r)) (.slice a (aA r) c):=by
 obtain⟨_,h2,h3⟩:=hl;dsimp only at h2 h3;unfold bE;refine⟨a,c,rfl,h2,λha=>⟨h3 ha,?_⟩,?_⟩
 .cases r with
  |nil=>rfl
  |cons v r=>grind
 .rintro ad rfl;refine⟨λh0=> ?_,dp.of _ _ _ λi x hi=> ?_⟩
  .obtain⟨b,off,hb,_⟩:=h 0 h0;cases hb;rfl
  .have hlt:i<aA (iR r):=(Bs.1 hi).1;rw[yH.length]at hlt;obtain⟨b,off,hb,_,h0,h1⟩:=h (i/2) aC;cases hb;have h4:=aD5 (v:=r) (i:=i/2) aC;have g:∀j,j<2->(iR r)[i/2*2+j]? =([.int .i64 (aI7 r (i/2)).x,.int .i64 (aI7 r (i/2)).y] :List PV)[j]? :=λj hj=>aH;rcases Nat.mod_two_eq_zero_or_one i with hm|hm
   .have:=g 0 bg;rw[(aC:i/2*2+0=i),hi]at this;cases this;exact⟨_,by show w.cell? _=_;rw[(aC:off+i=off+i/2*2)];exact h0,rfl,by unfold bE;rfl⟩
   .have:=g 1 bg;rw[(aC:i/2*2+1=i),hi]at this;cases this;exact⟨_,by show w.cell? _=_;rw[(aC:off+i=off+i/2*2+1)];exact h1,rfl,by unfold bE;rfl⟩
def bk.one{C:bf}{x:PV}(h:bE C x v):bk C [x] [v] :=by unfold bk;exact⟨_,_,rfl,h,by unfold bk;rfl⟩
def bk.Ei{C:bf}{x:PV}{l:List PV}{vs:List Value}(h:bE C x v)(h2:bk C l vs):bk C (x::l) (v::vs):=by unfold bk;grind
def AN{f:FuncId}{xs:List SV}{r:SV}{B:List PV}{q:PV}{vs:List Value}{u:Value}(h:∃A q,avs xs=A.map .p/\r.av= .p q/\Sat bi aK f A q)(hB:avs xs=B.map .p)(hq:r.av= .p q)
  (hu:∀C v,bE C q v->v=u) (hr:bk (qP w) B vs):Calls bi f vs.toArray w λe w'=>e= .returned u/\Below w.heap.size w w':=by
 obtain⟨A,q',h1,h2,h3⟩:=h;rw[hq]at h2;cases h2;rw[hB]at h1;have:B=A:=by have:=congrArg bm h1;rw[eW,eW]at this;cases this;rfl
 subst this;refine(h3.2 (qP w) w vs (λ_ _ _ h=>h) hr).mono ?_;grind
def Wq(a:Option Addr)(c:Nat)(xs:List V)(w:World)(h:RdV w a xs)(hl:Len ⟨a,c,xs⟩):
  Calls bi 82 #[.slice a (aA xs) c] w λe w'=>e= .returned (.bool (dC xs))/\Below w.heap.size w w':=
 AN (k83 [.lst .V xs] xs rfl ((lI (l:=c83.pre xs)).1 hl.1)) (B:=[.sl (aA xs) (iR xs)]) rfl rfl (λC v h=>by unfold bE at h;exact h) (bk.one (ry h hl))
def PA(a:Option Addr)(c:Nat)(xs:List V)(w:World)(h:RdV w a xs)(hl:Len ⟨a,c,xs⟩):
  Calls bi 88 #[.slice a (aA xs) c] w λe w'=>e= .returned (.int .i64 (if dC xs then area xs else 0))/\Below w.heap.size w w':=
 AN (k89 [.lst .V xs] xs rfl ((lI (l:=c89.pre xs)).1 hl.1)) (B:=[.sl (aA xs) (iR xs)]) rfl rfl (λC v h=>by unfold bE at h;exact h) (bk.one (ry h hl))
def qB(a:Option Addr)(c:Nat)(xs:List V)(a':Option Addr)(c':Nat)(ys:List V)(p:Int)(w:World)(h':RdV w a' ys)(hl':Len ⟨a',c',ys⟩)(h:RdV w a xs)(hl:Len ⟨a,c,xs⟩):
  Calls bi 123 #[.slice a (aA xs) c,.slice a' (aA ys) c',.int .i64 p] w λe w'=>e= .returned (.bool (aJe xs ys p))/\Below w.heap.size w w':=
 AN (Vh [.lst .V xs,.lst .V ys,.int .i64 p] (xs,ys,p) rfl ((lI (l:=Vp.pre (xs,ys,p))).1 ⟨hl.1,hl'.1⟩)) (B:=[.sl (aA xs) (iR xs),.sl (aA ys) (iR ys),.int .i64 p]) rfl rfl (λC v h=>by unfold bE at h;exact h)
  ((bk.one (by unfold bE;rfl)).Ei (ry h' hl')|>.Ei (ry h hl))
def C4(a:Option Addr)(c:Nat)(xs:List V)(a':Option Addr)(c':Nat)(ys:List V)(w:World)(h:RdV w a xs)(h':RdV w a' ys)(hl:Len ⟨a,c,xs⟩)(hl':Len ⟨a',c',ys⟩):
  Calls bi 124 #[.slice a (aA xs) c,.slice a' (aA ys) c'] w λe w'=>e= .returned (.bool (gQ xs ys))/\Below w.heap.size w w':=
 AN (Vg [.lst .V xs,.lst .V ys] (xs,ys) rfl ((lI (l:=Vo.pre (xs,ys))).1 ⟨hl.1,hl'.1⟩)) (B:=[.sl (aA xs) (iR xs),.sl (aA ys) (iR ys)]) rfl rfl (λC v h=>by unfold bE at h;exact h)
  ((bk.one (ry h' hl')).Ei (ry h hl))
def RX{f:FuncId}{t:LT}{ty:Nat}{l:List t.ty}{n:List Int}(he:t.enc l=n.map (PV.int .i64)){c:Nat}(h:RdV w a xs)(hl:Len ⟨a,c,xs⟩)
  (hk:∃A Y,avs [SV.lst .V xs] =A.map .p/\avs [] =Y.map .p/\yo bi f A ty t.w (t.enc l) (aA l) Y):
  Calls bi f #[.slice a (aA xs) c] w λe w'=>∃a' c',e= .returned (.slice a' (aA l) c')/\Rd w' a' (n.map (dN .i64))/\kn w.heap.size a'/\(a'=aM->c'=0)/\(aA l)<=c'/\Below w.heap.size w w':=by
 obtain⟨A,Y,h1,h2,h3⟩:=hk;cases Y with
 |cons y Y=>simp[avs]at h2
 |nil=>
 have hA:A=[.sl (aA xs) (iR xs)] :=by have h1:[AV.p (.sl (aA xs) (iR xs))] =A.map .p:=h1;have:=congrArg bm h1;rw[eW]at this;cases this;rfl
 subst hA;refine(h3.2.2 (qP w) w [_] (λ_ _ _ h=>h) (bk.one (ry h hl))).mono ?_;rintro e w' ⟨v,us,q,c',rfl,hb,hys,hrow⟩;unfold bk at hys;subst hys;rw[he]at hrow;rcases hrow with⟨_,rfl,hm,hn,_⟩|⟨b,arr,_,rfl,h4,h5,h6,_,h7,_,h8⟩
 .refine⟨aM,0,by rw[hm];rfl,(λi u hi=>jc),(λb hb=>by cases hb),(λ_=>rfl),aC,hb⟩
 .refine⟨aD ⟨b,0,aM⟩,c',rfl,λi u hi=> ?_,λb' hb'=>aH,(λe=>by cases e),h4,hb⟩;rw[ip,oW]at hi;obtain⟨n,hn,rfl⟩:=hi;obtain⟨u,g1,_,g2⟩:=h8 i (.int .i64 n) aH;unfold bE at g2;subst g2;exact⟨b,0,rfl,(Ls.1 h6).1,by rw[ku,cell_of_row w' b i arr ty (0,0) h6];exact g1⟩
def aAA(a:Option Addr)(c:Nat)(xs:List V)(w:World)(h:RdV w a xs)(hl:Len ⟨a,c,xs⟩):
  Calls bi 154 #[.slice a (aA xs) c] w λe w'=>∃a' c',e= .returned (.slice a' (aA (aW xs)) c')/\Rd w' a' (j6 (aW xs))/\kn w.heap.size a'/\(a'=aM->c'=0)/\Below w.heap.size w w':=by
 have e1:j6 (aW xs)=((aW xs).flatMap λs=>[s.a.x,s.a.y,s.b.x,s.b.y]).map (dN .i64):=by unfold j6;rw[Lt];rfl
 rw[e1];refine(RX (t:= .S) (l:=aW xs) (n:=(aW xs).flatMap λs=>[s.a.x,s.a.y,s.b.x,s.b.y]) (by unfold LT.enc;rw[Lt];rfl) h hl (Vd [.lst .V xs] xs rfl ((lI (l:=Vk.pre xs)).1 hl.1))).mono ?_;rintro e w' ⟨a',c',h1,h2,h3,h4,_,h5⟩;exact⟨a',c',h1,h2,h3,h4,h5⟩
end
section
open Go.RowKit Go.Shelf
attribute [local go_sem] B0
def RdH(n0:Nat)(w:World)(ah:Option Addr)(hs:List RV):Prop:=∀i,i<aA hs->∃b off,ah=aD ⟨b,off,aM⟩/\b<n0/\w.cell? ⟨b,off+i,aM⟩=aD (RV.enc (hs.getD i default))
def RdH.below{n0:Nat}{w w':World}{ah:Option Addr}{hs:List RV}(h:RdH n0 w ah hs)(hb:Below n0 w w'):RdH n0 w' ah hs:=by intro i hi;obtain⟨b,off,ha,hlt,h1⟩:=h i hi;exact⟨b,off,ha,hlt,(hb.cell (p:=⟨b,_,aM⟩) hlt).trans h1⟩
def RdH.mono{n0 n1:Nat}{w:World}{ah:Option Addr}{hs:List RV}(h:RdH n0 w ah hs)(hn:n0<=n1):RdH n1 w ah hs:=by intro i hi;obtain⟨b,off,ha,hlt,h1⟩:=h i hi;grind
def Kp2(n0 b:Nat)(W W':World):Prop:=Below n0 W W'/\W'.heap[b]? =W.heap[b]?
def Kp2.trans{n0 b:Nat}{A B C:World}(h:Kp2 n0 b A B)(k:Kp2 n0 b B C):Kp2 n0 b A C:=⟨h.1.trans k.1,k.2.trans h.2⟩
def Kp2.blk{n0 b:Nat}{W W':World}{t:TypeId}{cs:Array Value}(h:Kp2 n0 b W W')(hb:Blk W b t cs):Blk W' b t cs:=h.2.trans hb
def Zn(F:Fence)(n:Nat)(h179:F.fn 178)(hro:F.round=aM)(hn:1<=n)(l b n0:Nat)(o:RV)(ah:Option Addr)(ch:Nat)(hs:List RV)(hhs:aA hs<=1000)(J Jx:List RV->World->Prop)
  (hY:∀pre x W,x∈o::hs->J pre W->aA pre<aA hs+1->YieldAt F (n-1) bi l #[RV.enc x] W λe W'=>
    (e= .returned (.bool aE)/\J (pre++[x]) W'/\Kp2 n0 b W W')\/(e= .returned (.bool aK)/\Jx (pre++[x]) W'))
  (W:World) (hB:Blk W b 26 #[RV.enc o,.slice ah (aA hs) ch]) (hH:RdH n0 W ah hs) (h0:J [] W):
  CallsIn F n bi 178 #[.func (.yield l) #[] #[],.pointer (aD ⟨b,0,aM⟩)] W λe W'=>(∃v,e= .returned v)/\
   ((∃ys,ys=o::hs/\J ys W')\/(∃pre,pre<+:o::hs/\Jx pre W')):=by
 obtain⟨fn,tmps,assign,body,hy,hR⟩:=hY [] o W cR h0 af;dsimp only[RV.enc]at hy;have c0:=hB.cell 0;have c1:=hB.cell 1;simp[RV.enc]at c0 c1;refine callsIn_of_wp Fk rfl h179 ?_ hro;simp only[Tryz.ntmps178,wv,iE,nI,zD,zE,zF,zG,zH,zI,tQ,k8]
 gi_wp2
 refine hR.mono ?_;rintro e W1 (⟨rfl,hJ1,hk1⟩|⟨rfl,hJx1⟩)
 .have hB1:=hk1.blk hB;have hH1:=hH.below hk1.1;clear c0 c1 hR hy;have c0:=hB1.cell 0;have c1:=hB1.cell 1;simp[RV.enc]at c0 c1
  gi_wp2
  gi_loopw [4,13] (λ_ i wr=>∃k:Nat,k<=(aA hs)/\i= .int .i64 k/\J (o::hs.take k) wr/\Kp2 n0 b W1 wr) (λ_ i _=>aA hs-(intOf i).toNat)
  case atStart=>exact⟨0,aC,rfl,aH,Below.refl _ _,rfl⟩
  case round=>
   obtain⟨k,hk,rfl,hJr,hkr⟩:=hrel;by_cases hlt:k<aA hs
   .obtain⟨bb,off,rfl,hbb,p0⟩:=hH1.below hkr.1 k hlt;have hblt:bb<wr.heap.size:=by
     rcases Nat.lt_or_ge bb wr.heap.size with h|h
     .exact h
     .simp[World.cell?,Array.getElem?_eq_none h]at p0
    have htk:o::hs.take (k+1)=(o::hs.take k)++[hs.getD k default] :=by rw[nO,fY,fQ hlt];simp
    obtain⟨fn,tmps,assign,body,hy,hR⟩:=hY (o::hs.take k) (hs.getD k default) wr (cM _ aH) hJr eO;rw[<-htk]at hR;dsimp only[RV.enc]at hy;unfold RV.enc at p0;clear htk;generalize hs.getD k default=z at hy p0
    gi_wp2
    refine hR.mono ?_;rintro e W3 (⟨rfl,hJ3,hk3⟩|⟨rfl,hJx3⟩)
    .gi_wp2
     go_roundw
     case rel=>exact⟨k+1,aC,by go_num,hJ3,hkr.trans hk3⟩
     case measure=>simp[intOf];omega
    .gi_wp2
     refine bodyPost_ret (results_none rfl _ _ _) rfl ?_;grind
   .have hk2:k=aA hs:=aC;subst hk2;rw[List.take_length]at hJr
    gi_wp2
    go_end0
    grind
 .gi_wp2
  refine bodyPost_ret (results_none rfl _ _ _) rfl ?_;grind
def CA(F:Fence)(n:Nat)(h179:F.fn 178)(hro:F.round=aM)(hn:1<=n)(b n0:Nat)(o:RV)(ah:Option Addr)(ch:Nat)(hs:List RV)(hhs:aA hs<=1000)(w:World)(hn0:n0<=w.heap.size)(hB:Blk w b 26 #[RV.enc o,.slice ah (aA hs) ch])(hH:RdH n0 w ah hs):
  SeqStopsK F n bi 178 #[.pointer (aD ⟨b,0,aM⟩)] (λx:{x:RV//x∈o::hs}=> #[RV.enc x.1]) (Kp2 n0 b) (λys=>ys.map (·.1)=o::hs) (λpre=>pre.map (·.1)<+:o::hs) (aA hs+1) w:=λl J Jx W hW _ _ hY h0=>by
 refine(Zn F n h179 hro hn l b n0 o ah ch hs hhs (λpre W=>∃p:List {x:RV//x∈o::hs},p.map (·.1)=pre/\J p W) (λpre W=>∃p:List {x:RV//x∈o::hs},p.map (·.1)=pre/\Jx p W) ?_ W (hB.then_ hW) (hH.below (hW.mono hn0)) ⟨[],rfl,h0⟩).mono ?_
 .rintro pre x W' hx ⟨p,rfl,hJ⟩ hl;obtain⟨fn,tmps,assign,body,hy,hR⟩:=hY p ⟨x,hx⟩ W' hJ aH;refine⟨fn,tmps,assign,body,hy,hR.mono ?_⟩;grind
 grind
def Ef{n0 b:Nat}{w:World}(hn:n0<=w.heap.size)(hb:b<w.heap.size)(W:World)(l:Nat)(o o':Obj)(hl:w.heap.size<=l)(h:W.heap[l]? =aD o)(h1:o.isCells=aK)(h2:o.isWalk=aK):Kp2 n0 b W (W.putObj l o'):=
 ⟨belowK_b hn W l o o' hl h h1 h2,World.putObj_heap_other aC⟩
def Cl(o:RV)(ah:Option Addr)(nh ch:Nat)(w:World):
  Calls bi 122 #[.agg #[RV.enc o,.slice ah nh ch]] w λe w'=>e= .returned (.func (.func 178) #[] #[.pointer (aD ⟨w.heap.size,0,aM⟩)])/\w'=w.alloc (.cells #[RV.enc o,.slice ah nh ch] 26):=by
 unfold RV.enc
 go_enter Tryz.func122,Tryz.ntmps122
 go_wp2
 go_ret
 simp_all
end
section
open Go.RowKit Go.Shelf
attribute [local go_sem] B0
structure RdSh(w:World)(o:RV)(ah:Option Addr)(hs:List RV):Prop where
 h:RdH w.heap.size w ah hs
 v:∀x∈o::hs,RdV w x.a x.r/\Len x
 n:aA hs<=1000
def RdSh.below{w w':World}{o:RV}{ah:Option Addr}{hs:List RV}(H:RdSh w o ah hs)(hb:Below w.heap.size w w'):RdSh w' o ah hs:=
 ⟨(H.h.below hb).mono hb.size,λx hx=>⟨(H.v x hx).1.below hb,(H.v x hx).2⟩,H.n⟩
def fT(o:RV)(hs:List RV):Shape:=⟨o.r,hs.map RV.r⟩
section
variable {F:Fence} {n:Nat} {P:Program} {fn:Func} {R:Ending->World->Prop} {a:Act} {w:World} {v:Value}
def NH(hr:(results fn a.tmps).run P w= .ok v w)(hd:a.defers=[])(hR:R (.returned v) w):bodyPostM F n P fn R .ret a w:=by show LeavesInM F n P fn a.tmps R a.defers .returning w;rw[hd];exact⟨v,hr,hR⟩
def NG{D:Nat}(hd:a.defers=[{target:= .collected D,args:= #[]}])(hK:w.heap[D]? =aD (.deferred (aD [])))(hr:(results fn a.tmps).run P (w.putObj D (.deferred aM))= .ok v (w.putObj D (.deferred aM)))
  (hR:R (.returned v) (w.putObj D (.deferred aM))):bodyPostM F n P fn R .ret a w:=by
 show LeavesInM F n P fn a.tmps R a.defers .returning w;rw[hd];exact⟨af,.inl ⟨_,_,rfl,run_takeDeferred hK,v,hr,hR⟩⟩
end
variable{W:World}
def pp{n0 D:Nat}(hD:n0<=D)(hK:W.heap[D]? =aD (.deferred (aD []))):Below n0 W (W.putObj D (.deferred aM)):=
 (Below.refl n0 W).grown (grownBy_putObj' W D _) aH aH
def CH{W':World}(h:Below W.heap.size W W'):KeepsOthers W W':=
 ⟨h.size,λk _o hk _=>(h.block k aH).trans hk⟩
def qA{β:Type}{B g:Nat}{t:TypeId}{cs:β->Array Value}:OwnFrom B (λ(s:β) W=>Blk W g t (cs s)):=λs W W' row h hg hr=>by have h':W.heap[g]? =aD (.cells (cs s) t (0,0)):=h;refine(hg.block g aH ?_).trans h';intro e;obtain⟨_,o,ho,hc⟩:=hr g e.symm;rw[h']at ho;cases ho;cases hc
def uU{β:Type}{B:Nat}{p:β->Prop}:OwnFrom B (λ(s:β) (_:World)=>p s):=λ_ _ _ _ h _ _=>h
def aCJ{D g:Nat}{t:TypeId}{cs:Array Value}(h:Blk W g t cs)(hK:W.heap[D]? =aD (.deferred (aD [])))(o':Obj):Blk (W.putObj D o') g t cs:=by have h':W.heap[g]? =aD (.cells cs t (0,0)):=h;refine(World.putObj_heap_other ?_).trans h';grind
def uS{F:Fence}{n:Nat}{R:Ending->World->Prop}{D s:Nat}{T:Array Value}{v:Bool}(hT:T.getD 2 undef= .pointer (aD ⟨s,0,aM⟩))(b2:Blk W s 4 #[.bool v])(hK:W.heap[D]? =aD (.deferred (aD [])))
  (hR:R (.returned (.bool v)) (W.putObj D (.deferred aM))):bodyPostM F n bi Tryz.f56 R .ret {tmps:=T,defers:=[{target:= .collected D,args:= #[]}]} W:=by
 refine NG (v:= .bool v) rfl hK ?_ hR;have c2:=(aCJ b2 hK (.deferred aM)).cell 0;rw[Array.getD_eq_getD_getElem?]at hT;simp[results,Tryz.f56,go_sem,hT,c2]
variable{s:Shape}
def XN(h:6<aA s.holes):bL s=aK:=by unfold bL;grind
def oF(o:aU)(L:List aU)(i:Nat):Bool:=aJe (aP L i) o 2&&gQ (aP L i) o&&
 ((bT i).all λk=>gQ (aP L i) (aP L k)&&aJe (aP L i) (aP L k) 0&&aJe (aP L k) (aP L i) 0)
def wA(L:List aU)(i k:Nat):Bool:=gQ (aP L i) (aP L k)&&aJe (aP L i) (aP L k) 0&&aJe (aP L k) (aP L i) 0
def zS(s:Shape):bL s=(decide (aA s.holes<=6)&&(aR s).all dC&&decide (jy s<=80)&&((bT (aA s.holes)).all (oF s.outer s.holes))):=rfl
variable{i:Nat}
def XO(hi:i<aA s.holes)(h:oF s.outer s.holes i=aK):bL s=aK:=by rw[zS];grind
def Wd(h:80<jy s):bL s=aK:=by rw[zS,decide_eq_false (aC:¬jy s<=80)];simp
def XM{r:aU}(hr:r∈aR s)(h:dC r=aK):bL s=aK:=by rw[zS];grind
def X6(h1:¬6<aA s.holes)(h2:∀r∈aR s,dC r=aE)(h3:¬80<jy s)(h4:∀i,i<aA s.holes->oF s.outer s.holes i=aE):bL s=aE:=by rw[zS,decide_eq_true aH,decide_eq_true aH,cC.2 h2];grind
variable{o:aU}{L:List aU}
def aAn(h1:aJe (aP L i) o 2=aE)(h2:gQ (aP L i) o=aE)(h3:∀k,k<i->wA L i k=aE):oF o L i=aE:=by unfold oF;rw[h1,h2];simp only[jq,cC,cP];exact h3
def Yn(h1:aJe (aP L i) o 2=aK):oF o L i=aK:=by unfold oF;rw[h1];simp
def Ym(h1:gQ (aP L i) o=aK):oF o L i=aK:=by unfold oF;rw[h1];simp
def Yl{k:Nat}(hk:k<i)(h1:wA L i k=aK):oF o L i=aK:=by unfold oF;have:((bT i).all λk=>gQ (aP L i) (aP L k)&&aJe (aP L i) (aP L k) 0&&aJe (aP L k) (aP L i) 0)=aK:=vF.2 ⟨k,aH,by simpa[wA]using h1⟩;grind
def aBV(hs:List RV){k:Nat}(hk:k<aA hs):aP (hs.map RV.r) k=(hs.getD k default).r:=by unfold aP;grind
def QK(hs:List RV){k:Nat}(hk:k<aA hs):hs.getD k default∈hs:=aH
def Fs(o:RV)(ah:Option Addr)(ch:Nat)(hs:List RV)(w:World)(H:RdSh w o ah hs)(hch:aA hs<=ch):
  Calls bi 56 #[.agg #[RV.enc o,.slice ah (aA hs) ch]] w λe w'=>e= .returned (.bool (bL (fT o hs)))/\Below w.heap.size w w':=by
 have hN:=H.n;by_cases c1:6<aA hs
 .have HV:Hid (bL (fT o hs)=aK):=Lib.hid (XN (by unfold fT;grind));refine(callsIn_wide (n:=9)).1 (callsIn_of_wp_marks Tryz.func56 rfl trivial ((wpIn_wide (n:=9)).2 ?_) rfl);simp only[Tryz.ntmps56,wv,iE,nI,zD,zE,zF,zG,zH,zI,tQ,k8]
  go_wp2_with fail
  have hBW:Below w.heap.size w (((w.alloc (.cells #[.slice o.a (aA o.r) o.c,.slice ah (aA hs) ch] 26)).alloc (.cells #[.bool aK] 4))):=((Below.refl _ _).alloc (bR _) _).alloc af _;refine NH (v:= .bool aK) ?_ rfl ?_
  .simp[results,Tryz.f56,go_sem]
  .exact⟨by rw[HV.out],hBW⟩
 .have d1:decide ((6:Int)<aA hs)=aK:=aH;refine(callsIn_wide (n:=9)).1 (callsIn_of_wp_marks Tryz.func56 rfl trivial ((wpIn_wide (n:=9)).2 ?_) rfl);simp only[Tryz.ntmps56,wv,iE,nI,zD,zE,zF,zG,zH,zI,tQ,k8];dsimp only[RV.enc]
  go_wp2_with fail
  refine(Cl o ah (aA hs) ch _).mono ?_;rintro e w1 ⟨rfl,rfl⟩
  go_wp2_with fail
  have B1:=(((Blk.new w 26 #[.slice o.a (aA o.r) o.c,.slice ah (aA hs) ch]).alloc (.cells #[.bool aK] 4)).alloc (.cells #[.int .i64 0] 3)).alloc (.cells #[RV.enc o,.slice ah (aA hs) ch] 26);have B2:=((Blk.new (w.alloc (.cells #[.slice o.a (aA o.r) o.c,.slice ah (aA hs) ch] 26)) 4 #[.bool aK]).alloc (.cells #[.int .i64 0] 3)).alloc (.cells #[RV.enc o,.slice ah (aA hs) ch] 26);have B3:=(Blk.new ((w.alloc (.cells #[.slice o.a (aA o.r) o.c,.slice ah (aA hs) ch] 26)).alloc (.cells #[.bool aK] 4)) 3 #[.int .i64 0]).alloc (.cells #[RV.enc o,.slice ah (aA hs) ch] 26);have B4:=Blk.new (((w.alloc (.cells #[.slice o.a (aA o.r) o.c,.slice ah (aA hs) ch] 26)).alloc (.cells #[.bool aK] 4)).alloc (.cells #[.int .i64 0] 3)) 26 #[RV.enc o,.slice ah (aA hs) ch];have hBW:Below w.heap.size w ((((w.alloc (.cells #[.slice o.a (aA o.r) o.c,.slice ah (aA hs) ch] 26)).alloc (.cells #[.bool aK] 4)).alloc (.cells #[.int .i64 0] 3)).alloc (.cells #[RV.enc o,.slice ah (aA hs) ch] 26)):=((((Below.refl _ _).alloc (bR _) _).alloc af _).alloc eO _).alloc eO _;have hs0:w.heap.size+4=((((w.alloc (.cells #[.slice o.a (aA o.r) o.c,.slice ah (aA hs) ch] 26)).alloc (.cells #[.bool aK] 4)).alloc (.cells #[.int .i64 0] 3)).alloc (.cells #[RV.enc o,.slice ah (aA hs) ch] 26)).heap.size:=af;simp only[World.size_alloc]at B1 B2 B3 B4;generalize (((w.alloc (.cells #[.slice o.a (aA o.r) o.c,.slice ah (aA hs) ch] 26)).alloc (.cells #[.bool aK] 4)).alloc (.cells #[.int .i64 0] 3)).alloc (.cells #[RV.enc o,.slice ah (aA hs) ch] 26)=W0 at B1 B2 B3 B4 hBW hs0|-;refine(wpIn_wide (n:=9)).1 ?_
  refine' wpIn_rangeFunc_ownF (F:=Fence.wide) (n:=9) rfl aC (gf:=178) (lb:= #[.pointer (aD ⟨w.heap.size+1+1+1,0,aM⟩)]) rfl trivial (enters_of Fk br rfl)
   (CA Fence.wide 8 trivial rfl aC (w.heap.size+1+1+1) w.heap.size o ah ch hs H.n W0 aC B4 (H.h.below hBW)) Kp2.trans (Ef aC aC) (Below.refl _ _) (λ_=>rfl)
   (λpre W=>((Blk W w.heap.size 26 #[.slice o.a (aA o.r) o.c,.slice ah (aA hs) ch]/\(Blk W (w.heap.size+1) 4 #[.bool aK]/\Blk W (w.heap.size+1+1+1) 26 #[RV.enc o,.slice ah (aA hs) ch]))/\Blk W (w.heap.size+1+1) 3 #[.int .i64 ((pre.map λx=>aA x.1.r).sum:Nat)])/\(((pre.map λx=>aA x.1.r).sum<=1000*(aA pre)/\∀x∈pre,dC x.1.r=aE)/\Below w.heap.size w W))
   (λc pre W=>Blk W (w.heap.size+1) 4 #[.bool aK]/\((c= .ret/\∃x∈pre,dC x.1.r=aK)/\Below w.heap.size w W))
   (OwnFrom.and (OwnFrom.and (OwnFrom.and qA (OwnFrom.and qA qA)) qA) (OwnFrom.and uU (ownFrom_below (bR _) aC)))
   (λc=>OwnFrom.and qA (OwnFrom.and uU (ownFrom_below (bR _) aC)))
   aH _ ?assign ?body ?done ?stop
  case assign=>
   intro l x W K hK
   gi_wp2
   exact hK
  case body=>
   rintro l pre ⟨⟨xa,xc,xr⟩,hxm⟩ W ⟨⟨⟨b1,b2,b4⟩,b3⟩,⟨hsum,hval⟩,hb⟩ hlen;obtain⟨hxr,hxl⟩:=H.v _ hxm;have hxn:aA xr<=1000:=hxl.1;have HS:Hid (((pre++[(⟨⟨xa,xc,xr⟩,hxm⟩:{x:RV//x∈o::hs})]).map λx:{x:RV//x∈o::hs}=>aA x.1.r).sum=(pre.map λx=>aA x.1.r).sum+aA xr):=Lib.hid af;obtain⟨S,hS⟩:∃S,S=(eP (λx:{x:RV//x∈o::hs}=>aA x.1.r) pre).sum:=⟨_,rfl⟩;rw[<-hS]at b3 hsum HS;clear hS;have c2:=b2.cell 0;have c3:=b3.cell 0;have f2:=b2.frozen 0;have f3:=b3.frozen 0;dsimp only[RV.enc]
   gi_wp2_with fail
   refine⟨trivial,(CallsIn.inRound l (callsIn_wide.2 (Wq xa xc xr _ (hxr.below (hb.setCell (p:=⟨w.heap.size+1+1,0,aM⟩) eO _)) hxl))).mono ?_⟩;rintro e w1 ⟨rfl,hb1⟩;have hk:KeepsOthers W w1:=(KeepsOthers.setCell W _ _).trans (CH hb1);have q2:=(b2.far (p:=⟨w.heap.size+1+1,0,aM⟩) af (.int .i64 ((S:Int)+aA xr))).then_ hb1;have q1:=(b1.far (p:=⟨w.heap.size+1+1,0,aM⟩) eO (.int .i64 ((S:Int)+aA xr))).then_ hb1;have q4:=(b4.far (p:=⟨w.heap.size+1+1,0,aM⟩) af (.int .i64 ((S:Int)+aA xr))).then_ hb1;have q3:=(b3.j8 0 (.int .i64 ((S:Int)+aA xr))).then_ hb1;have hB1:Below w.heap.size W w1:=((Below.refl _ W).setCell (p:=⟨w.heap.size+1+1,0,aM⟩) eO _).trans (hb1.mono (by have:=hb.size;simp_all));have hK:Kp2 w.heap.size (w.heap.size+1+1+1) W w1:=⟨hB1,Eq.trans q4 (Eq.symm b4)⟩;cases hv:dC xr with
   |true=>
    gi_wp2
    refine⟨hk,hK,⟨⟨q1,q2,q4⟩,?_⟩,⟨?_,?_⟩,hb.trans hB1⟩
    .rw[HS.out];grind
    .rw[HS.out];simp;omega
    grind
   |false=>
    have c2:=q2.cell 0;have f2:=q2.frozen 0
    gi_wp2
    refine⟨hk.trans (KeepsOthers.setCell _ _ _),by simpa using q2.j8 0 (.bool aK),⟨rfl,⟨_,bz.2 (.inr cR),hv⟩⟩,(hb.trans hB1).setCell (p:=⟨w.heap.size+1,0,aM⟩) af _⟩
  case stop=>
   rintro D c pre W hD hpre ⟨b2,⟨rfl,x,hx,hv⟩,hb⟩ hK;have HV:Hid (bL (fT o hs)=aK):=Lib.hid (XM (r:=x.1.r) (by unfold fT aR;grind) hv)
   gi_wp2
   exact uS rfl b2 hK ⟨by rw[HV.out],hb.trans (pp aC hK)⟩
  case done=>
   rintro D xs W hD hxs ⟨⟨⟨b1,b2,b4⟩,b3⟩,⟨hsum,hval⟩,hb⟩ hK;have hN7:aA xs<=7:=by have:=congrArg aA hxs;simp at this;omega
   have HC:(xs.map λx=>aA x.1.r).sum=jy (fT o hs):=by
    have e:(xs.map λx=>aA x.1.r)=(xs.map (·.1)).map λx=>aA x.r:=by rw[du];rfl
    rw[e,hxs];unfold jy aR fT;simp[Function.comp_def]
   have HA:Hid (∀r∈aR (fT o hs),dC r=aE):=Lib.hid (by
    intro r hr;have hr2:r∈(o::hs).map RV.r:=by unfold aR fT at hr;simpa using hr
    grind)
   rw[HC]at b3 hsum;clear HC hval hxs b4 B1 B2 B3 B4;have c80':=Lib.hid (λh:80<jy (fT o hs)=>Wd h);have HVA:=Lib.hid (λ(h:¬80<jy (fT o hs)) h4=>X6 (s:=fT o hs) (by unfold fT;grind) HA.out h h4);generalize jy (fT o hs)=N at b3 hsum c80' HVA;have hNb:N<=7000:=aC;clear HA hsum hN7 xs;have c3:=b3.cell 0;have f2:=b2.frozen 0;have c2:=b2.cell 0;have d0:=b1.cell 0;have d1':=b1.cell 1;simp at c2 c3 d0 d1';have hne:D≠w.heap.size+1:=aC;have hKs:∀v,(W.setCell ⟨w.heap.size+1,0,aM⟩ v).heap[D]? =aD (.deferred (aD [])):=λv=>(Below.heap_setCell W ⟨w.heap.size+1,0,aM⟩ v D aC).trans hK;by_cases c80:80<N
   .have d80:decide ((80:Int)<N)=aE:=aH;have HV:=Lib.hid (c80'.out c80)
    go_wp2
    exact uS rfl (by simpa using b2.j8 0 (.bool aK)) (hKs _) ⟨by rw[HV.out],(hb.setCell (p:=⟨w.heap.size+1,0,aM⟩) af _).trans (pp aC (hKs _))⟩
   .have d80:decide ((80:Int)<N)=aK:=aH;replace HVA:=Lib.hid (HVA.out c80);clear c80' c80 hNb b3
    go_wp2_with fail
    have hDl:D<W.heap.size:=aH;have hKX:∀wx,Below W.heap.size W wx->(wx.setCell ⟨w.heap.size+1,0,aM⟩ (.bool aK)).heap[D]? =aD (.deferred (aD [])):=λwx h=>(Below.heap_setCell wx ⟨w.heap.size+1,0,aM⟩ _ D aC).trans ((h.block D hDl).trans hK);have hKT:∀wx,Below W.heap.size W wx->(wx.setCell ⟨w.heap.size+1,0,aM⟩ (.bool aE)).heap[D]? =aD (.deferred (aD [])):=λwx h=>(Below.heap_setCell wx ⟨w.heap.size+1,0,aM⟩ _ D aC).trans ((h.block D hDl).trans hK);have ho:=H.v o aH;have hol:(fT o hs).outer=o.r:=rfl;have hhl:(fT o hs).holes=hs.map RV.r:=rfl;have hlen:aA (fT o hs).holes=aA hs:=by rw[hhl,dq]
    have HNO:=Lib.hid (λi (hi:i<aA hs) h=>XO (s:=fT o hs) (i:=i) aC h);rw[hol,hhl]at HNO;rw[hol,hhl,dq]at HVA;have HM:=Lib.hid (λk (hk:k<aA hs)=>aBV hs hk);clear hol hhl hlen hKs f2 c2 c3 d0 d1' hBW;have HC:=Lib.hid (λ(wx:World) (h:Below W.heap.size W wx)=>(show wx.cell? ⟨w.heap.size,0,aM⟩=aD (.slice o.a (aA o.r) o.c)/\wx.cell? ⟨w.heap.size,1,aM⟩=aD (.slice ah (aA hs) ch)/\wx.cell? ⟨w.heap.size+1,0,aM⟩=aD (.bool aK)/\wx.frozen? ⟨w.heap.size+1,0,aM⟩=aK from
     ⟨by simpa using(b1.then_ h).cell 0,by simpa using(b1.then_ h).cell 1,by simpa using(b2.then_ h).cell 0,(b2.then_ h).frozen 0⟩))
    go_loopw [5,6,8,28] (λ_ _ _ i wr=>∃k:Nat,k<=(aA hs)/\i= .int .i64 k/\Hid (∀i,i<k->oF o.r (hs.map RV.r) i=aE)/\Below W.heap.size W wr) (λ_ _ _ i _=>aA hs-(intOf i).toNat)
    case atStart=>exact⟨0,aC,rfl,Lib.hid aH,Below.refl _ _⟩
    case round=>
     obtain⟨k,hk,rfl,HT,hbr⟩:=hrel;by_cases hlt:k<aA hs
     .obtain⟨bb,off,rfl,hbb,p0⟩:=H.h k hlt;have hbw:=hb.trans (hbr.mono hb.size);replace p0:=(hbw.cell (p:=⟨bb,_,aM⟩) hbb).trans p0;have hx:=H.v _ (cM _ (QK hs hlt));have HMk:=HM.out k hlt;obtain⟨d0,d1',e1,e2⟩:=HC.out _ hbr;have hbbr:bb<wr.heap.size:=y7 hbb hbw.size;obtain⟨⟨xa,xc,xr⟩,hz⟩:∃z,z=hs.getD k default:=⟨_,rfl⟩;rw[<-hz]at p0 hx HMk;dsimp only[RV.enc]at p0 hx HMk;clear hz;have HNK:=Lib.hid (HNO.out k hlt);cases h1:aJe xr o.r 2 with
      |false=>
       have HV:=Lib.hid (HNK.out (Yn aH))
       go_wp2_with fail
       refine(qB xa xc xr o.a o.c o.r 2 _ (ho.1.below hbw) ho.2 (hx.1.below hbw) hx.2).mono ?_;rintro e w1 ⟨rfl,hb1⟩;have hbX:=hbr.trans (hb1.mono hbr.size);obtain⟨d0,d1',e1,e2⟩:=HC.out _ hbX
       go_wp2
       exact uS rfl (by simpa using(b2.then_ hbX).j8 0 (.bool aK)) (hKX _ hbX) ⟨by rw[HV.out],((hb.trans (hbX.mono hb.size)).setCell (p:=⟨w.heap.size+1,0,aM⟩) af _).trans (pp aC (hKX _ hbX))⟩
      |true=>
       go_wp2_with fail
       refine(qB xa xc xr o.a o.c o.r 2 _ (ho.1.below hbw) ho.2 (hx.1.below hbw) hx.2).mono ?_;rintro e w1 ⟨rfl,hb1⟩;rw[h1];have hbY:=hbr.trans (hb1.mono hbr.size);have hbv:=hbw.trans (hb1.mono hbw.size);clear d0 d1' e1 e2 hb1 p0 hbr hbw;obtain⟨d0,d1',e1,e2⟩:=HC.out _ hbY;cases h2:gQ xr o.r with
       |false=>
        have HV:=Lib.hid (HNK.out (Ym jc))
        go_wp2_with fail
        refine(C4 xa xc xr o.a o.c o.r _ (hx.1.below hbv) (ho.1.below hbv) hx.2 ho.2).mono ?_;rintro e w2 ⟨rfl,hb2⟩;have hbX:=hbY.trans (hb2.mono hbY.size);obtain⟨d0,d1',e1,e2⟩:=HC.out _ hbX
        go_wp2
        exact uS rfl (by simpa using(b2.then_ hbX).j8 0 (.bool aK)) (hKX _ hbX) ⟨by rw[HV.out],((hb.trans (hbX.mono hb.size)).setCell (p:=⟨w.heap.size+1,0,aM⟩) af _).trans (pp aC (hKX _ hbX))⟩
       |true=>
        go_wp2_with fail
        refine(C4 xa xc xr o.a o.c o.r _ (hx.1.below hbv) (ho.1.below hbv) hx.2 ho.2).mono ?_;rintro e w2 ⟨rfl,hb2⟩;rw[h2];have hbX:=hbY.trans (hb2.mono hbY.size);clear d0 d1' e1 e2 hb2 hbY hbv hbbr;obtain⟨d0,d1',e1,e2⟩:=HC.out _ hbX;have hkc:k<=ch:=aC
        go_wp2_with fail
        clear d0 d1' e1 e2 HNO;have hbv2:=hb.trans (hbX.mono hb.size)
        go_loopw [8,50] (λ_ i wr=>∃q:Nat,q<=k/\i= .int .i64 q/\Hid (∀i,i<q->wA (hs.map RV.r) k i=aE)/\Below W.heap.size W wr) (λ_ i _=>k-(intOf i).toNat)
        case atStart=>exact⟨0,aC,rfl,Lib.hid (λi hi=>aC),hbX⟩
        case round=>
         obtain⟨q,hq,rfl,HQ,hbq⟩:=hrel;by_cases hlq:q<k
         .have hqs:q<aA hs:=aC;obtain⟨bb',off',he,hbb',p0⟩:=H.h q hqs;simp only[iG,Addr.mk.injEq,and_true]at he;obtain⟨rfl,rfl⟩:=he;have hbw:=hb.trans (hbq.mono hb.size);replace p0:=(hbw.cell (p:=⟨bb,_,aM⟩) hbb).trans p0;have hy:=H.v _ (cM _ (QK hs hqs));have HMq:=HM.out q hqs;have hbbr:bb<wr.heap.size:=y7 hbb hbw.size;obtain⟨⟨ya,yc,yr⟩,hz⟩:∃z,z=hs.getD q default:=⟨_,rfl⟩;rw[<-hz]at p0 hy HMq;dsimp only[RV.enc]at p0 hy HMq;clear hz hbb';have HNQ:=Lib.hid (λh=>HNK.out (Yl hlq h));have HP:Hid (wA (hs.map RV.r) k q=(gQ xr yr&&aJe xr yr 0&&aJe yr xr 0)):=Lib.hid (by unfold wA;rw[HMk,HMq]);cases h3:gQ xr yr with
          |false=>
           have HV:=Lib.hid (HNQ.out (by rw[HP.out,h3];rfl))
           go_wp2_with fail
           refine(C4 xa xc xr ya yc yr _ (hx.1.below hbw) (hy.1.below hbw) hx.2 hy.2).mono ?_;rintro e w3 ⟨rfl,hbw3⟩;have hbz:=hbq.trans (hbw3.mono hbq.size);obtain⟨d0,d1',e1,e2⟩:=HC.out _ hbz
           go_wp2
           exact uS rfl (by simpa using(b2.then_ hbz).j8 0 (.bool aK)) (hKX _ hbz) ⟨by rw[HV.out],((hb.trans (hbz.mono hb.size)).setCell (p:=⟨w.heap.size+1,0,aM⟩) af _).trans (pp aC (hKX _ hbz))⟩
          |true=>
           go_wp2_with fail
           refine(C4 xa xc xr ya yc yr _ (hx.1.below hbw) (hy.1.below hbw) hx.2 hy.2).mono ?_;rintro e w3 ⟨rfl,hbw3⟩;have hbz:=hbq.trans (hbw3.mono hbq.size);have hbv3:=hbw.trans (hbw3.mono hbw.size);cases h4:aJe xr yr 0 with
           |false=>
            have HV:=Lib.hid (HNQ.out (by rw[HP.out,h3,h4];rfl))
            go_wp2_with fail
            refine(qB xa xc xr ya yc yr 0 _ (hy.1.below hbv3) hy.2 (hx.1.below hbv3) hx.2).mono ?_;rintro e w4 ⟨rfl,hbw4⟩;have hbz4:=hbz.trans (hbw4.mono hbz.size);obtain⟨d0,d1',e1,e2⟩:=HC.out _ hbz4
            go_wp2
            exact uS rfl (by simpa using(b2.then_ hbz4).j8 0 (.bool aK)) (hKX _ hbz4) ⟨by rw[HV.out],((hb.trans (hbz4.mono hb.size)).setCell (p:=⟨w.heap.size+1,0,aM⟩) af _).trans (pp aC (hKX _ hbz4))⟩
           |true=>
            go_wp2_with fail
            refine(qB xa xc xr ya yc yr 0 _ (hy.1.below hbv3) hy.2 (hx.1.below hbv3) hx.2).mono ?_;rintro e w4 ⟨rfl,hbw4⟩;have hbz4:=hbz.trans (hbw4.mono hbz.size);have hbv4:=hbv3.trans (hbw4.mono hbv3.size);cases h5:aJe yr xr 0 with
            |false=>
             have HV:=Lib.hid (HNQ.out (by rw[HP.out,h3,h4,h5];rfl))
             go_wp2_with fail
             refine(qB ya yc yr xa xc xr 0 _ (hx.1.below hbv4) hx.2 (hy.1.below hbv4) hy.2).mono ?_;rintro e w5 ⟨rfl,hbw5⟩;have hbz5:=hbz4.trans (hbw5.mono hbz4.size);obtain⟨d0,d1',e1,e2⟩:=HC.out _ hbz5
             go_wp2
             exact uS rfl (by simpa using(b2.then_ hbz5).j8 0 (.bool aK)) (hKX _ hbz5) ⟨by rw[HV.out],((hb.trans (hbz5.mono hb.size)).setCell (p:=⟨w.heap.size+1,0,aM⟩) af _).trans (pp aC (hKX _ hbz5))⟩
            |true=>
             have HQ2:Hid (∀i,i<q+1->wA (hs.map RV.r) k i=aE):=Lib.hid (λi hi=>by
              by_cases e:i=q
              .subst e;rw[HP.out,h3,h4,h5];rfl
              .exact HQ.out i aC)
             go_wp2_with fail
             refine(qB ya yc yr xa xc xr 0 _ (hx.1.below hbv4) hx.2 (hy.1.below hbv4) hy.2).mono ?_;rintro e w5 ⟨rfl,hbw5⟩;have hbz5:=hbz4.trans (hbw5.mono hbz4.size)
             go_wp2
             go_roundw
             case rel=>exact⟨q+1,aC,by go_num,HQ2,hbz5⟩
             case measure=>simp[intOf];omega
         .have HT2:Hid (∀i,i<k+1->oF o.r (hs.map RV.r) i=aE):=Lib.hid (λi hi=>by
           by_cases e:i=k
           .subst e;exact aAn jc jc (λj hj=>HQ.out j aC)
           .exact HT.out i aC)
          go_wp2
          go_roundw
          case rel=>exact⟨k+1,aC,by go_num,HT2,hbq⟩
          case measure=>simp[intOf];omega
     .have HV:=Lib.hid (HVA.out (λi hi=>HT.out i aC));obtain⟨d0,d1',e1,e2⟩:=HC.out _ hbr
      go_wp2
      exact uS rfl (by simpa using(b2.then_ hbr).j8 0 (.bool aE)) (hKT _ hbr) ⟨by rw[HV.out],((hb.trans (hbr.mono hb.size)).setCell (p:=⟨w.heap.size+1,0,aM⟩) af _).trans (pp aC (hKT _ hbr))⟩
end
section
open Go.RowKit Go.Shelf
attribute [local go_sem] B0
variable{W:World}{base size n:Nat}{v:Value}{xs:List Value}
def GE{W':World}{e:TypeId}{row:Option Nat}(h:W.ownsRow base e size v n xs)(hg:W.grownBy W' row)(hr:∀r,row=aD r->∃o:Obj,W.heap[r]? =aD o/\o.isCells=aK):W'.ownsRow base e size v n xs:=
 ⟨h.1,h.2.imp id λ⟨g,cap,cur,h1,h2,h3,h4⟩=>⟨g,cap,cur,h1,h2,(hg.block g aH (λe=>by obtain⟨o,ho,hc⟩:=hr g e.symm;rw[h3]at ho;cases ho;cases hc)).trans h3,h4⟩⟩
def aDm{β:Type}{B bx:Nat}{t:TypeId}{e:TypeId}{n:β->Nat}{xs:β->List Value}:OwnFrom B (λ(s:β) W=>∃v,Blk W bx t #[v]/\W.ownsRow base e size v (n s) (xs s)):=λs W W' row ⟨v,h1,h2⟩ hg hr=>
 ⟨v,qA (cs:=λ_:β=> #[v]) s W W' row h1 hg hr,GE h2 hg aH⟩
def MM{D:Nat}{e:TypeId}(h:W.ownsRow base e size v n xs)(hK:W.heap[D]? =aD (.deferred (aD [])))(o':Obj):(W.putObj D o').ownsRow base e size v n xs:=
 GE h (grownBy_putObj' W D o') (λr e=>by cases e;exact⟨_,hK,rfl⟩)
def PB{W':World}{e:TypeId}(h:W.ownsRow base e size v n xs)(hg:W.grownBy W' v.ownBlock):KeepsOthers W W':=
 KeepsOthers.of_grownBy hg (λj o hj ho=>by
  rcases h.2 with⟨h1,h2⟩|⟨g,cap,cur,h1,h2,h3,h4⟩
  .rw[h1]at hj;simp[FV]at hj
  .rw[h1]at hj;simp[FV]at hj;subst hj;rw[h3]at ho;cases ho;rfl)
def Gz{F:Fence}{P:Program}{fn:Func}{R:Ending->World->Prop}{D:Nat}{T:Array Value}{t:Tmp}(hf:fn.results= #[.tmp t])(hT:T.getD t undef=v)(hK:W.heap[D]? =aD (.deferred (aD [])))
  (hR:R (.returned v) (W.putObj D (.deferred aM))):bodyPostM F n P fn R .ret {tmps:=T,defers:=[{target:= .collected D,args:= #[]}]} W:=by
 refine NG (v:=v) rfl hK ?_ hR;rw[<-hT];simp[results,hf]
def aAq(xs:List S):∀u∈j6 xs,u.oneCell'=aE:=by intro u hu;obtain⟨v,_,hv⟩:=List.mem_flatMap.1 hu;simp only[bO,List.not_mem_nil,or_false]at hv;rcases hv with rfl|rfl|rfl|rfl<;>rfl
def Rd.grown{w w':World}{a:Option Addr}{cs:List Value}{row:Option Nat}{m:Nat}(h:Rd w a cs)(hF:kn m a)(hr:∀k,row=aD k->k<m)(hg:w.grownBy w' row):Rd w' a cs:=by intro i u hi;obtain⟨b,off,rfl,hb,hc⟩:=h i u hi;have hm:m<=b:=hF _ rfl;refine⟨b,off,rfl,y7 hb hg.size,(kc (a:=⟨b,off+i,aM⟩) (hg.block b hb ?_)).trans hc⟩;grind
def Rd.j8{w:World}{a:Option Addr}{cs:List Value}{m:Nat}{p:Addr}{u:Value}(h:Rd w a cs)(hF:kn m a)(hp:p.block<m):Rd (w.setCell p u) a cs:=by intro i v hi;obtain⟨b,off,rfl,hb,hc⟩:=h i v hi;have hm:m<=b:=hF _ rfl;exact⟨b,off,rfl,jc,(kc (a:=⟨b,off+i,aM⟩) (Below.heap_setCell w p u b aC)).trans hc⟩
def CG{e:TypeId}{p:Addr}{u:Value}(h:W.ownsRow base e size v n xs)(hp:p.block<base):(W.setCell p u).ownsRow base e size v n xs:=
 ⟨h.1,h.2.imp id λ⟨g,cap,cur,h1,h2,h3,h4⟩=>⟨g,cap,cur,h1,h2,(Below.heap_setCell W p u g aC).trans h3,h4⟩⟩
abbrev Mem(o:RV)(hs:List RV):={x:RV//x∈o::hs}
variable{hs:List RV}
def mO{o:RV}(pre:List (Mem o hs)):List S:=pre.flatMap λx=>aW x.1.r
def XE{o:RV}(pre:List (Mem o hs))(x:Mem o hs):mO (pre++[x])=mO pre++aW x.1.r:=by unfold mO;simp
def Yz{o:RV}(h:∀x∈o::hs,aA x.r<=1000)(pre:List (Mem o hs)):aA (mO pre)<=1000*aA pre:=by
 induction pre with
 |nil=>simp[mO]
 |cons x l ih=>
  have h2:=AJ x.1.r;unfold mO at*;grind
def Xo{o:RV}{xs:List (Mem o hs)}(h:xs.map (·.1)=o::hs):mO xs=ao (fT o hs):=by
 have e:mO xs=(xs.map (·.1)).flatMap λx=>aW x.r:=by unfold mO;rw[LZ]
 rw[e,h];unfold ao aR fT;simp[fw,LZ]
def Wf(o:RV)(ah:Option Addr)(ch:Nat)(hs:List RV)(w:World)(H:RdSh w o ah hs)(hn:aA hs<=900):
  Calls bi 131 #[.agg #[RV.enc o,.slice ah (aA hs) ch]] w λe w'=>∃v,e= .returned v/\w'.ownsRow w.heap.size 46 4 v (aA (ao (fT o hs))) (j6 (ao (fT o hs)))/\Below w.heap.size w w':=by
 refine(callsIn_wide (n:=9)).1 (callsIn_of_wp_marks Tryz.func131 rfl trivial ((wpIn_wide (n:=9)).2 ?_) rfl);simp only[Tryz.ntmps131,wv,iE,nI,zD,zE,zF,zG,zH,zI,tQ,k8];dsimp only[RV.enc]
 go_wp2_with fail
 refine(Cl o ah (aA hs) ch _).mono ?_;rintro e w1 ⟨rfl,rfl⟩
 go_wp2_with fail
 have B3:=(Blk.new (w.alloc (.cells #[.slice o.a (aA o.r) o.c,.slice ah (aA hs) ch] 26)) 32 #[.slice aM 0 0]).alloc (.cells #[RV.enc o,.slice ah (aA hs) ch] 26);have B4:=Blk.new ((w.alloc (.cells #[.slice o.a (aA o.r) o.c,.slice ah (aA hs) ch] 26)).alloc (.cells #[.slice aM 0 0] 32)) 26 #[RV.enc o,.slice ah (aA hs) ch];have hBW:Below w.heap.size w ((((w.alloc (.cells #[.slice o.a (aA o.r) o.c,.slice ah (aA hs) ch] 26)).alloc (.cells #[.slice aM 0 0] 32))).alloc (.cells #[RV.enc o,.slice ah (aA hs) ch] 26)):=(((Below.refl _ _).alloc (bR _) _).alloc af _).alloc eO _;have hs0:w.heap.size+3=((((w.alloc (.cells #[.slice o.a (aA o.r) o.c,.slice ah (aA hs) ch] 26)).alloc (.cells #[.slice aM 0 0] 32))).alloc (.cells #[RV.enc o,.slice ah (aA hs) ch] 26)).heap.size:=af;simp only[World.size_alloc]at B3 B4;generalize (((w.alloc (.cells #[.slice o.a (aA o.r) o.c,.slice ah (aA hs) ch] 26)).alloc (.cells #[.slice aM 0 0] 32))).alloc (.cells #[RV.enc o,.slice ah (aA hs) ch] 26)=W0 at B3 B4 hBW hs0|-;refine(wpIn_wide (n:=9)).1 ?_
 refine' wpIn_rangeFunc_ownF (F:=Fence.wide) (n:=9) rfl aC (gf:=178) (lb:= #[.pointer (aD ⟨w.heap.size+1+1,0,aM⟩)]) rfl trivial (enters_of Fk br rfl)
  (CA Fence.wide 8 trivial rfl aC (w.heap.size+1+1) w.heap.size o ah ch hs H.n W0 aC B4 (H.h.below hBW)) Kp2.trans (Ef aC aC) (Below.refl _ _) (λ_=>rfl)
  (λpre W=>(Blk W (w.heap.size+1+1) 26 #[RV.enc o,.slice ah (aA hs) ch]/\∃v,Blk W (w.heap.size+1) 32 #[v]/\W.ownsRow (w.heap.size+3) 46 4 v (aA (mO pre)) (j6 (mO pre)))/\(w.heap.size+3<=W.heap.size/\Below w.heap.size w W))
  (λc pre W=>False/\False)
  (OwnFrom.and (OwnFrom.and qA aDm) (OwnFrom.and (λs A B row h hg _=>cZ h hg.size) (ownFrom_below (bR _) aC)))
  (λc=>OwnFrom.and uU uU)
  ⟨⟨B4,_,B3,Lk _ _ _ _⟩,aC,hBW⟩ _ ?assign ?body ?done ?stop
 case assign=>
  intro l x W K hK
  gi_wp2
  exact hK
 case stop=>
  grind
 case done=>
  rintro D xs W hD hxs ⟨⟨b4,v,b3,hrow⟩,_,hb⟩ hK;have c3:=b3.cell 0;have hD2:w.heap.size<=D:=aC;rw[Xo hxs]at hrow
  go_wp2
  exact Gz (v:=v) rfl rfl hK ⟨v,rfl,MN (MM hrow hK _) aC,hb.trans (pp hD2 hK)⟩
 case body=>
  rintro l pre ⟨⟨xa,xc,xr⟩,hxm⟩ W ⟨⟨b4,u3,b3,hrow⟩,hsz,hb⟩ hlen;obtain⟨hxr,hxl⟩:=H.v _ hxm;dsimp only at hxr hxl;have hxn:aA xr<=1000:=hxl.1;have HE:Hid (mO (pre++[(⟨⟨xa,xc,xr⟩,hxm⟩:Mem o hs)])=mO pre++aW xr):=Lib.hid (XE _ _);have hle:=Yz (λx hx=>(H.v x hx).2.1) pre;have hle2:=AJ xr;have hsz2:aA (mO pre)+aA (aW xr)<=1000000:=aC;rw[show(w.heap.size+3)=w.heap.size+3 from rfl]at hrow;generalize mO pre=E at HE hrow hsz2;clear hle hle2 B3 B4 hBW hs0;refine wpIn_block ?_;dsimp only[RV.enc];refine Fu br br [8,9,10,11] [[],[],[1],[0,1,2],[0,1,2,3]] br br jc
   (WR3 3 4 (λwx=>Below W.heap.size W wx) (λwx=>Blk wx (w.heap.size+1) 32 #[u3]/\Blk wx (w.heap.size+1+1) 26 #[RV.enc o,.slice ah (aA hs) ch]/\Below w.heap.size w wx/\KeepsOthers W wx/\Below w.heap.size W wx/\w.heap.size+3<=wx.heap.size) (λwx=>∃v,Blk wx (w.heap.size+1) 32 #[v]/\wx.ownsRow (w.heap.size+3) 46 4 v (aA E+aA (aW xr)) (j6 (E++aW xr))/\Blk wx (w.heap.size+1+1) 26 #[RV.enc o,.slice ah (aA hs) ch]/\Below w.heap.size w wx/\KeepsOthers W wx/\Below w.heap.size W wx/\w.heap.size+3<=wx.heap.size))
   (λi v wx=>match i with
     |0=>v=u3
     |1=>v= .slice xa (aA xr) xc
     |2=>∃a c,v= .slice a (aA (aW xr)) c/\Rd wx a (j6 (aW xr))/\(a=aM->c=0)/\kn W.heap.size a
     |3=>wx.ownsRow (w.heap.size+3) 46 4 v (aA E+aA (aW xr)) (j6 (E++aW xr))
     |4=>True
     |_=>True)
   (WR3.start (Below.refl _ _).drew) ?_ ?_ ?_
  .intro j v wx wy hf hxy;match j with
   |0=>exact hf
   |1=>exact hf
   |2=>obtain⟨a,c,h1,h2,h3⟩:=hf;exact⟨a,c,h1,h2.below hxy,h3⟩
   |3=>exact w8 hf hxy
   |4=>exact hf
   |_+5=>exact trivial
  .refine⟨?_,?_,?_,?_,?_,trivial⟩
   .intro D V wx hD hanc hdesc hin hWR;have hA:=hWR.lo (hdesc 3 br) (hdesc 4 br);have e3:=hin 3 br;have q0:=(Blk.then_ b3 hA).cell 0;refine opK ?_;intro K hK;simp[cv,execOp,bj,e3,q0,go_sem];exact hK _ _ ⟨rfl,(hWR.keep bg bg),.inl rfl⟩
   .intro D V wx hD hanc hdesc hin hWR;have e4:=hin 4 br;refine opK ?_;intro K hK;simp[cv,execOp,bj,e4,go_sem];exact hK _ _ ⟨rfl,(hWR.keep bg bg),.inl rfl⟩
   .intro D V wx hD hanc hdesc hin hWR;have hA:=hWR.lo (hdesc 3 br) (hdesc 4 br);have e9:V 9= .slice xa (aA xr) xc:=(hanc 1 br).2;refine opK ?_;intro K hK;simp[cv,execOp,bj,e9,go_sem];refine(aAA xa xc xr _ (hxr.below (hb.trans (hA.mono hb.size))) hxl).mono ?_;rintro e w1 ⟨a,c,rfl,hR,hF,hN,hc⟩;exact⟨_,rfl,hK _ _ ⟨⟨a,c,rfl,hR,hN,hF.mono hA.size⟩,(.mkLo (hdesc 3 br) (hdesc 4 br) bg bg (Below.then_ hA hc)),.inr (.inl hc)⟩⟩
   .intro D V wx hD hanc hdesc hin hWR;have hA:=hWR.lo hD (hdesc 4 br);have e8:V 8=u3:=(hanc 0 br).2;have e10:=(hanc 2 br).2;refine opK ?_;intro K hK;obtain⟨a,c,e10,hR,hN,hF⟩:=e10;refine G3 (.tmp 8) (.tmp 10) 32 rfl (w.heap.size+3) 46 (.agg #[.int .i64 0,.int .i64 0,.int .i64 0,.int .i64 0]) 4 32 Tryz.underlying32 br rfl bg u3 _ _ e8 (w8 hrow hA) _ _ _ (j6 (aW xr)) e10 (MS _) hR hN (aAq _) aC aC (by have:=hA.size;omega) ?_;intro v' w' h1 h2 h3 h4;have hbx:=(Blk.then_ b3 hA);have hbr:=(Blk.then_ b4 hA);have hro:=w8 hrow hA;refine hK _ _ ⟨by rw[XD];exact h1,.mkMid (hdesc 4 br) bg ⟨zV h3 hbx (C8 hro aC),zV h3 hbr (C8 hro aC),(hb.trans (hA.mono hb.size)).trans (h2.mono aC),(CH hA).trans (PB hro h3),((Below.refl w.heap.size W).trans (hA.mono hb.size)).trans (h2.mono aC),by have:=hA.size;have:=h2.size;omega⟩,.inr (.inr ?_)⟩;intro j hj hf;match j with
    |0=>exact hf
    |1=>exact hf
    |2=>obtain⟨a,c,g1,g2,g3,g4⟩:=hf;exact⟨a,c,g1,g2.grown g4 (λk hk=>(tX hrow k hk).2) h3,g3,g4⟩
    |3=>grind
    |4=>omega
    |_+5=>exact trivial
   .intro D V wx hD hanc hdesc hin hWR;have hB:=hWR.mid (hanc 3 br).1 hD;have e3:=hin 3 br;have e11:=(hanc 3 br).2;refine opK ?_;intro K hK;have q0:=hB.1.cell 0;have f0:=hB.1.frozen 0;have e11:wx.ownsRow (w.heap.size+3) 46 4 (V 11) (aA E+aA (aW xr)) (j6 (E++aW xr)):=e11;obtain⟨ra,rc,hv11,_,_,_⟩:=Rd.Jk e11;rw[hv11]at e11;simp[cv,execOp,bj,e3,hv11,q0,f0,go_sem];refine hK _ _ ⟨trivial,.mkHi ⟨_,by simpa using hB.1.j8 0 (.slice ra (aA E+aA (aW xr)) rc),CG e11 aH,hB.2.1.far af _,hB.2.2.1.setCell (p:=⟨w.heap.size+1,0,aM⟩) af _,hB.2.2.2.1.trans (KeepsOthers.setCell _ _ _),hB.2.2.2.2.1.setCell (p:=⟨w.heap.size+1,0,aM⟩) af _,by simpa using hB.2.2.2.2.2⟩,.inr (.inr ?_)⟩;intro j hj hf;match j with
    |0=>exact hf
    |1=>exact hf
    |2=>obtain⟨a,c,g1,g2,g3,g4⟩:=hf;exact⟨a,c,g1,g2.j8 g4 b3.lt,g3,g4⟩
    |3=>exact CG hf aH
    |4=>omega
    |_+5=>exact trivial
  intro D V wx hall hf hWR;replace hWR:=hWR.hi aH;have f0:V 8=u3:=hf 0 bg;have f1:V 9= .slice xa (aA xr) xc:=hf 1 bg;simp only[lM,Ba,List.foldl_nil,f0,f1];obtain⟨v',k1,k2,k3,k4,k5,k6,k7⟩:=hWR;refine⟨k5,⟨k6,Eq.trans k3 (Eq.symm b4)⟩,⟨k3,v',k1,?_⟩,k7,k4⟩;rw[HE.out,eR];exact k2
end
def Vn:Con:=FD (a1 (aL .V)) (λl=>[0<aA l,aA l<=1000]) 44 .V (λl=>l) ae
def Vf:Vn.Okz 125:=JN (qO Er.o) (raw:=wC) ae (λ_=>⟨[],rfl⟩) λl hp=>bD (aO ([] :List V) λA=>aO (aA (A++l)) λB=>(0:Nat)<(aA l)/\(aA A)+aA l<=1000000/\A++l=l/\B=B) (by change 0<(aA l)/\(aA l)<=1000 at hp;exact⟨hp.1,eO,rfl,rfl⟩)
section
open Go.RowKit Go.Shelf
attribute [local go_sem] B0
def aAP(a:Option Addr)(c:Nat)(xs:List aI8)(w:World)(h:RdV w a xs)(h0:0<aA xs)(hl:Len ⟨a,c,xs⟩):
  Calls bi 125 #[.slice a (aA xs) c] w λe w'=>∃a' c',e= .returned (.slice a' (aA xs) c')/\Rd w' a' (nC xs)/\kn w.heap.size a'/\(a'=aM->c'=0)/\(aA xs)<=c'/\Below w.heap.size w w':=by
 have e1:nC xs=(xs.flatMap λv=>[v.x,v.y]).map (dN .i64):=by unfold nC;rw[Lt];rfl
 rw[e1];exact RX (t:= .V) (l:=xs) (n:=xs.flatMap λv=>[v.x,v.y]) (by unfold LT.enc;rw[Lt];rfl) h hl (Vf [.lst .V xs] xs rfl ((lI (l:=Vn.pre xs)).1 ⟨h0,hl.1⟩))
variable{a:Option Addr}{xs:List aI8}
def RdV.grown{w w':World}{row:Option Nat}(h:RdV w a xs)(hr:0<aA xs->∀b,a=aD b->row≠aD b.block)(hg:w.grownBy w' row):RdV w' a xs:=by intro i hi;obtain⟨b,off,rfl,hb,h0,h1⟩:=h i hi;have e:=hg.block b hb (λe=>hr aC _ rfl e.symm);exact⟨b,off,rfl,y7 hb hg.size,(kc (a:=⟨b,_,aM⟩) e).trans h0,(kc (a:=⟨b,_,aM⟩) e).trans h1⟩
def RdV.j8{w:World}{p:Addr}{u:Value}(h:RdV w a xs)(hp:0<aA xs->∀b,a=aD b->p.block≠b.block):RdV (w.setCell p u) a xs:=by intro i hi;obtain⟨b,off,rfl,hb,h0,h1⟩:=h i hi;have e:=Below.heap_setCell w p u b (λe=>hp aC _ rfl aH);exact⟨b,off,rfl,aH,(kc (a:=⟨b,_,aM⟩) e).trans h0,(kc (a:=⟨b,_,aM⟩) e).trans h1⟩
def RdV.own{W W':World}{row:Option Nat}(h:RdV W a xs)(hg:W.grownBy W' row)(hr:∀r,row=aD r->∃o:Obj,W.heap[r]? =aD o/\o.isCells=aK):RdV W' a xs:=by intro i hi;obtain⟨b,off,rfl,hb,h0,h1⟩:=h i hi;exact⟨b,off,rfl,y7 hb hg.size,cell_kept h0 hg hr,cell_kept h1 hg hr⟩
def RdV.lt{w:World}(h:RdV w a xs)(h0:0<aA xs):∀b,a=aD b->b.block<w.heap.size:=by intro b e;obtain⟨b',off,he,hb,_⟩:=h 0 h0;grind
structure RingOk(base:Nat)(w:World)(v:Value)(x:RV):Prop where
 rd:RdV w x.a x.r
 fresh:kn base x.a
 cap:aA x.r<=x.c
 len:aA x.r<=1000
 sep:0<aA x.r->∀b,x.a=aD b->v.ownBlock≠aD b.block
structure Rings(base bx:Nat)(w:World)(v:Value)(rs:List RV):Prop where
 box:Blk w bx 24 #[v]
 row:w.ownsRow base 23 1 v (aA rs) (rs.map RV.enc)
 ok:∀x∈rs,RingOk base w v x
def Zm{β:Type}{B base bx:Nat}{p:β->List RV->Prop}:OwnFrom B (λ(s:β) W=>∃v rs,Rings base bx W v rs/\p s rs):=λs W W' row ⟨v,rs,h,hp⟩ hg hr=>
 ⟨v,rs,⟨qA (cs:=λ_:β=> #[v]) s W W' row h.box hg hr,GE h.row hg (λr e=>(hr r e).2),λx hx=>⟨(h.ok x hx).rd.own hg (λr e=>(hr r e).2),(h.ok x hx).fresh,(h.ok x hx).cap,(h.ok x hx).len,(h.ok x hx).sep⟩⟩,hp⟩
def We(o:RV)(ah:Option Addr)(ch:Nat)(hs:List RV)(w:World)(H:RdSh w o ah hs)(hp0:∀x∈o::hs,0<aA x.r):
  Calls bi 57 #[.agg #[RV.enc o,.slice ah (aA hs) ch]] w λe w'=>∃(v:Value) (rs:List RV),e= .returned v/\rs.map RV.r=aR (fT o hs)/\w'.ownsRow w.heap.size 23 1 v (aA rs) (rs.map RV.enc)/\(∀x∈rs,RingOk w.heap.size w' v x)/\Below w.heap.size w w':=by
 refine(callsIn_wide (n:=9)).1 (callsIn_of_wp_marks Tryz.func57 rfl trivial ((wpIn_wide (n:=9)).2 ?_) rfl);simp only[Tryz.ntmps57,wv,iE,nI,zD,zE,zF,zG,zH,zI,tQ,k8];dsimp only[RV.enc]
 go_wp2_with fail
 refine(Cl o ah (aA hs) ch _).mono ?_;rintro e w1 ⟨rfl,rfl⟩
 go_wp2_with fail
 have B3:=(Blk.new (w.alloc (.cells #[.slice o.a (aA o.r) o.c,.slice ah (aA hs) ch] 26)) 24 #[.slice aM 0 0]).alloc (.cells #[RV.enc o,.slice ah (aA hs) ch] 26);have B4:=Blk.new ((w.alloc (.cells #[.slice o.a (aA o.r) o.c,.slice ah (aA hs) ch] 26)).alloc (.cells #[.slice aM 0 0] 24)) 26 #[RV.enc o,.slice ah (aA hs) ch];have hBW:Below w.heap.size w ((((w.alloc (.cells #[.slice o.a (aA o.r) o.c,.slice ah (aA hs) ch] 26)).alloc (.cells #[.slice aM 0 0] 24))).alloc (.cells #[RV.enc o,.slice ah (aA hs) ch] 26)):=(((Below.refl _ _).alloc (bR _) _).alloc af _).alloc eO _;have hs0:w.heap.size+3=((((w.alloc (.cells #[.slice o.a (aA o.r) o.c,.slice ah (aA hs) ch] 26)).alloc (.cells #[.slice aM 0 0] 24))).alloc (.cells #[RV.enc o,.slice ah (aA hs) ch] 26)).heap.size:=af;simp only[World.size_alloc]at B3 B4;generalize (((w.alloc (.cells #[.slice o.a (aA o.r) o.c,.slice ah (aA hs) ch] 26)).alloc (.cells #[.slice aM 0 0] 24))).alloc (.cells #[RV.enc o,.slice ah (aA hs) ch] 26)=W0 at B3 B4 hBW hs0|-;refine(wpIn_wide (n:=9)).1 ?_
 refine' wpIn_rangeFunc_ownF (F:=Fence.wide) (n:=9) rfl aC (gf:=178) (lb:= #[.pointer (aD ⟨w.heap.size+1+1,0,aM⟩)]) rfl trivial (enters_of Fk br rfl)
  (CA Fence.wide 8 trivial rfl aC (w.heap.size+1+1) w.heap.size o ah ch hs H.n W0 aC B4 (H.h.below hBW)) Kp2.trans (Ef aC aC) (Below.refl _ _) (λ_=>rfl)
  (λpre W=>(Blk W (w.heap.size+1+1) 26 #[RV.enc o,.slice ah (aA hs) ch]/\∃v rs,Rings (w.heap.size+3) (w.heap.size+1) W v rs/\rs.map RV.r=pre.map λx=>x.1.r)/\(w.heap.size+3<=W.heap.size/\Below w.heap.size w W))
  (λc pre W=>False/\False)
  (OwnFrom.and (OwnFrom.and qA Zm) (OwnFrom.and (λs A B row h hg _=>cZ h hg.size) (ownFrom_below (bR _) aC)))
  (λc=>OwnFrom.and uU uU)
  ⟨⟨B4,_,[],⟨B3,Lk _ _ _ _,λx hx=>by cases hx⟩,rfl⟩,aC,hBW⟩ _ ?assign ?body ?done ?stop
 case assign=>
  intro l x W K hK;dsimp only[RV.enc]
  gi_wp2
  exact hK
 case stop=>
  grind
 case done=>
  rintro D xs W hD hxs ⟨⟨b4,v,rs,hR,hm⟩,_,hb⟩ hK;have c3:=hR.box.cell 0;simp at c3;have hD2:w.heap.size<=D:=aC;have hm2:rs.map RV.r=aR (fT o hs):=by
   have e:(xs.map λx=>x.1.r)=(xs.map (·.1)).map RV.r:=by rw[du];rfl
   rw[hm,e,hxs];rfl
  clear hxs b4 B3 B4 hBW hs0 hD hm;have hmk:∀x∈rs,RingOk w.heap.size (W.putObj D (.deferred aM)) v x:=λx hx=>⟨(hR.ok x hx).rd.own (grownBy_putObj' W D _) (λr e=>by cases e;exact⟨_,hK,rfl⟩),(hR.ok x hx).fresh.mono aC,(hR.ok x hx).cap,(hR.ok x hx).len,(hR.ok x hx).sep⟩;have hrow:=hR.row;clear hR
  go_wp2
  exact Gz (v:=v) rfl rfl hK ⟨v,rs,rfl,hm2,MN (MM hrow hK _) aC,hmk,hb.trans (pp hD2 hK)⟩
 case body=>
  rintro l pre ⟨⟨xa,xc,xr⟩,hxm⟩ W ⟨⟨b4,u3,rs,hR,hm⟩,hsz,hb⟩ hlen;obtain⟨hxr,hxl⟩:=H.v _ hxm;dsimp only at hxr hxl;have hxn:aA xr<=1000:=hxl.1;have hrl:aA rs<=1001:=by have h1:=congrArg aA hm;have h2:=H.n;simp at h1;omega
  have HE:Hid (∀rs':List RV,rs'.map RV.r=rs.map RV.r++[xr]->rs'.map RV.r=(pre++[(⟨⟨xa,xc,xr⟩,hxm⟩:Mem o hs)]).map λx=>x.1.r):=Lib.hid (λrs' h=>aH);have b3:=hR.box;have hrow:=hR.row;clear hm B3 B4 hBW hs0;refine wpIn_block ?_;dsimp only[RV.enc];refine Fu br br [8,9,10,11,12] [[],[],[1],[1,2],[0,1,2,3],[0,1,2,3,4]] br br jc
   (WR3 4 5 (λwx=>Below W.heap.size W wx) (λwx=>(∀x∈rs,RdV wx x.a x.r)/\Blk wx (w.heap.size+1) 24 #[u3]/\Blk wx (w.heap.size+1+1) 26 #[RV.enc o,.slice ah (aA hs) ch]/\Below w.heap.size w wx/\KeepsOthers W wx/\Below w.heap.size W wx/\w.heap.size+3<=wx.heap.size) (λwx=>∃v rs',Rings (w.heap.size+3) (w.heap.size+1) wx v rs'/\rs'.map RV.r=rs.map RV.r++[xr]/\Blk wx (w.heap.size+1+1) 26 #[RV.enc o,.slice ah (aA hs) ch]/\Below w.heap.size w wx/\KeepsOthers W wx/\Below w.heap.size W wx/\w.heap.size+3<=wx.heap.size))
   (λi v wx=>match i with
     |0=>v=u3
     |1=>v= .slice xa (aA xr) xc
     |2=>∃a c,v= .slice a (aA xr) c/\RdV wx a xr/\kn W.heap.size a/\(aA xr)<=c
     |3=>∃a c g,v= .slice (aD ⟨g,0,aM⟩) 1 1/\Blk wx g 23 #[.slice a (aA xr) c]/\W.heap.size<=g/\RdV wx a xr/\kn W.heap.size a/\(aA xr)<=c
     |4=>∃a c,wx.ownsRow (w.heap.size+3) 23 1 v (aA rs+1) (rs.map RV.enc++[.slice a (aA xr) c])/\RdV wx a xr/\kn W.heap.size a/\(aA xr)<=c/\(∀k,v.ownBlock=aD k->u3.ownBlock=aD k\/W.heap.size<=k)/\(0<aA xr->∀b,a=aD b->v.ownBlock≠aD b.block)
     |5=>True
     |_=>True)
   (WR3.start (Below.refl _ _).drew) ?_ ?_ ?_
  .intro j v wx wy hf hxy;match j with
   |0=>exact hf
   |1=>exact hf
   |2=>obtain⟨a,c,h1,h2,h3⟩:=hf;exact⟨a,c,h1,h2.below hxy,h3⟩
   |3=>obtain⟨a,c,g,h1,h2,h3,h4,h5⟩:=hf;exact⟨a,c,g,h1,h2.then_ hxy,h3,h4.below hxy,h5⟩
   |4=>obtain⟨a,c,h1,h2,h3⟩:=hf;exact⟨a,c,w8 h1 hxy,h2.below hxy,h3⟩
   |5=>exact hf
   |_+6=>exact trivial
  .refine⟨?_,?_,?_,?_,?_,?_,trivial⟩
   .intro D V wx hD hanc hdesc hin hWR;have hA:=hWR.lo (hdesc 4 br) (hdesc 5 br);have e3:=hin 3 br;simp at e3;have q0:=(Blk.then_ b3 hA).cell 0;simp at q0;refine opK ?_;intro K hK;simp[cv,execOp,bj,e3,q0,go_sem];exact hK _ _ ⟨rfl,(hWR.keep bg bg),.inl rfl⟩
   .intro D V wx hD hanc hdesc hin hWR;have hA:=hWR.lo (hdesc 4 br) (hdesc 5 br);have e4:=hin 4 br;simp at e4;refine opK ?_;intro K hK;simp[cv,execOp,bj,e4,go_sem];exact hK _ _ ⟨rfl,(hWR.keep bg bg),.inl rfl⟩
   .intro D V wx hD hanc hdesc hin hWR;have hA:=hWR.lo (hdesc 4 br) (hdesc 5 br);have e9:V 9= .slice xa (aA xr) xc:=(hanc 1 br).2;refine opK ?_;intro K hK;simp[cv,execOp,bj,e9,go_sem];refine(aAP xa xc xr _ (hxr.below (hb.trans (hA.mono hb.size))) (hp0 _ hxm) hxl).mono ?_;rintro e w1 ⟨a,c,rfl,hR',hF,hN,hC,hc⟩;exact⟨_,rfl,hK _ _ ⟨⟨a,c,rfl,RdV.aFz hR',hF.mono hA.size,hC⟩,(.mkLo (hdesc 4 br) (hdesc 5 br) bg bg (Below.then_ hA hc)),.inr (.inl hc)⟩⟩
   .intro D V wx hD hanc hdesc hin hWR;have hA:=hWR.lo (hdesc 4 br) (hdesc 5 br);have e10:=(hanc 2 br).2;refine opK ?_;intro K hK;obtain⟨a,c,e10,r1,r2,r3⟩:=e10;have e10:V 10=_:=e10;simp[cv,execOp,bj,e10,go_sem];refine hK _ _ ⟨⟨a,c,_,rfl,Blk.new _ _ _,hA.size,r1.below ((Below.refl _ _).alloc (bR _) _),r2,r3⟩,(.mkLo (hdesc 4 br) (hdesc 5 br) bg bg (hA.alloc hA.size _)),.inr (.inl ((Below.refl _ _).alloc (bR _) _))⟩
   .intro D V wx hD hanc hdesc hin hWR;have hA:=hWR.lo hD (hdesc 5 br);have e8:V 8=u3:=(hanc 0 br).2;have e11:=(hanc 3 br).2;refine opK ?_;intro K hK;obtain⟨a,c,g,e11,k1,k2,k3,k4,k5⟩:=e11;have e11:V 11=_:=e11;refine G3 (.tmp 8) (.tmp 11) 24 rfl (w.heap.size+3) 23 (.slice aM 0 0) 1 24 Fl br rfl bg u3 _ _ e8 (w8 hrow hA) _ _ _ [.slice a (aA xr) c] e11 rfl (Rd.aEX k1) (λh=>by cases h) (by intro u hu;simp at hu;subst hu;rfl) aC aC (by have:=hA.size;omega) ?_;intro v' w' h1 h2 h3 h4;have hbx:=(Blk.then_ b3 hA);have hbr:=(Blk.then_ b4 hA);have hro:=w8 hrow hA;have hlt:=k3.lt;refine hK _ _ ⟨⟨a,c,h1,k3.grown (λ_ b hb e=>by have:=k4 b hb;have:=(tX hrow _ e).2;omega) h3,k4,k5,(λk hk=>(h4 k hk).imp id (λh=>cZ hA.size h)),(λh0 b hb e=>by have:=hlt h0 b hb;have:=k4 b hb;rcases h4 _ e with h|h<;>first|omega|(have:=(tX hrow _ h).2;omega))⟩,.mkMid (hdesc 5 br) bg ⟨(λx hx=>((hR.ok x hx).rd.below hA).grown (hR.ok x hx).sep h3),zV h3 hbx (C8 hro aC),zV h3 hbr (C8 hro aC),(hb.trans (hA.mono hb.size)).trans (h2.mono aC),(CH hA).trans (PB hro h3),((Below.refl w.heap.size W).trans (hA.mono hb.size)).trans (h2.mono aC),by have:=hA.size;have:=h2.size;omega⟩,.inr (.inr ?_)⟩;intro j hj hf;match j with
    |0=>exact hf
    |1=>exact hf
    |2=>obtain⟨a,c,g1,g2,g3,g4⟩:=hf;exact⟨a,c,g1,g2.grown (λ_ b hb e=>by have:=g3 b hb;have:=(tX hrow _ e).2;omega) h3,g3,g4⟩
    |3=>obtain⟨a,c,g,g1,g2,g5,g6,g3,g4⟩:=hf;exact⟨a,c,g,g1,zV h3 g2 (λe=>by have:=(tX hrow _ e).2;omega),g5,g6.grown (λ_ b hb e=>by have:=g3 b hb;have:=(tX hrow _ e).2;omega) h3,g3,g4⟩
    |4=>grind
    |5=>omega
    |_+6=>exact trivial
   .intro D V wx hD hanc hdesc hin hWR;have hB:=hWR.mid (hanc 4 br).1 hD;have e3:=hin 3 br;simp at e3;have e12:=(hanc 4 br).2;refine opK ?_;intro K hK;have q0:=hB.2.1.cell 0;have f0:=hB.2.1.frozen 0;simp at q0;obtain⟨a,c,e12,k2,k3,k4,k5,k6⟩:=e12;have e12:wx.ownsRow (w.heap.size+3) 23 1 (V 12) (aA rs+1) (rs.map RV.enc++[.slice a (aA xr) c]):=e12;have e3:V 3=_:=e3;have k5:∀k,(V 12).ownBlock=aD k->_:=k5;have k6:0<aA xr->∀b,a=aD b->(V 12).ownBlock≠aD b.block:=k6;obtain⟨ra,rc,hv,_,_,_⟩:=Rd.Jk e12;rw[hv]at e12 k5 k6;simp[cv,execOp,bj,e3,hv,q0,f0,go_sem];have HRK:∀x∈rs++[(⟨a,c,xr⟩:RV)],RingOk (w.heap.size+3) (wx.setCell ⟨w.heap.size+1,0,aM⟩ (.slice ra (aA rs+1) rc)) (.slice ra (aA rs+1) rc) x:=by
     intro x hx;rcases bz.1 hx with h|h
     .have ok:=hR.ok x h;refine⟨(hB.1 x h).j8 (λ_ b hb=>by have:=ok.fresh b hb;grind),ok.fresh,ok.cap,ok.len,λh0 b hb e=> ?_⟩;rcases k5 _ e with e2|e2
      .exact ok.sep h0 b hb e2
      .have:=ok.rd.lt h0 b hb;omega
     .simp at h;subst h;exact⟨k2.j8 (λ_ b hb=>by have:=k3 b hb;grind),k3.mono hsz,k4,hxn,k6⟩
    refine hK _ _ ⟨trivial,.mkHi ⟨_,rs++[⟨a,c,xr⟩],⟨by simpa using hB.2.1.j8 0 (.slice ra (aA rs+1) rc),by simpa[RV.enc]using CG e12 aH,HRK⟩,af,hB.2.2.1.far af _,hB.2.2.2.1.setCell (p:=⟨w.heap.size+1,0,aM⟩) af _,hB.2.2.2.2.1.trans (KeepsOthers.setCell _ _ _),hB.2.2.2.2.2.1.setCell (p:=⟨w.heap.size+1,0,aM⟩) af _,by simpa using hB.2.2.2.2.2.2⟩,.inr (.inr ?_)⟩;intro j hj hf;match j with
    |0=>exact hf
    |1=>exact hf
    |2=>obtain⟨a,c,g1,g2,g3,g4⟩:=hf;exact⟨a,c,g1,g2.j8 (λ_ b hb=>by have:=g3 b hb;grind),g3,g4⟩
    |3=>obtain⟨a,c,g,g1,g2,g5,g6,g3,g4⟩:=hf;exact⟨a,c,g,g1,g2.far aH _,g5,g6.j8 (λ_ b hb=>by have:=g3 b hb;grind),g3,g4⟩
    |4=>obtain⟨a,c,g1,g2,g3,g4,g5,g6⟩:=hf;exact⟨a,c,CG g1 aH,g2.j8 (λ_ b hb=>by have:=g3 b hb;grind),g3,g4,g5,g6⟩
    |5=>omega
    |_+6=>exact trivial
  intro D V wx hall hf hWR;replace hWR:=hWR.hi (hall 5 bg);have f0:V 8=u3:=hf 0 bg;have f1:V 9= .slice xa (aA xr) xc:=hf 1 bg;have f2:=hf 2 bg;have f3:=hf 3 bg;have f4:=hf 4 bg;clear hf hall;simp only[lM,Ba,List.foldl_nil,f0,f1];simp only[Act.put,List.setIfInBounds_toArray,List.set_cons_succ,List.set_cons_zero];clear f0 f1;obtain⟨v',rs',k1,k2,k3,k4,k5,k6,k7⟩:=hWR;exact⟨k5,⟨k6,Eq.trans k3 (Eq.symm b4)⟩,⟨k3,v',rs',k1,HE.out _ k2⟩,k7,k4⟩
end
section
open Go.RowKit Go.Shelf
attribute [local go_sem] B0
def jZ(s:Shape):Int:=area s.outer-(s.holes.map area).sum
def Du{xs:List aI8}(h:dC xs=aE): -8000000000<=area xs/\area xs<=8000000000:=by have V:=(ig xs).1 h;have h:=wJ V.near (aA xs) (bR _);have e:ar xs (aA xs)=area xs:=rfl;have:=V.most;omega
variable{hs:List RV}
def lK{o:RV}(pre:List (Mem o hs)):Int:=(pre.map λx=>area x.1.r).sum
def XI{o:RV}(pre:List (Mem o hs))(x:Mem o hs):lK (pre++[x])=lK pre+area x.1.r:=by unfold lK;simp
def ZC{o:RV}(hv:∀x∈o::hs,dC x.r=aE)(pre:List (Mem o hs)): -(8000000000*(aA pre:Int))<=lK pre/\lK pre<=8000000000*(aA pre:Int):=by
 induction pre with
 |nil=>simp[lK]
 |cons x l ih=>
  have:=Du (hv x.1 x.2);unfold lK at*;grind
def Xz{o:RV}{xs:List (Mem o hs)}(h:xs.map (·.1)=o::hs):area o.r*2-lK xs=jZ (fT o hs):=by
 have e:(xs.map λx=>area x.1.r)=(xs.map (·.1)).map λx=>area x.r:=by rw[du];rfl
 unfold lK jZ fT;rw[e,h];simp only[dU,List.sum_cons,du,Function.comp_def];omega
def Wx{s:Shape}(h:bL s=aE):∀r∈aR s,dC r=aE:=by rw[zS]at h;grind
def Wm(o:RV)(ah:Option Addr)(ch:Nat)(hs:List RV)(w:World)(H:RdSh w o ah hs)(hch:aA hs<=ch):
  Calls bi 89 #[.agg #[RV.enc o,.slice ah (aA hs) ch]] w λe w'=>e= .returned (.int .i64 (if bL (fT o hs)then jZ (fT o hs)else 0))/\Below w.heap.size w w':=by
 have HB0:=Blk.new w 26 #[RV.enc o,.slice ah (aA hs) ch];have hB0:Below w.heap.size w (w.alloc (.cells #[RV.enc o,.slice ah (aA hs) ch] 26)):=(Below.refl _ _).alloc (bR _) _;cases hv:bL (fT o hs)with
 |false=>
  refine(callsIn_wide (n:=9)).1 (callsIn_of_wp_marks Tryz.func89 rfl trivial ((wpIn_wide (n:=9)).2 ?_) rfl);simp only[Tryz.ntmps89,wv,iE,nI,zD,zE,zF,zG,zH,zI,tQ,k8]
  go_wp2_with fail
  refine(Fs o ah ch hs _ (H.below hB0) hch).mono ?_;rintro e w1 ⟨rfl,hb1⟩
  go_wp2_with fail
  exact NH (v:= .int .i64 0) (by simp[results,Tryz.f89]) rfl ⟨rfl,hB0.trans (hb1.mono hB0.size)⟩
 |true=>
  have hval:∀x∈o::hs,dC x.r=aE:=λx hx=>Wx hv x.r (by unfold aR fT;grind)
  have hAO:=Du (hval o cR);have hAO2:(if dC o.r then area o.r else 0)=area o.r:=by rw[hval o aH];rfl
  refine(callsIn_wide (n:=9)).1 (callsIn_of_wp_marks Tryz.func89 rfl trivial ((wpIn_wide (n:=9)).2 ?_) rfl);simp only[Tryz.ntmps89,wv,iE,nI,zD,zE,zF,zG,zH,zI,tQ,k8]
  go_wp2_with fail
  refine(Fs o ah ch hs _ (H.below hB0) hch).mono ?_;rintro e w1 ⟨rfl,hb1⟩;rw[hv];have B1:=HB0.then_ hb1;have hB1:=hB0.trans (hb1.mono hB0.size);have hsz1:w.heap.size+1<=w1.heap.size:=by simpa using hb1.size
  clear HB0 hB0 hb1;have c0:=B1.cell 0;have c1:=B1.cell 1;simp at c0 c1
  go_wp2_with fail
  refine(PA o.a o.c o.r _ ((H.v o aH).1.below hB1) (H.v o aH).2).mono ?_;rintro e w2 ⟨rfl,hb2⟩;rw[hAO2];have B2:=B1.then_ hb2;have hB2:=hB1.trans (hb2.mono hB1.size);have hsz2:w.heap.size+1<=w2.heap.size:=cZ hsz1 hb2.size;clear B1 hB1 hb2 c0 c1 hsz1 hAO2;generalize hAe:area o.r=A at hAO;have B2a:=B2.alloc (.cells #[.int .i64 (2*A)] 3);have B3:=Blk.new w2 3 #[.int .i64 (2*A)];have hB2a:=hB2.alloc hB2.size (.cells #[.int .i64 (2*A)] 3);have hsz3:w.heap.size+1<=(w2.alloc (.cells #[.int .i64 (2*A)] 3)).heap.size:=eO;have hp3:w2.heap.size<(w2.alloc (.cells #[.int .i64 (2*A)] 3)).heap.size:=af;have c0:=B2a.cell 0;have c1:=B2a.cell 1;simp at c0 c1;obtain⟨p3,hp3e⟩:∃p,p=w2.heap.size:=⟨_,rfl⟩;rw[<-hp3e]at B3 hp3 hsz2
  go_wp2_with fail
  rw[<-hp3e];clear hp3e;generalize w2.alloc (.cells #[.int .i64 (2*A)] 3)=w3 at B2a B3 hB2a hsz3 hp3 c0 c1|-;clear B2 hB2;refine(Cl o ah (aA hs) ch _).mono ?_;rintro e w4 ⟨rfl,rfl⟩
  go_wp2_with fail
  have B3':=B3.alloc (.cells #[RV.enc o,.slice ah (aA hs) ch] 26);have B4:=Blk.new w3 26 #[RV.enc o,.slice ah (aA hs) ch];have hB4:=hB2a.alloc hB2a.size (.cells #[RV.enc o,.slice ah (aA hs) ch] 26);have hsz4:w3.heap.size<(w3.alloc (.cells #[RV.enc o,.slice ah (aA hs) ch] 26)).heap.size:=af;obtain⟨p4,hp4e⟩:∃p,p=w3.heap.size:=⟨_,rfl⟩;rw[<-hp4e]at B4 hp3 hsz3 hsz4;rw[<-hp4e];clear hp4e B3 B2a c0 c1 hB2a;generalize w3.alloc (.cells #[RV.enc o,.slice ah (aA hs) ch] 26)=W0 at B3' B4 hB4 hsz4|-;refine(wpIn_wide (n:=9)).1 ?_
  refine' wpIn_rangeFunc_ownF (F:=Fence.wide) (n:=9) rfl aC (gf:=178) (lb:= #[.pointer (aD ⟨p4,0,aM⟩)]) rfl trivial (enters_of Fk br rfl)
   (CA Fence.wide 8 trivial rfl aC p4 w.heap.size o ah ch hs H.n W0 aC B4 (H.h.below hB4)) Kp2.trans (Ef aC aC) (Below.refl _ _) (λ_=>rfl)
   (λpre W=>(Blk W p4 26 #[RV.enc o,.slice ah (aA hs) ch]/\Blk W p3 3 #[.int .i64 (2*A-lK pre)])/\Below w.heap.size w W)
   (λc pre W=>False/\False)
   (OwnFrom.and (OwnFrom.and qA qA) (ownFrom_below (bR _) aC))
   (λc=>OwnFrom.and uU uU)
   ⟨⟨B4,by simpa[lK]using B3'⟩,hB4⟩ _ ?assign ?body ?done ?stop
  case assign=>
   intro l x W K hK
   gi_wp2
   exact hK
  case stop=>
   grind
  case done=>
   rintro D xs W hD hxs ⟨⟨b4,b3⟩,hb⟩ hK;have hres:2*A-lK xs=jZ (fT o hs):=by have:=Xz hxs;rw[hAe]at this;omega
   rw[hres]at b3;have hD2:w.heap.size<=D:=aC;have c3:=b3.cell 0
   go_wp2
   exact Gz (v:= .int .i64 (jZ (fT o hs))) rfl rfl hK ⟨rfl,hb.trans (pp hD2 hK)⟩
  case body=>
   rintro l pre ⟨⟨xa,xc,xr⟩,hxm⟩ W ⟨⟨b4,b3⟩,hb⟩ hlen;obtain⟨hxr,hxl⟩:=H.v _ hxm;have hvx:=hval _ hxm;have hA:=Du hvx;dsimp only at hxr hxl hvx hA;have HE:Hid (lK (pre++[(⟨⟨xa,xc,xr⟩,hxm⟩:Mem o hs)])=lK pre+area xr):=Lib.hid (XI _ _);have hbd:=ZC hval pre;have hN:=H.n;have hX2:(if dC xr then area xr else 0)=area xr:=by rw[hvx];rfl
   have hwrap:IntKind.i64.wrap (2*A-lK pre-area xr)=2*A-lK pre-area xr:=IntWalk.i64_in _ aH;generalize lK pre=S at HE hbd b3 hwrap;have hX:=Lib.hid hX2;clear hX2 hvx hval B4 B3' hB4;refine wpIn_block ?_;dsimp only[RV.enc];refine Fu br br [15,16,17,18] [[],[],[1],[0,1,2],[0,1,2,3]] br br jc
    (WR2 4 (λwx=>Below W.heap.size W wx) (λwx=>Blk wx p3 3 #[.int .i64 (2*A-S-area xr)]/\Blk wx p4 26 #[RV.enc o,.slice ah (aA hs) ch]/\Below w.heap.size w wx/\KeepsOthers W wx/\Below w.heap.size W wx))
    (λi v wx=>match i with
      |0=>v= .int .i64 (2*A-S)
      |1=>v= .slice xa (aA xr) xc
      |2=>v= .int .i64 (area xr)
      |3=>v= .int .i64 (2*A-S-area xr)
      |4=>True
      |_=>True)
    (WR2.start (Below.refl _ _).drew) ?_ ?_ ?_
   .grind
   .refine⟨?_,?_,?_,?_,?_,trivial⟩
    .intro D V wx hD hanc hdesc hin hWR;have hA:=hWR.lo (hdesc 4 br);have e3:=hin 3 br;have q0:=(Blk.then_ b3 hA).cell 0;refine opK ?_;intro K hK;simp[cv,execOp,bj,e3,q0,go_sem];exact hK _ _ ⟨rfl,(hWR.keep bg),.inl rfl⟩
    .intro D V wx hD hanc hdesc hin hWR;have e4:=hin 4 br;refine opK ?_;intro K hK;simp[cv,execOp,bj,e4,go_sem];exact hK _ _ ⟨rfl,(hWR.keep bg),.inl rfl⟩
    .intro D V wx hD hanc hdesc hin hWR;have hA:=hWR.lo (hdesc 4 br);have e16:V 16= .slice xa (aA xr) xc:=(hanc 1 br).2;refine opK ?_;intro K hK;simp[cv,execOp,bj,e16,go_sem];refine(PA xa xc xr _ (hxr.below (hb.trans (hA.mono hb.size))) hxl).mono ?_;rintro e w1 ⟨rfl,hc⟩;rw[hX.out];exact⟨_,rfl,hK _ _ ⟨rfl,(.mkLo (hdesc 4 br) bg (Below.then_ hA hc)),.inr (.inl hc)⟩⟩
    .intro D V wx hD hanc hdesc hin hWR;have e15:V 15= .int .i64 (2*A-S):=(hanc 0 br).2;have e17:V 17= .int .i64 (area xr):=(hanc 2 br).2;refine opK ?_;intro K hK;simp[cv,execOp,bj,e15,e17,hwrap,go_sem];exact hK _ _ ⟨rfl,(hWR.keep bg),.inl rfl⟩
    .intro D V wx hD hanc hdesc hin hWR;have hA:=hWR.lo hD;have e3:=hin 3 br;have e18:V 18= .int .i64 (2*A-S-area xr):=(hanc 3 br).2;refine opK ?_;intro K hK;have q0:=(Blk.then_ b3 hA).cell 0;have f0:=(Blk.then_ b3 hA).frozen 0;simp[cv,execOp,bj,e3,e18,q0,f0,go_sem];refine hK _ _ ⟨trivial,.mkHi ⟨by simpa using(Blk.then_ b3 hA).j8 0 (.int .i64 (2*A-S-area xr)),(Blk.then_ b4 hA).far aH _,(hb.trans (hA.mono hb.size)).setCell (p:=⟨p3,0,aM⟩) aH _,(CH hA).trans (KeepsOthers.setCell _ _ _),((Below.refl w.heap.size W).trans (hA.mono hb.size)).setCell (p:=⟨p3,0,aM⟩) aH _⟩,.inr (.inr ?_)⟩;grind
   intro D V wx hall hf hWR;replace hWR:=hWR.hi aH;have f0:V 15= .int .i64 (2*A-S):=hf 0 bg;have f1:V 16= .slice xa (aA xr) xc:=hf 1 bg;have f2:V 17= .int .i64 (area xr):=hf 2 bg;have f3:V 18= .int .i64 (2*A-S-area xr):=hf 3 bg;simp only[lM,Ba,List.foldl_nil,f0,f1,f2,f3];obtain⟨k1,k2,k3,k4,k5⟩:=hWR;refine⟨k4,⟨k5,Eq.trans k2 (Eq.symm b4)⟩,⟨k2,?_⟩,k3⟩;rw[HE.out,(aC:2*A-(S+area xr)=2*A-S-area xr)];exact k1
end
section
variable {C:bf} {w:World}
def dp.rdV(hC:∀b o v,C b o v->w.cell? ⟨b,o,aM⟩=aD v){r:List V}{b o:Nat}(h:dp C (iR r) b o):RdV w (aD ⟨b,o,aM⟩) r:=by
 intro i hi;have h1:=yH.at r i hi;have g0:(iR r)[i*2]? =aD (.int .i64 r[i].x):=by have:=congrArg (λl=>l[0]?) h1;simpa[rQ,yv]using this
 have g1:(iR r)[i*2+1]? =aD (.int .i64 r[i].y):=by have:=congrArg (λl=>l[1]?) h1;simpa[rQ,yv]using this
 obtain⟨v0,a1,_,a3⟩:=dp.get _ _ _ h _ _ g0;obtain⟨v1,b1,_,b3⟩:=dp.get _ _ _ h _ _ g1;unfold bE at a3 b3;subst a3 b3;have en:aI7 r i=r[i] :=by unfold aI7;rw[fY,fQ hi];rfl
 refine⟨b,o,rfl,lj w ⟨b,_,aM⟩ (hC _ _ _ a1),?_,?_⟩
 .grind
 grind
def H0(hC:∀b o v,C b o v->w.cell? ⟨b,o,aM⟩=aD v){r:List V}{v:Value}(h:bE C (jK r) v):∃a c,v= .slice a (aA r) c/\RdV w a r/\(aA r)<=c/\(a=aM->c=0):=by
 unfold jK bE at h;obtain⟨a,c,rfl,h1,h2,h3⟩:=h;refine⟨a,c,rfl,?_,h1,λe=>(h2 e).1⟩;cases a with
 |none=>
  have:r=[] :=by have:=congrArg aA (h2 rfl).2;rw[yH.length]at this;exact pg.1 aH
  subst this;intro i hi;simp at hi
 |some ad=>
  obtain⟨b,o,sp⟩:=ad;obtain⟨h4,h5⟩:=h3 _ rfl;dsimp only at h4 h5;rcases rO (aA r) with hr0|hr0
  .intro i hi;omega
  .have h4:=h4 hr0;subst h4;exact h5.rdV hC
def Me(hC:∀b o v,C b o v->w.cell? ⟨b,o,aM⟩=aD v):∀(l:List aU) (b o:Nat),dp C (l.map jK) b o->∃hs:List RV,hs.map RV.r=l/\(∀i,i<aA hs->b<w.heap.size/\w.cell? ⟨b,o+i,aM⟩=aD (RV.enc (hs.getD i default)))/\∀x∈hs,RdV w x.a x.r/\(aA x.r)<=x.c/\(x.a=aM->x.c=0)
 |[],b,o,_=>⟨[],rfl,(λi h=>by simp at h),λx h=>by cases h⟩
 |r::l,b,o,h=>by
  rw[dU]at h;unfold dp at h;obtain⟨⟨v,h1,_,h2⟩,h3⟩:=h;obtain⟨a,c,rfl,h4,h5⟩:=H0 hC h2;obtain⟨hs,g1,g2,g3⟩:=Me hC l b (o+1) h3;refine⟨⟨a,c,r⟩::hs,by simp[g1],?_,?_⟩
  .intro i hi;cases i with
   |zero=>exact⟨lj w ⟨b,_,aM⟩ (hC _ _ _ h1),by simpa[RV.enc]using hC _ _ _ h1⟩
   |succ i=>
    grind
  grind
def Zl(hC:∀b o v,C b o v->w.cell? ⟨b,o,aM⟩=aD v){l:List aU}{v:Value}(h:bE C (sL l) v):
  ∃ah ch,∃hs:List RV,v= .slice ah (aA hs) ch/\(aA hs)<=ch/\hs.map RV.r=l/\RdH w.heap.size w ah hs/\∀x∈hs,RdV w x.a x.r/\(aA x.r)<=x.c/\(x.a=aM->x.c=0):=by
 unfold sL bE at h;obtain⟨a,c,rfl,h1,h2,h3⟩:=h;cases a with
 |none=>
  have:l=[] :=by simpa using(h2 rfl).2
  subst this;exact⟨aM,c,[],rfl,lh _,rfl,(λi hi=>by simp at hi),λx hx=>by cases hx⟩
 |some ad=>
  obtain⟨b,o,sp⟩:=ad;obtain⟨h4,h5⟩:=h3 _ rfl;dsimp only at h4 h5;rcases rO (aA l) with hl0|hl0
  .have:l=[] :=pg.1 hl0;subst this;exact⟨_,c,[],rfl,lh _,rfl,(λi hi=>by simp at hi),λx hx=>by cases hx⟩
  have h4:=h4 hl0;subst h4;obtain⟨hs,g1,g2,g3⟩:=Me hC l b o h5;have hl:aA hs=aA l:=by rw[<-g1];simp
  exact⟨_,c,hs,by rw[hl],aC,g1,λi hi=>⟨b,o,rfl,(g2 i hi).1,(g2 i hi).2⟩,g3⟩
def Cj(hC:∀b o v,C b o v->w.cell? ⟨b,o,aM⟩=aD v){s:Shape}{v:Value}(hf:Fit s)(h:bE C (m5 s) v):
  ∃o ah ch hs,v= .agg #[RV.enc o,.slice ah (aA hs) ch]/\RdSh w o ah hs/\(aA hs)<=ch/\(∀x∈o::hs,aA x.r<=x.c)/\fT o hs=s:=by
 unfold m5 bE at h;obtain⟨vs,rfl,h1,_⟩:=h;unfold bk at h1;obtain⟨v1,r1,rfl,h2,h3⟩:=h1;unfold bk at h3;obtain⟨v2,r2,rfl,h4,h5⟩:=h3;unfold bk at h5;subst h5;obtain⟨a,c,rfl,g1,g2⟩:=H0 hC h2;obtain⟨ah,ch,hs,rfl,k1,k2,k3,k4⟩:=Zl hC h4;have hl:aA hs=aA s.holes:=by rw[<-k2];simp
 refine⟨⟨a,c,s.outer⟩,ah,ch,hs,rfl,⟨k3,?_,by rw[hl];have:=hf.2.1;omega⟩,k1,?_,by unfold fT;rw[k2]⟩
 .intro x hx;rcases bO.1 hx with rfl|hx
  .exact⟨g1,hf.1,g2.1,g2.2⟩
  .exact⟨(k4 x hx).1,hf.2.2 _ aH,(k4 x hx).2.1,(k4 x hx).2.2⟩
 grind
def Gw{cs:List PV}{us:List Value}{a:Option Addr}{n c N:Nat}(hr:Rd w a us)(hf:kn N a)(hn:a=aM->c=0)(hc:n<=c)(hu:aA us=aA cs)(hsp:cs=[]->∀ad,a=aD ad->ad.spot=aM)
  (hv:∀(i:Nat) x u,cs[i]? =aD x->us[i]? =aD u->u.oneCell'=aE/\bE (λb o x=>N<=b/\w.cell? ⟨b,o,aM⟩=aD x) x u):bE (λb o x=>N<=b/\w.cell? ⟨b,o,aM⟩=aD x) (.sl n cs) (.slice a n c):=by
 unfold bE;refine⟨a,c,rfl,hc,λha=>⟨hn ha,?_⟩,λad ha=> ?_⟩
 .cases cs with
  |nil=>rfl
  |cons x cs=>
   cases us with
   |nil=>simp at hu
   |cons u us=>obtain⟨b,off,h1,_⟩:=hr 0 u rfl;grind
 .subst ha;cases cs with
  |nil=>
   exact⟨λ_=>hsp rfl _ rfl,by unfold dp;trivial⟩
  |cons x cs=>
   cases us with
   |nil=>simp at hu
   |cons u us=>
    obtain⟨b,off,h1,_⟩:=hr 0 u rfl;cases h1;refine⟨λ_=>rfl,dp.of _ _ _ λi y hi=> ?_⟩;have hlt:i<aA (u::us):=by rw[hu];exact(Bs.1 hi).1
    have hui:(u::us)[i]? =aD (u::us)[i] :=fQ hlt;obtain⟨b',off',h2,_,h3⟩:=hr i _ hui;cases h2;obtain⟨g1,g2⟩:=hv i y _ hi hui;exact⟨_,⟨hf _ rfl,h3⟩,g1,g2⟩
end
def Yx{C:bf}(r:List V):aA (nC r)=(aA (iR r))/\∀(i:Nat) x u,(iR r)[i]? =aD x->(nC r)[i]? =aD u->u.oneCell'=aE/\bE C x u:=by
 refine⟨by rw[MR,yH.length],?_⟩;have key:∀(l:List V) (i:Nat) x u,(l.flatMap λv=>[PV.int .i64 v.x,PV.int .i64 v.y])[i]? =aD x->(l.flatMap λv=>[dN .i64 v.x,dN .i64 v.y])[i]? =aD u->u.oneCell'=aE/\bE C x u:=by
  intro l;induction l with
  |nil=>grind
  |cons v l ih=>
   intro i x u h1 h2;simp only[fw,k8,tQ]at h1 h2;match i with
   |0=>simp at h1 h2;subst h1 h2;exact⟨rfl,by unfold bE;rfl⟩
   |1=>simp at h1 h2;subst h1 h2;exact⟨rfl,by unfold bE;rfl⟩
   |i+2=>grind
 exact key r
def Yy{C:bf}(r:List S):aA (j6 r)=(aA (FC r))/\∀(i:Nat) x u,(FC r)[i]? =aD x->(j6 r)[i]? =aD u->u.oneCell'=aE/\bE C x u:=by
 refine⟨by rw[MS,aFq.length],?_⟩;have key:∀(l:List S) (i:Nat) x u,(l.flatMap λs=>[PV.int .i64 s.a.x,PV.int .i64 s.a.y,PV.int .i64 s.b.x,PV.int .i64 s.b.y])[i]? =aD x->(l.flatMap λs=>[dN .i64 s.a.x,dN .i64 s.a.y,dN .i64 s.b.x,dN .i64 s.b.y])[i]? =aD u->u.oneCell'=aE/\bE C x u:=by
  intro l;induction l with
  |nil=>grind
  |cons v l ih=>
   intro i x u h1 h2;simp only[fw,k8,tQ]at h1 h2;match i with
   |0=>simp at h1 h2;subst h1 h2;exact⟨rfl,by unfold bE;rfl⟩
   |1=>simp at h1 h2;subst h1 h2;exact⟨rfl,by unfold bE;rfl⟩
   |2=>simp at h1 h2;subst h1 h2;exact⟨rfl,by unfold bE;rfl⟩
   |3=>simp at h1 h2;subst h1 h2;exact⟨rfl,by unfold bE;rfl⟩
   |i+4=>grind
 exact key r
def aBD{w:World}{N:Nat}{v:Value}{xs:List S}(h:w.ownsRow N 46 4 v (aA xs) (j6 xs)):bE (λb o x=>N<=b/\w.cell? ⟨b,o,aM⟩=aD x) (KL xs) v:=by
 have hsp:∀a c,v= .slice a (aA xs) c->∀ad,a=aD ad->ad.spot=aM:=by
  intro a c hv ad ha;rcases h.2 with⟨h1,_⟩|⟨g,cap,cur,h1,_⟩
  .grind
  .grind
 obtain⟨a,c,rfl,h1,h2,h3,h4⟩:=Rd.Rb h;obtain⟨g1,g2⟩:=Yy (C:=λb o x=>N<=b/\w.cell? ⟨b,o,aM⟩=aD x) xs;exact Gw h1 h2 h3 h4 g1 (λ_=>hsp a c rfl) g2
def aBI{w:World}{N:Nat}{a:Option Addr}{c:Nat}{xs:List V}(h:RdV w a xs)(hf:kn N a)(hc:aA xs<=c)(h0:0<aA xs):bE (λb o x=>N<=b/\w.cell? ⟨b,o,aM⟩=aD x) (jK xs) (.slice a (aA xs) c):=by
 obtain⟨b0,o0,rfl,_⟩:=h 0 h0;obtain⟨g1,g2⟩:=Yx (C:=λb o x=>N<=b/\w.cell? ⟨b,o,aM⟩=aD x) xs;refine Gw (us:=nC xs) ?_ hf (λh=>by cases h) hc g1 (λ_ ad ha=>by cases ha;rfl) g2;intro i u hi;have hlt:i<aA xs*2:=by rw[<-MR];exact(Bs.1 hi).1
 obtain⟨k,hk⟩:∃k,i=k*2\/i=k*2+1:=⟨i/2,aC⟩;obtain⟨b,o,he,h1,h2,h3⟩:=h k aC;cases he;obtain⟨f0,f1⟩:=Oq xs k aC;grind
section
variable {fr:Bool}
def Wg(s:Shape)(hf:Fit s):Sat bi aE 56 [m5 s] (.bool (bL s)):=by refine⟨br,λC w vs hC h=> ?_⟩;unfold bk at h;obtain⟨v,r,rfl,h1,h2⟩:=h;unfold bk at h2;subst h2;obtain⟨o,ah,ch,hs,rfl,H,hch,_,rfl⟩:=Cj hC hf h1;refine(Fs o ah ch hs w H hch).mono ?_;rintro e w' ⟨rfl,hb⟩;exact⟨_,rfl,by unfold bE;rfl,hb⟩
def Wi(s:Shape)(hf:Fit s):Sat bi aE 131 [m5 s] (KL (ao s)):=by
 refine⟨br,λC w vs hC h=> ?_⟩;unfold bk at h;obtain⟨v,r,rfl,h1,h2⟩:=h;unfold bk at h2;subst h2;obtain⟨o,ah,ch,hs,rfl,H,hch,_,rfl⟩:=Cj hC hf h1;have hn:aA hs<=900:=by have:=hf.2.1;simpa[fT]using this
 refine(Wf o ah ch hs w H hn).mono ?_;rintro e w' ⟨v,rfl,hrow,hb⟩;exact⟨_,rfl,bE.mono (λb o x h=> .inr h) _ _ (aBD hrow),hb⟩
def Wn(s:Shape)(hf:Fit s):Sat bi aE 89 [m5 s] (.int .i64 (if bL s then jZ s else 0)):=by refine⟨br,λC w vs hC h=> ?_⟩;unfold bk at h;obtain⟨v,r,rfl,h1,h2⟩:=h;unfold bk at h2;subst h2;obtain⟨o,ah,ch,hs,rfl,H,hch,_,rfl⟩:=Cj hC hf h1;refine(Wm o ah ch hs w H hch).mono ?_;rintro e w' ⟨rfl,hb⟩;exact⟨_,rfl,by unfold bE;rfl,hb⟩
def YL{w:World}{N:Nat}{v:Value}{rs:List RV}(h:w.ownsRow N 23 1 v (aA rs) (rs.map RV.enc))(hx:∀x∈rs,RdV w x.a x.r/\kn N x.a/\(aA x.r)<=x.c/\0<aA x.r):
  bE (λb o x=>N<=b/\w.cell? ⟨b,o,aM⟩=aD x) (sL (rs.map RV.r)) v:=by
 have hsp:∀a c,v= .slice a (aA rs) c->∀ad,a=aD ad->ad.spot=aM:=by
  intro a c hv ad ha;rcases h.2 with⟨h1,_⟩|⟨g,cap,cur,h1,_⟩
  .grind
  .grind
 obtain⟨a,c,rfl,h1,h2,h3,h4⟩:=Rd.Rb h;unfold sL;rw[dq];refine Gw h1 h2 h3 h4 af (λ_=>hsp a c rfl) ?_;intro i x u hi hu;rw[ip,ip]at hi;rw[ip]at hu;cases hr:rs[i]? with
 |none=>grind
 |some y=>
  rw[hr]at hi hu;simp only[fk,iG]at hi hu;subst hi hu;obtain⟨k1,k2,k3,k4⟩:=hx y (WJ hr);exact⟨rfl,aBI k1 k2 k3 k4⟩
def Wh(s:Shape)(hf:Fit s)(hp:0<(aA s.outer)/\∀r∈s.holes,0<aA r):Sat bi aE 57 [m5 s] (sL (aR s)):=by
 refine⟨br,λC w vs hC h=> ?_⟩;unfold bk at h;obtain⟨v,r,rfl,h1,h2⟩:=h;unfold bk at h2;subst h2;obtain⟨o,ah,ch,hs,rfl,H,hch,_,rfl⟩:=Cj hC hf h1;refine(We o ah ch hs w H λx hx=>by rcases bO.1 hx with rfl|hx;exact hp.1;exact hp.2 _ (bn.2 ⟨x,hx,rfl⟩)).mono ?_;rintro e w' ⟨v,rs,rfl,hrs,hrow,hok,hb⟩;refine⟨_,rfl,bE.mono (λb o x h=> .inr h) _ _ ?_,hb⟩;rw[<-hrs];refine YL hrow λx hx=>⟨(hok x hx).rd,(hok x hx).fresh,(hok x hx).cap,?_⟩;have hm:x.r∈aR (fT o hs):=by rw[<-hrs];exact bn.2 ⟨x,hx,rfl⟩
 unfold aR at hm;grind
end
def BU{α:Type}(fr:Bool)(A:Arl α)(pre:α->List Prop)(res:α->SV):Con:=⟨α,A.dec,pre,.val fr res⟩
def Do{f:FuncId}{fr:Bool}{α:Type}{A:Arl α}{pre:α->List Prop}{res:α->SV}(B:α->List PV)(q:α->PV)(hB:∀x,avs (A.enc x)=(B x).map .p)(hq:∀x,(res x).av= .p (q x))(h:∀x,rN (pre x)->Sat bi fr f (B x) (q x)):(BU fr A pre res).Okz f:=by intro s x hd hp;exact⟨B x,q x,(A.ok s x hd).trans (hB x),hq x,h x (lI.2 hp)⟩
def wH(l:List aU):LT.R.enc l=l.map jK:=by
 unfold LT.enc;induction l with
 |nil=>rfl
 |cons r l ih=>rw[fw,ih];rfl
def EJ(s:Shape):avs ((a1 aSh).enc s)=[m5 s].map .p:=by show [SV.av (.agg [.lst .V s.outer,.lst .R s.holes])] =_;show [fg [.p (.sl (aA s.outer) (iR s.outer)),.p (.sl (aA s.holes) (LT.R.enc s.holes))]] =_;rw[wH];rfl
def c55:Con:=BU aE (a1 aSh) (λs=>[Fit s]) (λs=> .bool (bL s))
def k55:c55.Okz 56:=Do (λs=>[m5 s]) (λs=> .bool (bL s)) EJ (λ_=>rfl) λs h=>Wg s h
def aIJ:Con:=BU aE (a1 aSh) (λs=>[Fit s]) (λs=> .lst .S (ao s))
def aHc:aIJ.Okz 131:=Do (λs=>[m5 s]) (λs=>KL (ao s)) EJ (λ_=>rfl) λs h=>Wi s h
def c90:Con:=BU aE (a1 aSh) (λs=>[Fit s]) (λs=> .int .i64 (if bL s=aE then jZ s else 0))
def k90:c90.Okz 89:=Do (λs=>[m5 s]) (λs=> .int .i64 (if bL s=aE then jZ s else 0)) EJ (λ_=>rfl) λs h=>Wn s h
def c56:Con:=BU aE (a1 aSh) (λs=>[Fit s,0<aA s.outer,∀r∈s.holes,0<aA r]) (λs=> .lst .R (aR s))
def k56:c56.Okz 57:=Do (λs=>[m5 s]) (λs=>sL (aR s)) EJ (λs=>by show AV.p (.sl _ (LT.R.enc _))=_;rw[wH];rfl) λs h=>Wh s h.1 h.2
def tS:=(((Er.adk k56).adk k90).adk aHc).adk k55
def swR(a b:aU)(n:Nat):aU:=if n % 2=0 then a else b
def aBi(a b:aU)(n:Nat):swR b a n=swR a b (n+1):=by unfold swR;grind
def rU(a b:aU)(i k:Nat):Bool:=(bT k).all λj=>decide (turn (aI7 a i) (aI7 a ((i+1) % (aA a))) (aI7 b j)<=0)
def RM(a b:aU)(i k:Nat):rU a b i (k+1)=(rU a b i k&&decide (turn (aI7 a i) (aI7 a ((i+1) % (aA a))) (aI7 b k)<=0)):=by unfold rU;grind
def aES(a b:aU)(i:Nat):rU a b i (aA b)=b.all λv=>decide (turn (aI7 a i) (nxt a i) v<=0):=by
 unfold rU;rw[gR,cC,cC];constructor
 .intro h v hv;obtain⟨j,hj,rfl⟩:=fC.1 hv;exact h j (cP.2 hj)
 .intro h j hj;exact h _ (dh (cP.1 hj))
def NE(a b:aU):lL a b=(bT (aA a)).any λi=>rU a b i (aA b):=by unfold lL;congr 1;funext i;rw[aES]
def YP{a b:aU}{i:Nat}(hi:i<aA a)(h:rU a b i (aA b)=aE):lL a b=aE:=by rw[NE];grind
def Zr{a b:aU}(h:aY (λi=>rU a b i (aA b)=aK) (aA a)):lL a b=aK:=by rw[NE];exact List.any_eq_false.2 λi hi=>by rw[h i (cP.1 hi)];simp
def aCT{a b:aU}{n:Nat}(h:lL (swR a b n) (swR b a n)=aE):aE=fU a b:=by unfold swR at h;unfold fU;grind
def aCU{a b:aU}(h:aY (λn=>lL (swR a b n) (swR b a n)=aK) 2):aK=fU a b:=by have h0:=h 0 aC;have h1:=h 1 aC;unfold swR at h0 h1;unfold fU;grind
def c77:Con:=con (ac (aL .V) (ac (aL .V) (a1 (aF 77)))) (λ(a,b,_)=>[aA a<=1000000,aA b<=1000000]) (λ(a,b,_)=> .iqz (cg a b))
def k77:c77.Okz 76:=bI Er (λ(a,b,_)=>[lp 2 13 (aA a) (λk=>[k<=aA b,aY (λj=>cQ (aI7 a j) (aI7 b j)=0) k]) [] ae ae]
  ) λ(a,b,u) hp=>bD (aO (aA b:Int) λD=>aO (aA a:Int) λE=>(0=(0:Int)/\(0:Nat)<=(aA a)/\(0:Nat)<=(aA b)/\aY (λj=>cQ (aI7 a j) (aI7 b j)=0) 0)/\
 (∀x:Nat,aO (x:Int) λA=>aO (aI7 a x) λB=>aO (aI7 b x) λC=>x<=(aA a)/\x<=(aA b)/\aY (λj=>cQ (aI7 a j) (aI7 b j)=0) x->qiq (A<aA a) (ix A (aA a)/\qiq (D<=x) (1=cg a b) (ix A (aA b)/\qiq (¬cQ B C=0) (cQ B C=cg a b) (qnr A x (x+1<=(aA a)/\x+1<=(aA b)/\aY (λj=>cQ (aI7 a j) (aI7 b j)=0) (x+1)/\(aA a)-(x+1)<aA a-x)))) (qiq (E<aA b) (-1=cg a b) (0=cg a b)))) (by
  change (aA a)<=1000000/\(aA b)<=1000000 at hp;have g1:∀x:Nat,(x:Int)<aA a->x<=aA b->aY (λj=>cQ (aI7 a j) (aI7 b j)=0) x->(aA b:Int)<=x->1=cg a b:=λx h1 h2 h3 h4=>by rw[CK (k:=x) aC h2 (.inr aC) h3];unfold sgn;omega
  have g2:∀x:Nat,¬(x:Int)<aA a->x<=aA a->x<=aA b->aY (λj=>cQ (aI7 a j) (aI7 b j)=0) x->cg a b=sgn ((aA a:Int)-aA b):=λx h1 h2 h3 h4=>CK h2 h3 (.inl aC) h4;have s1:(aA a:Int)<aA b-> -1=sgn ((aA a:Int)-aA b):=λh=>by unfold sgn;omega
  have s2:(aA a:Int)=aA b->0=sgn ((aA a:Int)-aA b):=λh=>by unfold sgn;omega
  with_reducible ((repeat' first|apply cJ|intro);all_goals repeat cases‹_/\_›)
  all_goals first|rfl|exact(Gj aJ aJ aC aC).symm|exact g1 _ aJ aJ aJ aJ|(rw[g2 _ aJ aJ aJ aJ];first|exact s1 aJ|omega)|exact cO aJ (vE ‹¬¬_›)|grind)
def t77:=Er.adk k77
def c26:Con:=con (ac (aL .V) (a1 (aL .V))) (λ(a,b)=>[aA a<=1000000,aA b<=1000000]) (λ(a,b)=> .iqz (cg a b))
def k26:c26.Okz 26:=bI t77 (λ(_,_)=>[]
 ) λ(a,b) hp=>bD (aA a<=1000000/\(aA b)<=1000000/\cg a b=cg a b) (by
 change (aA a)<=1000000/\(aA b)<=1000000 at hp;omega)
def t26:=t77.adk k26
def c93:Con:=con (ac (aL .V) (a1 (aL .V))) (λ(a,b)=>[aA a<=1000,aA b<=1000,(∀v∈a,bd 1000000000 v),(∀v∈b,bd 1000000000 v)]) (λ(a,b)=> .bool (fU a b))
def k93:c93.Okz 92:=bI t26 (λ(a,b)=>[lp 2 5 2 (λn=>[aY (λj=>lL (swR a b j) (swR b a j)=aK) n]) [] (λn=>[(0,.lst .V (swR a b n)),(1,.lst .V (swR b a n))]) ae λn=>[cnt 5 6 (aA (swR a b n)) (aY λi=>rU (swR a b n) (swR b a n) i (aA (swR b a n))=aK) λi=>[lp 9 8 (aA (swR b a n)) ae [] (λk=>[(7,.bool (rU (swR a b n) (swR b a n) i k))]) ae]]]
  ) λ(a,b) hp=>bD (aO (0:Int) λE=>aO (0:Nat) λF=>(0=E/\a=swR a b 0/\b=swR b a 0/\F<=2/\aY (λj=>lL (swR a b j) (swR b a j)=aK) 0)/\
 (∀x:Nat,aO (x+1) λA=>aO (x:Int) λC=>aO (swR a b x) λG=>aO (swR b a x) λH=>x<=2/\aY (λj=>lL (swR a b j) (swR b a j)=aK) x->qiq (C<2) ((0=E/\F<=(aA G)/\aY (λi=>rU G H i (aA H)=aK) 0)/\
   (∀x_1:Nat,aO (x_1+1) λB=>aO (x_1:Int) λJ=>aO (aI7 G x_1) λK=>aO (aI7 G (B % (aA G))) λN=>x_1<=(aA G)/\aY (λi=>rU G H i (aA H)=aK) x_1->qiq (J<aA G) ((0=E/\aE=rU G H x_1 0/\F<=aA H)/\
     (∀x_2:Nat,aO (x_2+1) λD=>aO (x_2:Int) λI=>aO (aI7 H x_2) λL=>aO (x_2+1:Nat) λM=>x_2<=aA H->qiq (I<aA H) (qbq (rU G H x_1 x_2) (ix J (aA G)/\aX (J+1)/\(aA G:Int)≠0/\ix ((B % (aA G):Nat):Int) (aA G)/\ix I (aA H)/\bd 1000000000 K/\bd 1000000000 N/\bd 1000000000 L/\aX (I+1)/\I+1=(M:Int)/\decide (turn K N L<=0)=rU G H x_1 D/\x_2+1<=(aA H)/\(aA H)-D<aA H-x_2) (aX (I+1)/\I+1=(M:Int)/\aK=rU G H x_1 D/\x_2+1<=(aA H)/\(aA H)-D<aA H-x_2)) (qbq (rU G H x_1 x_2) (aE=fU a b) (qnr J x_1 (x_1+1<=(aA G)/\aY (λi=>rU G H i (aA H)=aK) B/\(aA G)-B<aA G-x_1))))) (qnr C x (swR b a x=swR a b A/\swR a b x=swR b a A/\x+1<=2/\aY (λj=>lL (swR a b j) (swR b a j)=aK) A/\2-A<2-x)))) (aK=fU a b))) (by
  change (aA a)<=1000/\(aA b)<=1000/\((∀v∈a,bd 1000000000 v))/\((∀v∈b,bd 1000000000 v))at hp;obtain⟨la,lb,va,vb⟩:=hp;have l1:∀n,aA (swR a b n)<=1000:=λn=>by unfold swR;grind
  have l2:∀n,aA (swR b a n)<=1000:=λn=>by unfold swR;grind
  have v1:∀n i,i<aA (swR a b n)->bd 1000000000 (aI7 (swR a b n) i):=λn i h=>by have:=dh h;unfold swR at this|-;grind
  have v2:∀n i,i<aA (swR b a n)->bd 1000000000 (aI7 (swR b a n) i):=λn i h=>by have:=dh h;unfold swR at this|-;grind
  have z:∀A B:aU,∀i,aE=rU A B i 0:=λA B i=>rfl;have us:∀(A B:aU) (i k:Nat),rU A B i k=aE->decide (turn (aI7 A i) (aI7 A ((i+1) % (aA A))) (aI7 B k)<=0)=rU A B i (k+1):=λA B i k h=>by rw[RM,h,jq]
  have uf:∀(A B:aU) (i k:Nat),rU A B i k=aK->aK=rU A B i (k+1):=λA B i k h=>by rw[RM,h,Bool.false_and]
  have yes:∀n i k:Nat,(i:Int)<aA (swR a b n)->¬(k:Int)<aA (swR b a n)->k<=aA (swR b a n)->rU (swR a b n) (swR b a n) i k=aE->aE=fU a b:=λn i k h1 h2 h3 h4=>by obtain rfl:k=aA (swR b a n):=aC;exact aCT (n:=n) (YP aC h4)
  have no:∀n i k:Nat,¬(k:Int)<aA (swR b a n)->k<=aA (swR b a n)->rU (swR a b n) (swR b a n) i k=aK->aY (λi=>rU (swR a b n) (swR b a n) i (aA (swR b a n))=aK) i->aY (λi=>rU (swR a b n) (swR b a n) i (aA (swR b a n))=aK) (i+1):=λn i k h2 h3 h4 h5=>by obtain rfl:k=aA (swR b a n):=aC;exact cO h5 h4
  have nx:∀n i:Nat,¬(i:Int)<aA (swR a b n)->i<=aA (swR a b n)->aY (λi=>rU (swR a b n) (swR b a n) i (aA (swR b a n))=aK) i->aY (λj=>lL (swR a b j) (swR b a j)=aK) n->aY (λj=>lL (swR a b j) (swR b a j)=aK) (n+1):=λn i h1 h2 h3 h4=>by obtain rfl:i=aA (swR a b n):=aC;exact cO h4 (Zr h3)
  have fin:∀n:Nat,¬(n:Int)<2->n<=2->aY (λj=>lL (swR a b j) (swR b a j)=aK) n->aK=fU a b:=λn h1 h2 h3=>by obtain rfl:n=2:=aC;exact aCU h3
  have e0:a=swR a b 0:=rfl;have e1:b=swR b a 0:=rfl
  repeat' first|with_reducible apply cJ|with_reducible intro
  all_goals repeat with_reducible cases‹_/\aY _ _›
  all_goals first|assumption|exact z _ _ _|exact us _ _ _ _ aJ|exact uf _ _ _ _ aJ|exact yes _ _ _ aJ aJ aJ aJ|exact no _ _ _ aJ aJ aJ aJ|exact nx _ _ aJ aJ aJ aJ|exact fin _ aJ aJ aJ|exact aBi _ _ _|exact iJ _|exact v1 _ _ aC|exact v2 _ _ aC|exact v1 _ _ (cG _ aC)|exact iX aC|omega|(have:=l1 ‹Nat›;unfold ix;omega)|(unfold aX;have h1:=l1;have h2:=l2;omega)|(unfold ix;omega)|(have h1:=l1;have h2:=l2;exact bP aH)|grind)
def t93:=t26.adk k93
def c92:Con:=con (ac aSh (a1 (aL .V))) (λ(s,r)=>[Fit s,3<=aA r,aA r<=1000,(∀v∈r,bd 10000 v),aA (ao s)<=1000000,(∀e∈ao s,bd 10000 e.a/\bd 10000 e.b)]) (λ(s,r)=> .bool (nU s r))
def k92:c92.Okz 91:=bI t93 (λ(s,r)=>[cnt 3 6 (aA (ao s)) (aY λi=>fU r [(az (ao s) i).a,(az (ao s) i).b] =aE)]
  ) λ(s,r) hp=>bD (aO (ao s) λB=>aO (ak 3 r) λD=>Fit s/\(0=(0:Int)/\(0:Nat)<=(aA B)/\aY (λi=>fU r [(az B i).a,(az B i).b] =aE) 0)/\
 (∀x:Nat,aO (x:Int) λA=>aO (az B x) λC=>aO (!fU r [C.a,C.b]) λE=>x<=(aA B)/\aY (λi=>fU r [(az B i).a,(az B i).b] =aE) x->qiq (A<aA B) (ix A (aA B)/\ix A (aA B)/\(aA r)<=1000/\[C.a,C.b].length<=1000/\(∀v:V,v∈r->bd 1000000000 v)/\(∀v:V,v∈[C.a,C.b]->bd 1000000000 v)/\qbq E (aK=nU s r) (qnr A x (x+1<=(aA B)/\aY (λi=>fU r [(az B i).a,(az B i).b] =aE) (x+1)/\(aA B)-(x+1)<aA B-x))) (((0:Int)<=3/\3<=(aA r:Int))/\(0:Nat)<(aA D)/\(aA D)<=1000/\(∀v:V,v∈ak 3 r->bd 10000 v)/\Fit s/\decide (ir s (kO D)=2)=nU s r))) (by
  change Fit s/\3<=(aA r)/\(aA r)<=1000/\((∀v∈r,bd 10000 v))/\(aA (ao s))<=1000000/\((∀e∈ao s,bd 10000 e.a/\bd 10000 e.b))at hp;obtain⟨hf,l3,lr,vr,le,ve⟩:=hp;have ve:∀x:Nat,(x:Int)<aA (ao s)->∀v∈[(az (ao s) x).a,(az (ao s) x).b],bd 1000000000 v:=λx h v hv=>by
   have:=ve _ (jr (aC:x<aA (ao s)));rw[<-iV aC]at this;rcases bO.1 hv with rfl|hv
   .exact this.1.mono
   .rw[List.mem_singleton.1 hv];exact this.2.mono
  have vr9:∀v∈r,bd 1000000000 v:=λv hv=>(vr v hv).mono;have vt:∀v∈ak 3 r,bd 10000 v:=λv hv=>vr v (List.mem_of_mem_take hv);have lt:aA (ak 3 r)=3:=by rw[mK];omega
  have no:∀x:Nat,(x:Int)<aA (ao s)->(!fU r [(az (ao s) x).a,(az (ao s) x).b])=aE->aK=nU s r:=λx h h2=>by
   unfold nU;rw[show((ao s).all λe=>fU r [e.a,e.b])=aK from vF.2 ⟨_,jr (aC:x<aA (ao s)),by rw[<-iV aC,nb' h2];simp⟩]
   rfl
  have yes:∀x:Nat,¬(x:Int)<aA (ao s)->x<=aA (ao s)->aY (λi=>fU r [(az (ao s) i).a,(az (ao s) i).b] =aE) x->decide (ir s (kO (ak 3 r))=2)=nU s r:=λx h1 h2 h3=>by
   obtain rfl:x=aA (ao s):=aC;unfold nU;rw[show((ao s).all λe=>fU r [e.a,e.b])=aE from cC.2 λe he=>by obtain⟨j,hj,rfl⟩:=jQ he;have:=h3 j hj;dsimp only at this;rw[iV hj]at this;exact this]
   grind
  with_reducible ((repeat' first|apply cJ|intro);all_goals repeat cases‹_/\_›)
  all_goals grind)
def Vm:Con:=con (ac (aL .V) (a1 (aL .V))) (λ(a,b)=>[aA a<=1000,aA b<=1000,0<aA a,0<aA b]) (λ(a,b)=> .iqz (cQ (aI7 a 0) (aI7 b 0)))
def aHg:Vm.Okz 127:=bI t26 (λ(_,_)=>[]
 ) λ(a,b) hp=>bD (ix 0 (aA a)/\ix 0 (aA b)/\cQ (aI7 a 0) (aI7 b 0)=cQ (aI7 a 0) (aI7 b 0)) (by
 change (aA a)<=1000/\(aA b)<=1000/\0<(aA a)/\0<(aA b) at hp;exact⟨by unfold ix;omega,by unfold ix;omega,rfl⟩)
def Hi{α:Type}:∀(a:Ask α) (w:World),w.drawn<=(w.ask a).2.drawn
 | .done a,w=>bR _
 | .ask what range k,w=>by
   unfold World.ask;dsimp only;split
   .exact Hi _ w
   .exact cZ (Nat.le_succ w.drawn) (Hi (k _) {w with drawn:=w.drawn+1})
def Nz(w:World)(c:Sys):w.drawn<=(w.sys c).2.drawn:=by have h:=Hi (Kernel.perform c w.os) w;unfold World.sys;grind
def WV{p:Program}{w w':World}{at_:Addr}{u:TypeId}{k:Addr}{v:Value}{b:Bool}{l:List Addr}(h:w.viewStore p at_ u k v b= .ok (w',l)):w'.drawn=w.drawn:=by
 unfold World.viewStore at h;simp only[bind,Except.bind,pure,Except.pure]at h
 repeat' split at h
 all_goals first|(cases h;done)|skip
 all_goals (try cases h;try rfl)
def Result.drew{α:Type}(w:World):Result α->Prop
 | .ok _ w'=>w.drawn<=w'.drawn
 | .halt _ w'=>w.drawn<=w'.drawn
def Ck{α:Type}(p:Program):∀(s:Sem α) (w:World),Result.drew w (s.run p w):=by
 intro s;induction s with
 |pure a=>intro w;exact bR _
 |load m a k ih=>
  intro w;unfold iT;split
  .exact ih _ w
  .split
   .exact ih _ w
   .exact bR _
 |store m a v k ih=>
  intro w;have key:∀w1:World,w1.drawn=w.drawn->Result.drew w (k.run p w1):=by intro w1 h;have:=ih w1;revert this;generalize iT p _ _=r;intro h2;cases r<;>(show w.drawn<=_;rw[<-h];exact h2)
  have h0:∀h,Result.drew (α:=α) w (.halt h w):=λ_=>bR _;cases v<;>simp only[iT];all_goals first|exact h0 _|skip
  all_goals
   split
   .split
    .exact h0 _
    .exact key _ rfl
   .split
    .rename_i h1;refine key _ ?_;unfold World.farStore at h1;split at h1
     .split at h1
      .rename_i h2;cases h1;exact WV h2
      .cases h1
     .cases h1
    .exact h0 _
 |new o k ih=>intro w;unfold iT;exact ih _ _
 |shape r k ih=>intro w;unfold iT;exact ih _ _
 |freeze a n k ih=>
  intro w;unfold iT;have e:(w.freeze a n).drawn=w.drawn:=by unfold World.freeze;first|rfl|grind
  have:=ih (w.freeze a n);revert this;generalize iT p _ _=r;intro h2;cases r<;>(show w.drawn<=_;rw[<-e];exact h2)
 |frozen a k ih=>intro w;unfold iT;exact ih _ _
 |getObj r k ih=>
  intro w;unfold iT;split
  .exact bR _
  .exact ih _ _
  .exact bR _
 |setObj r o k ih=>
  intro w;unfold iT;split
  .exact bR _
  .exact ih _
  .exact bR _
 |choose q k ih=>
  intro w;unfold iT;split
  .exact ih _ w
  .have:=ih (q.cut (w.tape w.drawn q)) {w with drawn:=w.drawn+1};revert this;generalize iT p _ _=r;intro h;cases r<;>exact cZ (Nat.le_succ _) h
 |sys c k ih=>
  intro w;unfold iT;have:=ih (w.sys c).1 (w.sys c).2;have h2:=Nz w c;revert this;generalize iT p _ _=r;intro h;cases r<;>exact cZ h2 h
 |program k ih=>intro w;unfold iT;exact ih _ _
 |mark m k ih=>intro w;unfold iT;exact ih _
 |halt h=>intro w;exact bR _
section
variable {p:Program}
variable{w w':World}
def jW{α:Type}{s:Sem α}{a:α}(h:s.run p w= .ok a w'):w.drawn<=w'.drawn:=by have:=Ck p s w;rw[h]at this;exact this
def qi{α:Type}{s:Sem α}{e:Halt}(h:s.run p w= .halt e w'):w.drawn<=w'.drawn:=by have:=Ck p s w;rw[h]at this;exact this
def AE{α:Type}:∀(s:Sem α) (w:World) (es:Array Event),(s.runT p w es).1=s.run p w:=jc
variable{es:Array Event}
def aDk{α:Type}{s:Sem α}{a:α}{es':Array Event}(h:s.runT p w es=(.ok a w',es')):w.drawn<=w'.drawn:=by have:=AE (p:=p) s w es;rw[h]at this;exact jW this.symm
def Gv{α:Type}{s:Sem α}{e:Halt}{es':Array Event}(h:s.runT p w es=(.halt e w',es')):w.drawn<=w'.drawn:=by have:=AE (p:=p) s w es;rw[h]at this;exact qi this.symm
def sQ{α:Type}{s:Sem α}{a:α}(h:(s.runT p w es).1= .ok a w'):w.drawn<=w'.drawn:=jW ((AE s w es).symm.trans h)
def pq{α:Type}{s:Sem α}{e:Halt}(h:(s.runT p w es).1= .halt e w'):w.drawn<=w'.drawn:=qi ((AE s w es).symm.trans h)
def wd:GStep->Nat
 | .go _ w _=>w.drawn
 | .comm _ _ _ _ w _=>w.drawn
 | .spawn _ _ w _=>w.drawn
 | .count _ w _=>w.drawn
 | .timer _ _ w _=>w.drawn
 | .alone _ _ w _=>w.drawn
 | .newcoro _ _ _ w _=>w.drawn
 | .coroswitch _ _ _ w _=>w.drawn
 | .collect _ w _=>w.drawn
 | .watch _ w _=>w.drawn
 | .ended _ w _=>w.drawn
def vV(es:Array Event)(s:GStep):wd (s.after es)=wd s:=by cases s<;>rfl
def EG{c:Prop} [Decidable c]{a b:GStep}{n:Nat}(h1:n<=wd a)(h2:n<=wd b):n<=wd (if c then a else b):=aH
def MA(fr:Frame)(v:Value)(w:World):w.drawn<=wd (endPrinting p fr v w):=by unfold endPrinting;dsimp only;split<;>exact bR _
def Mq(fr:Frame)(cs:List Frame)(d:Option Dying)(m:String)(w:World):w.drawn<=wd (endFatal p fr cs d m w):=by
 unfold endFatal;dsimp only;split
 .exact jW aJ
 .exact qi aJ
 .exact qi aJ
def Yw(fd:Nat)(t:ByteArray)(o:Outcome)(w:World):w.drawn<=wd (endWith w fd t o):=by
 have h:=Nz w (.write fd t);unfold endWith;dsimp only;split
 .rename_i e;rw[e]at h;split<;>exact h
 .rename_i e;rw[e]at h;exact h
 .rename_i e;rw[e]at h;exact h
def X3(fr:Frame)(d:Dying)(f:Fatal)(w:World):w.drawn<=wd (writeOn p fr d f w):=by
 unfold writeOn;dsimp only;split
 .exact bR _
 .split
  .exact aDk aJ
  .exact Gv aJ
  .exact Gv aJ
  .exact Gv aJ
def aFg(fr:Frame)(d:Dying)(w:World):w.drawn<=wd (die p fr d w):=by
 unfold die;split
 .exact X3 _ _ _ _
 .split
  .split
   .exact bR _
   .exact Yw _ _ _ _
  .split
   .exact bR _
   .split
    .exact jW aJ
    .exact qi aJ
   .rw[vV];split
    .rename_i heq;exact sQ heq
    .rename_i heq;exact sQ heq
    .rename_i heq;exact pq heq
    .rename_i heq;exact cZ (pq heq) (MA _ _ _)
    .exact bR _
   .exact bR _
def aCA(fr:Frame)(cs:List Frame)(d:Option Dying)(g:Nat)(w:World):w.drawn<=wd (early p fr cs d g w):=by
 unfold early;dsimp only
 repeat' split
 all_goals first|exact bR _|(have h:=jW ‹iT p (choose (Question.early g)) w=B5 _ _›;exact h)|exact qi ‹iT p (choose (Question.early g)) w=Result.halt _ _›
def GM(main:Bool)(fr:Frame)(cs:List Frame)(d:Option Dying)(v:Value)(w:World):wd (doReturn p main fr cs d v w)=w.drawn:=by
 unfold doReturn
 repeat' split
 all_goals rfl
def Wa(fr:Frame)(cs:List Frame)(d:Option Dying)(f:Deferred)(w:World):w.drawn<=wd (callDeferred p fr cs d f w):=by
 unfold callDeferred;refine EG ?_ ?_
 .exact bR _
 .rw[vV];split;all_goals first
   |exact sQ aJ
   |exact pq aJ
   |exact cZ (pq ‹(Sem.runT p (invoke f.target f.args) w #[]).1=Result.halt _ _›) (Mq _ _ _ _ _)
   |(split<;>exact sQ ‹(Sem.runT p (invoke f.target f.args) w #[]).1=B5 _ _›)
def ZO(main:Bool)(fr:Frame)(cs:List Frame)(d:Option Dying)(w:World):w.drawn<=wd (unwind p main fr cs d w):=by
 unfold unwind;split
 .rw[vV];split
  .exact sQ aJ
  .exact pq aJ
 .exact Wa _ _ _ _ _
 .split
  .exact bR _
  .split
   .exact bR _
   .split
    .exact bR _
    .split
     .split
      .exact bR _
      .split
       .exact jW aJ
       .exact qi aJ
       .exact qi aJ
     .split
      .exact MA _ _ _
      .exact bR _
  .split
   .exact Fo (GM _ _ _ _ _ _).symm
   .rw[vV];split
    .exact cZ (sQ aJ) (Fo (GM _ _ _ _ _ _).symm)
    .exact pq aJ
    .exact pq aJ
def DV(listen:Bool)(fr:Frame)(cs:List Frame)(d:Option Dying)(s:Sem Next)(w:World):w.drawn<=wd (stepG.apply p listen fr cs d s w):=by
 unfold stepG.apply;have hr:Result.drew w (if listen=aE then s.runT p w #[]else(s.run p w, #[])).1:=by
  split
  .rw[AE];exact Ck _ _ _
  .exact Ck _ _ _
 rw[vV];generalize (if listen=aE then s.runT p w #[]else(s.run p w, #[])).1=r at hr|-;cases r with
 |ok a w'=>
  cases a;all_goals (try exact hr)
  all_goals (dsimp only;repeat' split)
  all_goals exact hr
 |halt e w'=>
  cases e with
  |unsupported u=>cases u<;>first|exact hr|exact cZ hr (aCA _ _ _ _ _)
  |fatal m=>exact cZ hr (Mq _ _ _ _ _)
  |_=>exact hr
def aDx(listen:Bool)(fr:Frame)(cs:List Frame)(d:Option Dying)(w:World):w.drawn<=wd (stepG.oper p listen fr cs d w):=by
 unfold stepG.oper;split
 .exact bR _
 .split<;>exact DV _ _ _ _ _ _
def aD3(main:Bool)(listen:Bool)(fr:Frame)(cs:List Frame)(d:Option Dying)(w:World):w.drawn<=wd (stepG.exec p main listen fr cs d w):=by
 have hleave:∀jump:Option Code,w.drawn<=wd (match fr.roundOf with
   |none=>if jump matches aM|some .ret then GStep.go {frame:={fr with mode:= .returning},callers:=cs,status:= .running,dying:=d} w else .ended (.stuck "exit, goto: no such block or label" (fr.pos p)) w
   |some l=>GStep.after (seen p fr.fn ((Instr.endRound l jump).runT p w #[]).2)<|match((Instr.endRound l jump).runT p w #[]).1 with
    | .ok v w=>doReturn p main fr cs d v w
    | .halt _ w=> .ended (.stuck "range over a function: no such loop" (fr.pos p)) w):=by
  intro jump;split
  .refine EG ?_ ?_<;>exact bR _
  .rw[vV];split
   .exact cZ (sQ aJ) (Fo (GM _ _ _ _ _ _).symm)
   .exact pq aJ
 unfold stepG.exec;dsimp only;split;all_goals (try exact bR _)
 all_goals (try exact hleave _)
 all_goals (try exact DV _ _ _ _ _ _)
 all_goals (try exact hleave aM)
 all_goals (try exact hleave (aD .ret))
 .split<;>exact bR _
 .cases exitTo _ _
  .exact hleave (aD (.exit _))
  .exact bR _
 .cases gotoIn _ _
  .exact hleave (aD (.goto _))
  .exact bR _
 .rw[vV];split
  .exact cZ (sQ aJ) (DV _ _ _ _ _ _)
  .exact pq aJ
 .split
  .exact sQ aJ
  .exact pq aJ
  .exact pq aJ
 .cases Extern.next _
  .exact bR _
  .exact DV _ _ _ _ _ _
 .refine EG (bR _) ?_;split
  .exact jW aJ
  .exact qi aJ
 .exact EG (aDx _ _ _ _ _) (bR _)
def aBk(main:Bool)(g:Goroutine)(w:World)(listen:Bool):w.drawn<=wd (stepG p main g w listen):=by
 unfold stepG;split;split
 .exact aFg _ _ _
 .exact aD3 _ _ _ _ _ _
 .exact ZO _ _ _ _ _
def sd(n:Nat):Stepped->Prop
 | .next m=>n<=m.world.drawn
 | .ended _ _=>True
def Rq(gs:Array Goroutine)(rest:Rest)(w:World):sd w.drawn (look p gs rest w):=by
 unfold look;split
 .dsimp only
  repeat' split
  all_goals first|exact trivial|skip
  all_goals (have h:=jW (p:=p) (w:=w) aJ;exact h)
 .exact trivial
def X5{rest:Rest}{cases:Array CommCase}(h:waitingAt rest cases w=aD w'):w.drawn<=w'.drawn:=by unfold waitingAt at h;grind
def aEc(rest:Rest)(gs:Array Goroutine)(i:Nat)(g:Goroutine)(cases:Array CommCase)(b:Bool)(shape:CommShape)(w:World):sd w.drawn (communicate p rest gs i g cases b shape w).1:=by
 unfold communicate;dsimp only
 repeat' split
 all_goals first
  |exact trivial
  |exact bR _
  |exact X5 aJ
  |(have h:=jW (p:=p) (w:=w) aJ;first
     |exact h
     |(have h2:=qi (p:=p) ‹iT p (runtimePanic (RuntimeError.plain "send on closed channel")) _=Result.halt _ _›;exact cZ h h2)
     |(have h2:=jW (p:=p) ‹iT p (choose (Question.extern "which waiting goroutine is the partner" _)) _=B5 _ _›;exact cZ h h2))
def aCB(w:World)(c:Nat):(drain w c).2.drawn=w.drawn:=by unfold drain;split<;>rfl
def OF(m:Machine)(k:Nat)(t:Timer)(a b:Nat):(retime m k t a b).2.world.drawn=m.world.drawn:=by
 unfold retime;cases t.chan with
 |none=>rfl
 |some c=>exact aCB _ _
def Z4{m m':Machine}{v:Addr}(h:timerOp.opened m v=aD m'):m'.world.drawn=m.world.drawn:=by unfold timerOp.opened at h;grind
def Pz{m m':Machine}{var:Addr}{f:Nat->Timer->Value×Machine}{v:Value}{n:Nat}(hf:∀k t,(f k t).2.world.drawn=n)(h:timerOp.named m var f= .ok (v,m')):m'.world.drawn=n:=by unfold timerOp.named at h;grind
def YC{m m':Machine}{op:TimerOp}{v:Value}(h:timerOp m op= .ok (v,m')):m'.world.drawn=m.world.drawn:=by
 unfold timerOp at h;split at h
 .split at h
  .cases h;rfl
  grind
 .exact Pz (λk t=>OF _ _ _ _ _) h
 .split at h
  .rename_i ho;exact(Pz (λk t=>OF _ _ _ _ _) h).trans (Z4 ho)
  .cases h
 .cases h;rfl
def aDj(m:Machine)(i:Nat)(listen:Bool):sd m.world.drawn (runT p m i listen).1:=by
 unfold runT;generalize (m.gs.swapAt! i {(default:Goroutine)with status:= .finished})=q;obtain⟨g,gs⟩:=q;dsimp only;have hs:=aBk (p:=p) (i==0) g m.world listen;generalize stepG p (i==0) g m.world listen=s at hs|-;cases s with
 |ended o w es=>exact trivial
 |comm g cases b shape w es=>
  have:=aEc (p:=p) m.rest gs i g cases b shape w;revert this;generalize (communicate p m.rest gs i g cases b shape w).1=r;intro h;cases r with
  |next m'=>exact cZ hs h
  |ended _ _=>exact trivial
 |go g w es=>exact hs
 |spawn g c w es=>exact hs
 |count g w es=>
  dsimp only;split
  .exact trivial
  .exact hs
 |alone g on w es=>exact hs
 |collect g w es=>
  have:=Rq (p:=p) (gs.setIfInBounds i g) m.rest w;dsimp only;revert this;generalize look p (gs.setIfInBounds i g) m.rest w=r;intro h;cases r with
  |next m'=>exact cZ hs h
  |ended _ _=>exact trivial
 |watch g w es=>exact hs
 |newcoro g c d w es=>exact hs
 |coroswitch g c exit w es=>
  dsimp only;split
  .exact hs
  .exact hs
  .exact trivial
 |timer g op w es=>
  dsimp only;split
  .rename_i h;exact cZ hs (Fo (YC h).symm)
  .exact hs
  .exact trivial
  .exact trivial
def md(n:Nat):Move->Prop
 | .goroutine m _=>n<=m.world.drawn
 | .machine s _=>sd n s
def aBw(m:Machine)(k:Nat):sd m.world.drawn (serve p m k):=by
 unfold serve;split
 .exact trivial
 .exact bR _
 .dsimp only;split
  .exact trivial
  .exact bR _
def KT{a b:Nat}{x:Move}(h:a<=b)(hx:md b x):md a x:=by
 cases x with
 |goroutine m i=>exact cZ h hx
 |machine s ops=>cases s with
  |next m=>exact cZ h hx
  |ended _ _=>exact trivial
def Ic(m:Machine):md m.world.drawn (askOn p m):=by
 unfold askOn;dsimp only
 repeat' split
 all_goals first
  |exact trivial
  |(have h:=jW (p:=p) (w:=m.world) aJ;first
     |exact h
     |exact KT h (aBw (p:=p) _ _)
     |exact cZ h (jW (p:=p) aJ)
     |exact cZ h (cZ (jW (p:=p) aJ) (jW (p:=p) aJ))
     |exact cZ h (cZ (jW (p:=p) aJ) (cZ (jW (p:=p) aJ) (jW (p:=p) aJ)))
     |(have h2:=jW (p:=p) ‹iT p (choose (Question.extern "clock.wait" _)) _=B5 _ _›;first
        |exact cZ h h2
        |(have h3:=jW (p:=p) ‹iT p (choose (Question.sched _)) _=B5 _ _›;first
           |exact cZ h (cZ h2 h3)
           |(have h4:=jW (p:=p) ‹iT p (choose (Question.extern "sched.slice" _)) _=B5 _ _›;exact cZ h (cZ h2 (cZ h3 h4))))))
  |skip
def TC(m:Machine):md m.world.drawn (ask p m):=by
 unfold ask;split
 .split
  .exact trivial
  .rename_i w1 h1;have h2:=Rq (p:=p) m.gs m.rest w1;have h1:=jW h1;split
   .rename_i h3;rw[h3]at h2;exact KT (cZ h1 h2) (Ic _)
   .cases hl:look p m.gs m.rest w1 with
    |next m'=>grind
    |ended _ _=>exact trivial
  .rename_i h1;exact KT (jW h1) (Ic _)
 .exact Ic m
def aDJ(m:Machine):md m.world.drawn (move p m):=by
 unfold move;split
 .split
  .exact bR _
  .exact trivial
 .split
  .split
   .exact bR _
   .exact TC _
  .exact TC _
def YD{m m':Machine}(h:step p m= .next m'):m.world.drawn<=m'.world.drawn:=by
 have hm:=aDJ (p:=p) m;unfold step stepT at h;cases hv:move p m with
 |goroutine m1 i=>
  rw[hv]at hm h;have:=aDj (p:=p) m1 i aE;rw[h]at this;exact cZ hm this
 |machine s ops=>
  rw[hv]at hm h;dsimp only at h;rw[h]at hm;exact hm
def GU:∀(n:Nat) {m m':Machine},runN p n m= .next m'->m.world.drawn<=m'.world.drawn
 |0,m,m',h=>by cases h;omega
 |n+1,m,m',h=>by
  unfold runN at h;split at h
  .rename_i m1 h1;exact cZ (YD h1) (GU n h)
  grind
def Mv{f:FuncId}{args:Array Value}{R:Ending->World->Prop}(h:Calls p f args w R)(hn:∀w',¬R .outgrown w'):Calls p f args w λe w'=>R e w'/\w.drawn<=w'.drawn:=by
 intro cs;obtain⟨e,w',fr,h1,h2,h3⟩:=h cs;refine⟨e,w',fr,⟨h1,?_⟩,h2,h3⟩;cases e with
 |returned v=>obtain⟨n,hn⟩:=h2;exact GU n hn
 |panicked c=>obtain⟨n,hn⟩:=h2;exact GU n hn
 |outgrown=>grind
end
end Go.Proofs.YthbofdolalagjaaGreat
namespace Go.Proofs
open Go.Shelf
def Tryz.sort69_ren:Go.Shelf.Ren:=⟨λ|6=>69|15=>143|14=>142|28=>194|29=>195|20=>186|21=>187|22=>188|23=>189|24=>190|25=>191|26=>192|27=>193|46=>209|47=>210|48=>211|49=>212|50=>213|57=>225|n=>n,λ|22=>24|24=>23|25=>40|3=>3|39=>135|0=>0|53=>170|55=>172|4=>4|46=>163|45=>162|50=>167|5=>5|9=>9|66=>180|70=>184|76=>193|77=>59|n=>n,λ|n=>n⟩
def Tryz.sort69:Go.Proofs.SlLaysF.n6 bi Tryz.sort69_ren:={
 mixed:=by kernel_rfl
 f6:=⟨Tryz.f69.name,by decide,Tryz.func69.trans (congrArg aD (by kernel_rfl))⟩
 f14:=⟨Tryz.f142.name,by decide,Tryz.func142.trans (congrArg aD (by kernel_rfl))⟩
 f15:=Tryz.func143.trans (congrArg aD (by kernel_rfl))
 f20:=⟨Tryz.f186.name,by decide,Tryz.func186.trans (congrArg aD (by kernel_rfl))⟩
 f21:=⟨Tryz.f187.name,by decide,Tryz.func187.trans (congrArg aD (by kernel_rfl))⟩
 f22:=⟨Tryz.f188.name,by decide,Tryz.func188.trans (congrArg aD (by kernel_rfl))⟩
 f23:=⟨Tryz.f189.name,by decide,Tryz.func189.trans (congrArg aD (by kernel_rfl))⟩
 f24:=⟨Tryz.f190.name,by decide,Tryz.func190.trans (congrArg aD (by kernel_rfl))⟩
 f25:=⟨Tryz.f191.name,by decide,Tryz.func191.trans (congrArg aD (by kernel_rfl))⟩
 f26:=⟨Tryz.f192.name,by decide,Tryz.func192.trans (congrArg aD (by kernel_rfl))⟩
 f27:=⟨Tryz.f193.name,by decide,Tryz.func193.trans (congrArg aD (by kernel_rfl))⟩
 f28:=Tryz.func194.trans (congrArg aD (by kernel_rfl))
 f29:=Tryz.func195.trans (congrArg aD (by kernel_rfl))
 f46:=⟨Tryz.f209.name,by decide,Tryz.func209.trans (congrArg aD (by kernel_rfl))⟩
 f47:=Tryz.func210.trans (congrArg aD (by kernel_rfl))
 f48:=Tryz.func211.trans (congrArg aD (by kernel_rfl))
 f49:=⟨Tryz.f212.name,by decide,Tryz.func212.trans (congrArg aD (by kernel_rfl))⟩
 f50:=⟨Tryz.f213.name,by decide,Tryz.func213.trans (congrArg aD (by kernel_rfl))⟩
 f57:=⟨Tryz.f225.name,by decide,Tryz.func225.trans (congrArg aD (by kernel_rfl))⟩
 t0:=Tryz.underlying0
 a0:=Tryz.isAgg0
 z0:=Tryz.sizeOf0
 v0:=Tryz.zeroValue0
 t3:=zA
 a3:=Tryz.isAgg3
 z3:=Tryz.sizeOf3
 v3:=Tryz.zeroValue3
 t4:=Tryz.underlying4
 a4:=Tryz.isAgg4
 z4:=Tryz.sizeOf4
 v4:=Tryz.zeroValue4
 t5:=Tryz.underlying5
 a5:=Tryz.isAgg5
 z5:=Tryz.sizeOf5
 v5:=Tryz.zeroValue5
 t9:=Tryz.underlying9
 a9:=Tryz.isAgg9
 z9:=Tryz.sizeOf9
 v9:=Tryz.zeroValue9
 t22:=Fl
 a22:=Tryz.isAgg24
 z22:=Tryz.sizeOf24
 v22:=Tryz.zeroValue24
 a24:=Tryz.isAgg23
 z24:=Tryz.sizeOf23
 t25:=Tryz.underlying40
 a25:=Tryz.isAgg40
 z25:=Tryz.sizeOf40
 v25:=Tryz.zeroValue40
 t39:=Tryz.underlying135
 a39:=Tryz.isAgg135
 z39:=Tryz.sizeOf135
 v39:=Tryz.zeroValue135
 t45:=Tryz.underlying162
 a45:=Tryz.isAgg162
 z45:=Tryz.sizeOf162
 v45:=Tryz.zeroValue162
 t46:=Tryz.underlying163
 a46:=Tryz.isAgg163
 z46:=Tryz.sizeOf163
 v46:=Tryz.zeroValue163
 t50:=Tryz.underlying167
 a50:=Tryz.isAgg167
 z50:=Tryz.sizeOf167
 v50:=Tryz.zeroValue167
 t53:=Tryz.underlying170
 a53:=Tryz.isAgg170
 z53:=Tryz.sizeOf170
 v53:=Tryz.zeroValue170
 t55:=Tryz.underlying172
 a55:=Tryz.isAgg172
 z55:=Tryz.sizeOf172
 v55:=Tryz.zeroValue172
 t66:=Tryz.underlying180
 a66:=Tryz.isAgg180
 z66:=Tryz.sizeOf180
 v66:=Tryz.zeroValue180
 t70:=Tryz.underlying184
 a70:=Tryz.isAgg184
 z70:=Tryz.sizeOf184
 v70:=Tryz.zeroValue184
 t76:=Tryz.underlying193
 a76:=Tryz.isAgg193
 z76:=Tryz.sizeOf193
 v76:=Tryz.zeroValue193
 t77:=Tryz.underlying59
 a77:=Tryz.isAgg59
 z77:=Tryz.sizeOf59
 v77:=Tryz.zeroValue59}
end Go.Proofs
namespace Go.Proofs.YthbofdolalagjaaGreat
structure Lay(w w':World):Prop where
 below:Below w.heap.size w w'
 drawn:w.drawn<=w'.drawn
def Lay.grow{w w':World}(h:Lay w w'):∃q os,w'=Fp (w.drewN q) os:=by
 obtain⟨p,hp⟩:=XB h.below;refine⟨w'.drawn-w.drawn,p.os,?_⟩;have hd:=h.drawn;have hn:w'.drawn=p.n:=by rw[hp];rfl
 rw[hp];unfold grD Fp World.drewN;grind
def Rs{f:Nat}{xa ya:Option Addr}{xc yc:Nat}{xs ys:aU}{w:World}{i:Int}(hk:∃A q,avs [SV.lst .V xs,.lst .V ys] =A.map .p/\(SV.int .i64 i).av= .p q/\Sat bi aK f A q)(hx:RdV w xa xs)(hy:RdV w ya ys)(lx:Len ⟨xa,xc,xs⟩)(ly:Len ⟨ya,yc,ys⟩):
  Calls bi f #[.slice xa (aA xs) xc,.slice ya (aA ys) yc] w λe w'=>e= .returned (.int .i64 i)/\Lay w w':=
 (Mv (AN hk (B:=[.sl (aA xs) (iR xs),.sl (aA ys) (iR ys)]) rfl rfl (λC v h=>by unfold bE at h;exact h)
   ((bk.one (ry hy ly)).Ei (ry hx lx))) aH).mono λe w' h=>⟨h.1.1,h.1.2,h.2⟩
def BV(x y:aU):Int:=cQ (aI7 x 0) (aI7 y 0)
section
open Go.RowKit Go.Sort Go.Shelf Go.Lib
section
variable {α:Type} [Inhabited α]
variable{enc:α->Value}
def L4{w:World}{g n:Nat}{d:Array α}{os:Array Obj}{cur:Array Value}{t:TypeId}(hb:w.heap[g]? =aD (.cells cur t (0,0))):(sortWorld enc w g 0 n d os).heap[g]? =aD (.cells (putCells enc 0 d cur) t (0,0)):=by have hlt:=(Ls.1 hb).1;unfold sortWorld Fp putRow mapBlock;simp only[heap_ahead];rw[Array.getElem?_append_left aH,Array.getElem?_modify,if_pos rfl,hb];rfl
def Fq{w:World}{g n:Nat}{d:Array α}{os:Array Obj}:w.grownBy (sortWorld enc w g 0 n d os) (aD g):=by
 refine⟨rfl,rfl,rfl,?_,?_⟩
 .unfold sortWorld Fp putRow mapBlock;simp
 .intro k hk hne;unfold sortWorld Fp putRow mapBlock;simp only[heap_ahead];grind
def Wr{d:Array α}{cur:Array Value}(h:d.size<=cur.size):(putCells enc 0 d cur).toList.take d.size=d.toList.map enc:=by
 apply List.ext_getElem?;intro i;rw[rQ];by_cases hi:i<d.size
 .rw[if_pos hi];unfold putCells;grind
 grind
end
def MF(g:Nat)(hg:∀args w,(callFunc g args).run bi w= .ok (.enter g args) w)(cf:aU->aU->Int)(base:Nat)(v:Value)(rs:List RV)(w:World)(hl:aA rs<=1000000)
  (hrow:w.ownsRow base 23 1 v (aA rs) (rs.map RV.enc)) (hok:∀x∈rs,RingOk base w v x) (hO:SWO (ltOf λx y:{x:RV//x∈rs}=>cf x.1.r y.1.r))
  (hcmp:∀x∈rs,∀y∈rs,∀wx,RdV wx x.a x.r->RdV wx y.a y.r->Calls bi g #[x.enc,y.enc] wx λe w'=>e= .returned (.int .i64 (cf x.r y.r))/\Lay wx w'):
  Calls bi 69 #[v,.func (.func g) #[] #[]] w λe w'=>e= .returned (.tuple #[])/\∃rs':List RV,rs'.Perm rs/\rs'.Pairwise (λa b=>¬cf b.r a.r<0)/\w'.ownsRow base 23 1 v (aA rs') (rs'.map RV.enc)/\(∀x∈rs',RingOk base w' v x)/\w.grownBy w' v.ownBlock:=by
 by_cases hr0:rs=[]
 .subst hr0;have hv:∃p cap,v= .slice p 0 cap:=by
   rcases hrow.2 with⟨h1,_⟩|⟨gb,cap,cur,h1,_⟩
   .grind
   .grind
  obtain⟨p,cap,rfl⟩:=hv;have h:=AnyF.slices_SortFunc_none (P:=bi) (ρ:=Tryz.sort69_ren) {Tryz.sort69 with} p cap (.func (.func g) #[] #[]) w;change Calls bi 69 _ _ _ at h;refine h.mono ?_;rintro e w' ⟨rfl,rfl⟩;exact⟨rfl,[],FF _,wU,hrow,hok,⟨rfl,rfl,rfl,bR _,λ_ _ _=>rfl⟩⟩
 .obtain⟨x0,hx0⟩:=Bh _ hr0;have:Inhabited {x:RV//x∈rs}:=⟨⟨x0,hx0⟩⟩;rcases hrow.2 with⟨_,h1⟩|⟨gb,cap,cur,rfl,hbb,hh,hn,hcap,hsz,htk⟩
  .grind
  .obtain⟨d,hd⟩:∃d:Array {x:RV//x∈rs},d=rs.attach.toArray:=⟨_,rfl⟩;have hds:d.size=aA rs:=by rw[hd];simp
   have hdm:d.toList.map (·.1)=rs:=by rw[hd];simp
   have hcs:aA rs<=cur.size:=by rw[hsz];omega
   have hH:Holds (λx:{x:RV//x∈rs}=>RV.enc x.1) w gb 0 d:=by
    intro j hj;have e1:cur[j]? =aD (RV.enc d[j]!.1):=by
     have e2:(cur.toList.take (aA rs*1))[j]? =(rs.map RV.enc)[j]? :=by rw[htk]
     rw[rQ,if_pos aC]at e2;have e3:(rs.map RV.enc)[j]? =aD (RV.enc d[j]!.1):=by
      have e4:((d.toList.map (·.1)).map RV.enc)[j]? =aD (RV.enc d[j]!.1):=by rw[du,ip];simp[hj]
      rw[hdm]at e4;exact e4
     rw[e3]at e2;simpa using e2
    refine⟨?_,?_⟩
    .rw[ku];exact(cell_of_row w gb j cur 23 (0,0) hh).trans e1
    .simp[World.frozen?,hh]
   have hblk:gb<w.heap.size:=(Ls.1 hh).1;have h:=Any.slices_SortFunc (P:=bi) (ρ:=Tryz.sort69_ren) Tryz.sort69 (λx:{x:RV//x∈rs}=>RV.enc x.1) (λ_=>rfl) (λx y=>cf x.1.r y.1.r) hO g #[] gb 0 cap d w hg (by intro m os dk hdk x y;have hG:=Fq (enc:=λx:{x:RV//x∈rs}=>RV.enc x.1) (w:=w) (g:=gb) (n:=m) (d:=dk) (os:=os);have h1:=hcmp x.1 x.2 y.1 y.2 _ ((hok x.1 x.2).rd.grown (hok x.1 x.2).sep hG) ((hok y.1 y.2).rd.grown (hok y.1 y.2).sep hG);rw[show(#[RV.enc x.1,RV.enc y.1] ++(#[] :Array Value))= #[RV.enc x.1,RV.enc y.1] by simp];exact h1.mono λe w' ⟨he,hL⟩=>⟨he,hL.grow⟩) hH hblk aC
   change Calls bi 69 _ _ _ at h;rw[hds]at h;refine h.mono ?_;rintro e w' ⟨rfl,d',n,os,hp,hs,rfl⟩;obtain⟨p1,_,p3⟩:=hp;have hG:=Fq (enc:=λx:{x:RV//x∈rs}=>RV.enc x.1) (w:=w) (g:=gb) (n:=n) (d:=d') (os:=os);have hperm:d'.toList.Perm d.toList:=by
    have e1:(d'.extract 0 (aA rs)).toList=d'.toList:=by rw[<-hds,<-p1];simp
    have e2:(d.extract 0 (aA rs)).toList=d.toList:=by rw[<-hds];simp
    rwa[e1,e2]at p3
   have hpr:(d'.toList.map (·.1)).Perm rs:=by have:=hperm.map (·.1);rwa[hdm]at this
   have hlen:aA (d'.toList.map (·.1))=aA rs:=hpr.length_eq;refine⟨rfl,d'.toList.map (·.1),hpr,?_,?_,?_,hG⟩
   .rw[kG,u5];intro i j hi hj hij;have hj':j<d'.size:=by simpa using hj
    have:=hs i j (lh _) hij aC;unfold ltOf at this;grind
   .refine⟨af,.inr ⟨gb,cap,_,by rw[hlen],hbb,L4 hh,aC,hcap,by unfold putCells;grind,?_⟩⟩;rw[hlen,Nat.mul_one,<-hds,<-p1,Wr aC,du];rfl
   .intro x hx;have hx2:=hpr.mem_iff.1 hx;have ok:=hok x hx2;exact⟨ok.rd.grown ok.sep hG,ok.fresh,ok.cap,ok.len,ok.sep⟩
end
section
variable{rs:List RV}
def Xu:Sort.SWO (ltOf λx y:{x:RV//x∈rs}=>cg x.1.r y.1.r):=by
 have h:∀x y:{x:RV//x∈rs},ltOf (λx y:{x:RV//x∈rs}=>cg x.1.r y.1.r) x y=aE↔cg x.1.r y.1.r<0:=by intro x y;unfold ltOf;rw[decide_eq_true_eq]
 refine⟨?_,?_,?_⟩
 .intro x;rw[pZ,ne_eq,h];have:=MU x.1.r;omega
 .intro x y z h1 h2;rw[h]at*;exact Fx _ _ _ h1 h2
 .intro x y z h1 h2;rw[pZ,ne_eq,h]at*;have e1:=tZ x.1.r y.1.r;have e2:=tZ y.1.r z.1.r;have e3:=tZ x.1.r z.1.r;have:= @MP z.1.r y.1.r x.1.r;unfold j4 at this;omega
def Y7{a b:aU}(h:¬cg b a<0):j4 a b:=by have:=tZ a b;unfold j4;omega
def Zo{C:bf}{w:World}{b:Nat}(hC:∀b' o v,C b' o v->w.cell? ⟨b',o,aM⟩=aD v/\b'≠b){r:List V}{v:Value}(h:bE C (jK r) v):
  ∃a c,v= .slice a (aA r) c/\RdV w a r/\(aA r)<=c/\(0<aA r->∀ad,a=aD ad->ad.block≠b)/\(a=aM->c=0):=by
 obtain⟨a,c,hv,h1,h2,h0n⟩:=H0 (λb' o v h=>(hC b' o v h).1) h;refine⟨a,c,hv,h1,h2,λh0 ad ha=> ?_,h0n⟩;unfold jK bE at h;obtain⟨a',c',hv',_,_,h3⟩:=h;rw[hv]at hv';simp only[Value.slice.injEq,true_and]at hv';obtain⟨rfl,rfl⟩:=hv';obtain⟨_,h5⟩:=h3 _ ha;have hl:0<aA (iR r):=by rw[yH.length];omega
 obtain⟨u,h6,_⟩:=h5.get _ _ _ 0 _ (fQ hl);grind
structure RingIn(C:bf)(w:World)(b:Nat)(x:RV):Prop where
 rep:bE C (jK x.r) x.enc
 rd:RdV w x.a x.r
 cap:aA x.r<=x.c
 sep:0<aA x.r->∀ad,x.a=aD ad->ad.block≠b
 nn:x.a=aM->x.c=0
def OB{C:bf}{w:World}{b:Nat}(hC:∀b' o v,C b' o v->w.cell? ⟨b',o,aM⟩=aD v/\b'≠b):∀(l:List aU) (us:List Value),
  (∀(i:Nat) x,(l.map jK)[i]? =aD x->∃v,us[i]? =aD v/\bE C x v)->∃rs:List RV,rs.map RV.r=l/\rs.map RV.enc=us.take (aA l)/\∀x∈rs,RingIn C w b x
 |[],us,_=>⟨[],rfl,af,af⟩
 |r::l,us,h=>by
  obtain⟨v,h1,h2⟩:=h 0 (jK r) rfl;cases us with
  |nil=>simp at h1
  |cons u us=>
   simp at h1;subst h1;obtain⟨rs,h3,h4,h5⟩:=OB hC l us λi x hi=>by simpa using h (i+1) x aH
   obtain⟨a,c,rfl,g1,g2,g3,g4⟩:=Zo hC h2;refine⟨⟨a,c,r⟩::rs,by simp[h3],by simp[h4,RV.enc],?_⟩;intro x hx;rcases bO.1 hx with rfl|hx
   .exact⟨h2,g1,g2,g3,g4⟩
   grind
def Yp{w w':World}(h:w.grownBy w' aM):Below w.heap.size w w':=⟨h.os,h.tape,h.output,h.size,λk hk=>h.block k hk af⟩
def aFv(args:Array Value)(w:World):(callFunc 26 args).run bi w= .ok (.enter 26 args) w:=nP br args w
def aE2(h:∀x∈rs,Len x):∀x∈rs,∀y∈rs,∀wx,RdV wx x.a x.r->RdV wx y.a y.r->Calls bi 26 #[x.enc,y.enc] wx λe w'=>e= .returned (.int .i64 (cg x.r y.r))/\Lay wx w':=
 λx hx y hy wx h1 h2=>Rs (k26 [.lst .V x.r,.lst .V y.r] (x.r,y.r) rfl ((lI (l:=c26.pre (x.r,y.r))).1 ⟨cZ (h x hx).1 bg,cZ (h y hy).1 bg⟩)) h1 h2 (h x hx) (h y hy)
def OA(g:Nat)(hg:∀args w,(callFunc g args).run bi w= .ok (.enter g args) w)(cf:aU->aU->Int)(l m:List aU)(hn:aA l<=1000000)(hl:∀r∈l,aA r<=1000)(hlen:aA m=aA l)
  (hO:∀rs:List RV,rs.map RV.r=l->Sort.SWO (ltOf λx y:{x:RV//x∈rs}=>cf x.1.r y.1.r))
  (hc:∀rs:List RV,rs.map RV.r=l->(∀x∈rs,Len x)->∀x∈rs,∀y∈rs,∀wx,RdV wx x.a x.r->RdV wx y.a y.r->Calls bi g #[x.enc,y.enc] wx λe w'=>e= .returned (.int .i64 (cf x.r y.r))/\Lay wx w')
  (hu:∀k:List aU,k.Perm l->k.Pairwise (λa b=>¬cf b a<0)->k=m):pS bi 69 (aD (aA l)) [.fn (.func g) [] []] 23 1 (l.map jK) (m.map jK):=by
 have hfn:∀(C:bf) (vs:List Value),bk C [.fn (.func g) [] []] vs->vs=[.func (.func g) #[] #[]] :=by intro C vs h;unfold bk at h;obtain⟨v,r,rfl,h1,h2⟩:=h;unfold bk at h2;subst h2;unfold bE at h1;obtain⟨a,b,rfl,h3,h4⟩:=h1;unfold bk at h3 h4;subst h3;subst h4;rfl
 refine⟨br,by simp[hlen],?_,?_⟩
 .intro C w b c arr vs hC hL hnc hA;rw[hfn C vs hA];have hnc:=hnc _ rfl;obtain⟨h1,h2,h3⟩:=hL.row bg;obtain⟨rs,g1,g2,g3⟩:=OB hC l arr.toList λi x hi=>by obtain⟨v,k1,_,k2⟩:=hL.cells i x hi;grind
  have hrl:aA rs=aA l:=by rw[<-g1,dq]
  have hr1:∀x∈rs,aA x.r<=1000:=λx hx=>hl _ aH;have hrow:w.ownsRow 0 23 1 (.slice (aD ⟨b,0,aM⟩) (aA l) c) (aA rs) (rs.map RV.enc):=
   ⟨af,.inr ⟨b,c,arr,by rw[hrl],lh _,hL.blk,aC,h3,h1,aH⟩⟩
  refine(MF g hg cf 0 _ rs w aC hrow ?_ (hO rs g1) (hc rs g1 λx hx=>⟨hr1 x hx,(g3 x hx).cap,(g3 x hx).nn⟩)).mono ?_
  .intro x hx;refine⟨(g3 x hx).rd,λad _=>lh _,(g3 x hx).cap,hr1 x hx,λh0 ad ha e=>(g3 x hx).sep h0 ad ha ?_⟩;simp only[FV,iG]at e;exact e.symm
  .rintro e w' ⟨rfl,rs',hp,hs,hrow',hok',hg⟩;have hso:rs'.map RV.r=m:=by refine hu _ aH ?_;rw[kG];exact hs
   obtain⟨hz,hcase⟩:=hrow';rcases hcase with⟨e,_⟩|⟨gb,cap,cur,e,_,hblk,hnc',hcm,hsz,htk⟩
   .cases e
   .simp only[Value.slice.injEq,iG,Addr.mk.injEq,and_true]at e;obtain⟨rfl,e2,rfl⟩:=e;refine⟨cur,rfl,⟨hblk,λh=>absurd h bg,λ_=>⟨hsz,aH,hcm⟩,?_⟩,hg⟩;intro i x hi;rw[<-hso,du]at hi;rw[ip]at hi;cases hx:rs'[i]? with
    |none=>grind
    |some y=>
     rw[hx]at hi;simp only[fk,iG,FG]at hi;subst hi;have hi':i<aA rs':=(Bs.1 hx).1;have hy:y∈rs:=hp.mem_iff.1 (WJ hx);have h7:(rs'.map RV.enc)[i]? =aD y.enc:=by rw[ip,hx];rfl
     rw[<-htk,List.getElem?_take_of_lt aC]at h7;exact⟨y.enc,aH,rfl,(g3 y hy).rep⟩
 .intro h0 C w vs hC hA;rw[hfn C vs hA];have hl0:l=[] :=pg.1 aH;subst hl0;refine(MF g hg cf 0 (.slice aM 0 0) [] w af ⟨af,.inl ⟨rfl,rfl⟩⟩ af (hO [] rfl) (hc [] rfl af)).mono ?_;rintro e w' ⟨rfl,rs',_,_,_,_,hg⟩;exact⟨rfl,Yp hg⟩
def SL(a b:aU):BV a b<0↔cB (aI7 a 0) (aI7 b 0)=aE:=by unfold BV;exact Ag _ _
def aEP(args:Array Value)(w:World):(callFunc 127 args).run bi w= .ok (.enter 127 args) w:=nP br args w
def aCG:Sort.SWO (ltOf λx y:{x:RV//x∈rs}=>BV x.1.r y.1.r):=by
 have h:∀x y:{x:RV//x∈rs},ltOf (λx y:{x:RV//x∈rs}=>BV x.1.r y.1.r) x y=aE↔cB (aI7 x.1.r 0) (aI7 y.1.r 0)=aE:=by intro x y;unfold ltOf;rw[decide_eq_true_eq,SL]
 refine⟨?_,?_,?_⟩
 .intro x;rw[pZ,ne_eq,h,G9];simp
 .intro x y z h1 h2;rw[h]at*;revert h1 h2;unfold cB;grind
 .intro x y z h1 h2;rw[pZ,ne_eq,h]at*;revert h1 h2;unfold cB;grind
def YJ(l:List aU)(hn:aA l<=1000000)(hl:∀r∈l,aA r<=1000):pS bi 69 (aD (aA l)) [.fn (.func 26) [] []] 23 1 (l.map jK) ((dG l).map jK):=
 OA 26 aFv cg l _ hn hl (vJ l).length_eq (λ_ _=>Xu) (λ_ _ hL=>aE2 hL)
  λk hp hs=>W2 hp (hs.imp λh=>Y7 h)
def XV(l:List aU)(hn:aA l<=1000000)(hl:∀r∈l,0<(aA r)/\(aA r)<=1000)(ha:∀a∈l,∀b∈l,leH a b->leH b a->a=b):pS bi 69 (aD (aA l)) [.fn (.func 127) [] []] 23 1 (l.map jK) ((sf l).map jK):=by
 have hm:∀rs:List RV,rs.map RV.r=l->∀x∈rs,x.r∈l:=λrs hr x hx=>aH;refine OA 127 aEP BV l _ hn (λr hr=>(hl r hr).2) (nQ l).length_eq (λ_ _=>aCG) (λrs hr hL x hx y hy wx h1 h2=> ?_) λk hp hs=> ?_
 .have g1:=hl _ (hm rs hr x hx);have g2:=hl _ (hm rs hr y hy);exact Rs (aHg [.lst .V x.r,.lst .V y.r] (x.r,y.r) rfl ((lI (l:=Vm.pre (x.r,y.r))).1 ⟨g1.2,g2.2,g1.1,g2.1⟩)) h1 h2 (hL x hx) (hL y hy)
 .have hs:k.Pairwise leH:=hs.imp λ{a b} h=>by rw[SL]at h;exact(rm _ _).1 (by simpa using h)
  exact V2 (λa b h1 h2 h3 h4=>ha a (hp.mem_iff.1 h1) b ((nQ l).mem_iff.1 h2) h3 h4) hs (W5 l) (hp.trans (nQ l).symm)
def d68:List SV->Option (List aU×Bool)
 |[.lst .R l,.fnp 26 [] []] =>aD (l,aE)
 |[.lst .R l,.fnp 127 [] []] =>aD (l,aK)
 |_=>aM
def r68:List aU×Bool->List aU
 |(l,aE)=>dG l
 |(l,aK)=>sf l
def p68:List aU×Bool->List Prop
 |(l,aE)=>[aA l<=1000000,∀r∈l,aA r<=1000]
 |(l,aK)=>[aA l<=1000000,∀r∈l,0<(aA r)/\(aA r)<=1000,∀a∈l,∀b∈l,leH a b->leH b a->a=b]
def aCD{l:List aU}{rest:List SV}{x:List aU×Bool}(h:d68 (.lst .R l::rest)=aD x):(rest=[.fnp 26 [] []]/\x=(l,aE))\/(rest=[.fnp 127 [] []]/\x=(l,aK)):=by unfold d68 at h;grind
def c68:Con:=⟨List aU×Bool,d68,p68,.mutR .R 23 r68⟩
def k68:c68.Okz 69:=by
 intro l rest x hd hp;rcases aCD hd with⟨rfl,rfl⟩|⟨rfl,rfl⟩
 .refine⟨[.fn (.func 26) [] []],rfl,?_⟩;rw[wH];show pS _ _ _ _ _ _ _ (LT.R.enc (dG l));rw[wH];exact YJ l (hp _ cR) (hp _ (cM _ cR))
 .refine⟨[.fn (.func 127) [] []],rfl,?_⟩;rw[wH];show pS _ _ _ _ _ _ _ (LT.R.enc (sf l));rw[wH];exact XV l (hp _ cR) (hp _ (cM _ cR)) (hp _ (cM _ (cM _ cR)))
def t68:=tS.adk k68
end
def HH{p:Pt}{w:Int}:∀{l:List aU} {k:Nat},k<aA l->(∀j,j<k->¬cE (aP l j) p=2/\¬cE (aP l j) p=1)->(cE (aP l k) p=2->0=lO p l w)/\(¬cE (aP l k) p=2->cE (aP l k) p=1->1=lO p l w)
 |[],k,h,_=>by simp at h
 |r::l,0,h,_=>by
  unfold lO;refine⟨λe=> ?_,λe1 e2=> ?_⟩
  .rw[if_pos (show cE r p=2 from e)]
  .rw[if_neg (show¬cE r p=2 from e1),if_pos (show cE r p=1 from e2)]
 |r::l,k+1,h,h1=>by
  unfold lO;obtain⟨e1,e2⟩:=h1 0 aC;rw[if_neg (show¬cE r p=2 from e1),if_neg (show¬cE r p=1 from e2)];exact HH (l:=l) (k:=k) (by simpa using h) λj hj=>h1 (j+1) aC
def Nd{p:Pt}{w:Int}:∀{l:List aU},(∀j,j<aA l->¬cE (aP l j) p=2/\¬cE (aP l j) p=1)->w=lO p l w
 |[],_=>rfl
 |r::l,h1=>by
  unfold lO;obtain⟨e1,e2⟩:=h1 0 af;rw[if_neg (show¬cE r p=2 from e1),if_neg (show¬cE r p=1 from e2)];exact Nd (l:=l) λj hj=>h1 (j+1) aH
def c66:Con:=con (ac aSh (a1 aT)) (λ(s,_)=>[Fit s]) (λ(s,p)=> .iqz (fm s p))
def k66:c66.Okz 67:=bI t68 (λ(s,p)=>[cnt 7 21 (aA s.holes) (aY λj=>¬cE (aP s.holes j) p=2/\¬cE (aP s.holes j) p=1)]
 ) λ(s,p) hp=>bD (aO (!bL s) λB=>Fit s/\qbq B (0=fm s p) (aA s.outer<=1000/\qiq (¬cE s.outer p=2) (cE s.outer p=fm s p) ((0=(0:Int)/\(0:Nat)<=(aA s.holes)/\aY (λj=>¬cE (aP s.holes j) p=2/\¬cE (aP s.holes j) p=1) 0)/\
  (∀x:Nat,aO (x:Int) λA=>aO (aP s.holes x) λC=>x<=(aA s.holes)/\aY (λj=>¬cE (aP s.holes j) p=2/\¬cE (aP s.holes j) p=1) x->qiq (A<aA s.holes) (ix A (aA s.holes)/\(aA C)<=1000/\qiq (cE C p=2) (0=fm s p) (qiq (cE C p=1) (1=fm s p) (qnr A x (x+1<=(aA s.holes)/\aY (λj=>¬cE (aP s.holes j) p=2/\¬cE (aP s.holes j) p=1) (x+1)/\(aA s.holes)-(x+1)<aA s.holes-x)))) (cE s.outer p=fm s p))))) (by
 change Fit s at hp;have w0:(!bL s)=aE->0=fm s p:=λh=>by unfold fm;rw[if_pos h]
 have w1:(!bL s)=aK->¬cE s.outer p=2->cE s.outer p=fm s p:=λh h2=>by unfold fm;grind
 have w2:(!bL s)=aK->¬¬cE s.outer p=2->fm s p=lO p s.holes 2:=λh h2=>by unfold fm;grind
 have hl:∀x:Nat,(x:Int)<aA s.holes->aA (aP s.holes x)<=1000:=λx h=>hp.2.2 _ (iU aC);have hn:=hp.2.1;have ho:=hp.1;have a2:∀x:Nat,(x:Int)<aA s.holes->aY (λj=>¬cE (aP s.holes j) p=2/\¬cE (aP s.holes j) p=1) x->cE (aP s.holes x) p=2->0=lO p s.holes 2:=λx h1 h2 h3=>(HH aC h2).1 h3;have a1:∀x:Nat,(x:Int)<aA s.holes->aY (λj=>¬cE (aP s.holes j) p=2/\¬cE (aP s.holes j) p=1) x->¬cE (aP s.holes x) p=2->cE (aP s.holes x) p=1->1=lO p s.holes 2:=λx h1 h2 h3 h4=>(HH aC h2).2 h3 h4;have a0:∀x:Nat,¬(x:Int)<aA s.holes->x<=aA s.holes->aY (λj=>¬cE (aP s.holes j) p=2/\¬cE (aP s.holes j) p=1) x->2=lO p s.holes 2:=λx h1 h2 h3=>by obtain rfl:x=aA s.holes:=aC;exact Nd h3
 have hf:=hp;clear hp
 repeat' first|with_reducible apply cJ|with_reducible intro
 all_goals repeat with_reducible cases‹_/\aY _ _›
 all_goals first|assumption|rfl|omega|(unfold ix;omega)|(unfold aX;omega)|exact iJ _|exact w0 aJ|exact w1 aJ aJ|exact hl _ aJ|(rw[w2 aJ aJ];exact a2 _ aJ aJ aJ)|(rw[w2 aJ aJ];exact a1 _ aJ aJ aJ aJ)|(rw[w2 aJ aJ,vE ‹¬¬cE s.outer p=2›];exact a0 _ aJ aJ aJ)|exact cO aJ ⟨aJ,aJ⟩)
def t66:=t68.adk k66
def aZ(s:Shape):Shape:=if bL s=aE then cn s else⟨[],[]⟩
def Yi{s:Shape}(h:VS s):∀a∈s.holes.map bo,∀b∈s.holes.map bo,leH a b->leH b a->a=b:=by
 have hn:=h.nodup;unfold bW aR at hn;rw[List.flatten_cons,List.nodup_append]at hn;have hn2:((s.holes.map bo).flatten).Nodup:=(Ly s.holes).nodup_iff.2 hn.2.1;have hne:∀r∈s.holes.map bo,aI7 r 0∈r:=by intro r hr;obtain⟨q,hq,rfl⟩:=bn.1 hr;have h3:=(h.ring (show q∈aR s by simp[aR,hq])).three;exact fC.2 ⟨0,by rw[je];omega,rfl⟩
 intro a ha b hb h1 h2;have e:aI7 a 0=aI7 b 0:=AG h1 h2;exact zL _ hn2 a ha b hb (aI7 a 0) (hne a ha) aH
def GQ{s:Shape}(h:VS s):s.holes.map dX=s.holes.map bo:=List.map_congr_left λr hr=>by unfold dX;rw[(ig r).2 (h.ring (by simp[aR,hr]))];rfl
def c57:Con:=con (a1 aSh) (λs=>[Fit s]) (λs=>aSh.enc (aZ s))
def k57:c57.Okz 58:=bI t66 (λs=>[(5,.mk Nat (λF _=>nA F 17) [15] (λk=>[k<=aA s.holes]) (λk=>[(17,.iqz (k:Int))]) (λk=>[(9,.box 26 [.lst .V (dX s.outer),.own 15 .R k]),(15,.row 23 .R ((s.holes.take k).map dX))]) (λk=>aA s.holes-k) ae)]
 ) λs hp=>bD (aO (aZ s) λA=>aO (0:Nat) λC=>aO (!bL s) λD=>aO ([] :List (List aI8)) λH=>Fit s/\qbq D (A.outer=([] :List aI8)/\A.holes=H) (aA s.outer<=1000/\(0=(0:Int)/\dX s.outer=dX s.outer/\C=0/\eP dX (ak 0 s.holes)=H/\C<=aA s.holes)/\
 (∀x:Nat,aO (x:Int) λB=>aO (aP s.holes x) λE=>aO (ak x s.holes) λF=>aO (eP dX F) λG=>aO (eP dX F,aK) λI=>x<=aA s.holes->qiq (B<aA s.holes) (ix B (aA s.holes)/\(aA E)<=1000/\x=(aA G)/\(aA G)+[dX E].length<=1000000/\qnr B x (dX s.outer=dX s.outer/\(aA (eP dX F++[dX E]))=x+1/\eP dX F++[dX E] =eP dX (ak (x+1) s.holes)/\x+1<=(aA s.holes)/\(aA s.holes)-(x+1)<aA s.holes-x)) (x=(aA G)/\(aA G)<=1000000/\(∀r:aU,r∈eP dX F->C<(aA r)/\(aA r)<=1000)/\(∀a:aU,a∈eP dX F->(∀b:aU,b∈eP dX F->leH a b->leH b a->a=b))/\x=(aA (r68 I))/\dX s.outer=A.outer/\r68 I=A.holes)))) (by
 change Fit s at hp;have c0:(!bL s)=aE->aZ s=⟨[],[]⟩:=λh=>by unfold aZ;grind
 have c1:(!bL s)=aK->aZ s=cn s:=λh=>by unfold aZ;grind
 have V:(!bL s)=aK->VS s:=λh=>(rj s).1 (nb h);have hl:∀x:Nat,(x:Int)<aA s.holes->aA (aP s.holes x)<=1000:=λx h=>hp.2.2 _ (iU aC);have hn:=hp.2.1;have ho:=hp.1;have e1:∀x:Nat,x<=aA s.holes->aA (eP dX (ak x s.holes))=x:=λx h=>aH;have e2:∀x:Nat,(x:Int)<aA s.holes->eP dX (ak x s.holes)++[dX (aP s.holes x)] =eP dX (ak (x+1) s.holes):=λx h=>by rw[lC aC,dV,jz aC];rfl
 have e3:∀x:Nat,¬(x:Int)<aA s.holes->ak x s.holes=s.holes:=λx h=>jB aC;have g1:(!bL s)=aK->∀x:Nat,¬(x:Int)<aA s.holes->∀r∈eP dX (ak x s.holes),0<(aA r)/\(aA r)<=1000:=λh x hx r hr=>by rw[e3 x hx,GQ (V h)]at hr;obtain⟨q,hq,rfl⟩:=bn.1 hr;rw[je];have h3:=((V h).ring (show q∈aR s by simp[aR,hq])).three;have:=hp.2.2 q hq;omega
 have g2:(!bL s)=aK->∀x:Nat,¬(x:Int)<aA s.holes->∀a∈eP dX (ak x s.holes),∀b∈eP dX (ak x s.holes),leH a b->leH b a->a=b:=λh x hx=>by rw[e3 x hx,GQ (V h)];exact Yi (V h)
 have g3:∀l,aA (r68 (l,aK))=aA l:=λl=>(nQ l).length_eq;have g4:(!bL s)=aK->dX s.outer=(aZ s).outer:=λh=>by rw[c1 h];unfold dX;rw[(ig _).2 ((V h).ring (by simp[aR]))];rfl
 have g5:(!bL s)=aK->∀x:Nat,¬(x:Int)<aA s.holes->r68 (eP dX (ak x s.holes),aK)=(aZ s).holes:=λh x hx=>by rw[e3 x hx,GQ (V h),c1 h];rfl
 have hf:=hp;clear hp
 repeat' first|with_reducible apply cJ|with_reducible intro
 all_goals grind)
def t57:=t66.adk k57
def aH3:Con:=con (a1 aS) (λs=>[bd 1000000000 s.a,bd 1000000000 s.b]) (λs=>aT.enc (iW s))
def aGx:aH3.Okz 182:=bI t57 (λs=>[jb 3 26 (decide ((s.a.x+s.b.x).tmod 2=0)&&decide ((s.a.y+s.b.y).tmod 2=0))]
  ) λs hp=>bD (aO (2:Int) λA=>aO (s.a.x+s.b.x) λB=>aO (s.a.y+s.b.y) λC=>aO (iW s) λD=>aO (decide (dA B 2=0)&&decide (dA C 2=0)) λE=>aX B/\aX C/\(A≠0/\qiq (dA B 2=0) (A≠0/\decide (dA C 2=0)=E) (aK=E))/\
 (∀y:Unit,qbq E (A≠0/\aX (fe B 2)/\A≠0/\aX (fe C 2)/\fe B 2=D.x/\fe C 2=D.y/\1=D.den) (s.a.x+s.b.x=D.x/\s.a.y+s.b.y=D.y/\2=D.den))) (by
  change bd 1000000000 s.a/\bd 1000000000 s.b at hp;unfold bd at hp;have k1:aX (s.a.x+s.b.x):=bP aC;have k2:aX (s.a.y+s.b.y):=bP aC;have q1:=rr (x:=s.a.x+s.b.x) (g:=2) (B:=4000000000) aC;have q2:=rr (x:=s.a.y+s.b.y) (g:=2) (B:=4000000000) aC;have k3:aX (fe (s.a.x+s.b.x) 2):=bP aC;have k4:aX (fe (s.a.y+s.b.y) 2):=bP aC;have m1:(decide (dA (s.a.x+s.b.x) 2=0)&&decide (dA (s.a.y+s.b.y) 2=0))=aE->iW s=⟨(s.a.x+s.b.x).tdiv 2,(s.a.y+s.b.y).tdiv 2,1⟩:=λh=>by simp only[cD,decide_eq_true_eq]at h;exact if_pos h
  have m2:(decide (dA (s.a.x+s.b.x) 2=0)&&decide (dA (s.a.y+s.b.y) 2=0))=aK->iW s=⟨s.a.x+s.b.x,s.a.y+s.b.y,2⟩:=λh=>if_neg λh2=>aH;grind)
def UP:=t57.adk aGx
def aIG:Con:=con (ac aS (a1 aS)) ae (λ(s,t)=> .bool (dD s t)
 )
def aG9:aIG.Okz 134:=bI UP ae λ(s,t) _=>bD (qiq (cX s t=0) (aE=dD s t) (qiq (cX s t=1) (qiq (s.a=t.a) (aE=dD s t) (qiq (s.a=t.b) (aE=dD s t) (qiq (s.b=t.a) (aE=dD s t) (decide (s.b=t.b)=dD s t)))) (aK=dD s t))) (by have hd:∀a b:aI8,(a==b)=decide (a=b):=λa b=>aH;unfold dD x6;grind)
def U5:=UP.adk aG9
def aPS:Ar S where
 enc s:= .pro [.int .i64 s.a.x,.int .i64 s.a.y,.int .i64 s.b.x,.int .i64 s.b.y] 0
 dec s:=match s with
  | .pro [.int .i64 x,.int .i64 y,.int .i64 z,.int .i64 w] 0=>aD ⟨⟨x,y⟩,⟨z,w⟩⟩
  |_=>aM
 ok s a h:=aH
 pl _:=⟨_,rfl⟩
def Tv:Ar (S×Unit):=aCl 133 (ac aPS a0)
def aIH:Con:=con (ac aS (a1 aPS)) ae (λ(d,c)=> .bool (!dD c d)
 )
def aHa:aIH.Okz 133:=bI U5 ae λ(d,c) _=>bD (aO (!dD c d) λA=>A=A) (by rfl)
def U6:=U5.adk aHa
def aH4:Con:=con (ac (aL .S) (a1 Tv)) (λ(l,_)=>[aA l<=1000000]) (λ(l,c)=> .iqz (fI (λd=> !dD c.1 d) l))
def aGy:aH4.Okz 181:=bI U6 (λ(l,c)=>[cnt 2 8 (aA l) (aY λj=>(!dD c.1 (az l j))=aK)]
  ) λ(l,c) hp=>bD ((0=(0:Int)/\(0:Nat)<=(aA l)/\aY (λj=>(!dD c.1 (az l j))=aK) 0)/\
 (∀x:Nat,aO (x:Int) λA=>aO (!dD c.1 (az l x)) λB=>x<=(aA l)/\aY (λj=>(!dD c.1 (az l j))=aK) x->qiq (A<aA l) (ix A (aA l)/\qbq B (A=fI (λd=>(!dD c.1 d)) l) (qnr A x (x+1<=(aA l)/\aY (λj=>(!dD c.1 (az l j))=aK) (x+1)/\(aA l)-(x+1)<aA l-x))) (-1=fI (λd=>(!dD c.1 d)) l))) (by
  change (aA l)<=1000000 at hp
  with_reducible ((repeat' first|apply cJ|intro);all_goals repeat cases‹_/\_›)
  all_goals first|rfl|exact s8 (t:= .S) aC aJ aJ|(obtain rfl:_=aA l:=w7 aJ aC;exact vq (t:= .S) aJ)|grind)
def UQ:=U6.adk aGy
def aII:Con:=con (ac (aL .S) (a1 Tv)) (λ(l,_)=>[aA l<=1000000]) (λ(l,c)=> .bool (l.any λd=> !dD c.1 d)
 )
def aHb:aII.Okz 132:=bI UQ ae λ(l,c) hp=>bD (aA l<=1000000/\decide (0<=fI (λd=>(!dD c.1 d)) l)=jT l (λd=>(!dD c.1 d))) (by change (aA l)<=1000000 at hp;exact⟨hp,yC _ _⟩)
def U7:=UQ.adk aHb
def aIF:Con:=con (ac aSh (ac (aL .S) (a1 aS))) (λ(s,l,c)=>[Fit s,aA l<=1000000,bd 1000000000 c.a,bd 1000000000 c.b]) (λ(s,l,c)=> .bool ((l.all λe=>dD e c)&&fm s (iW c)==2))
def aG8:aIF.Okz 135:=bI U7 (λ(_,l,c)=>[cnt 2 11 (aA l) (aY λj=>dD (az l j) c=aE)]
  ) λ(s,l,c) hp=>bD (aO (iW c) λB=>(0=(0:Int)/\(0:Nat)<=(aA l)/\aY (λj=>dD (az l j) c=aE) 0)/\
 (∀x:Nat,aO (x:Int) λA=>aO (!dD (az l x) c) λC=>x<=(aA l)/\aY (λj=>dD (az l j) c=aE) x->qiq (A<aA l) (ix A (aA l)/\qbq C (aK=(od l (λe=>dD e c)&&fm s B==2)) (qnr A x (x+1<=(aA l)/\aY (λj=>dD (az l j) c=aE) (x+1)/\(aA l)-(x+1)<aA l-x))) (bd 1000000000 c.a/\bd 1000000000 c.b/\Fit s/\decide (fm s B=2)=(od l (λe=>dD e c)&&fm s B==2)))) (by
  change Fit s/\(aA l)<=1000000/\bd 1000000000 c.a/\bd 1000000000 c.b at hp;have n1:∀x:Nat,(x:Int)<aA l->(!dD (az l x) c)=aE->aK=(od l (λe=>dD e c)&&fm s (iW c)==2):=λx h1 h2=>by rw[EL (t:= .S) (l:=l) (q:=λe=>dD e c) (j:=x) aC (nb' h2)];rfl
  have n2:∀x:Nat,¬(x:Int)<aA l->x<=aA l->aY (λj=>dD (az l j) c=aE) x->decide (fm s (iW c)=2)=(od l (λe=>dD e c)&&fm s (iW c)==2):=λx h1 h2 h3=>by obtain rfl:x=aA l:=aC;rw[Dw (t:= .S) (l:=l) (q:=λe=>dD e c) h3,jq,gR];simp
  obtain⟨hf,hll,hb1,hb2⟩:=hp
  repeat' first|with_reducible apply cJ|with_reducible intro
  all_goals repeat with_reducible cases‹_/\aY _ _›
  all_goals first|rfl|with_reducible solve_by_elim|exact cO aJ (nb aJ)|grind)
def U4:=U7.adk aG8
def pK(s:Shape)(v:List aI8)(i k:Nat):List (Nat×Nat):=aJf s v (fo s v i) i (k-(i+1))
def tkB(s:Shape)(v:List aI8)(i k:Nat):Bool:= !((pK s v i k).any λd=> !(dD ⟨aI7 v i,aI7 v k⟩ (dH v d)))&&jY s ⟨aI7 v i,aI7 v k⟩
section
variable {s:Shape} {v:List aI8} {i k:Nat}
def aDw:pK s v i (i+1)=fo s v i:=by unfold pK;rw[Nat.sub_self];rfl
def RW(h:i<k):pK s v i (k+1)=if tkB s v i k=aE then pK s v i k++[(i,k)]else pK s v i k:=by unfold tkB pK;rw[show k+1-(i+1)=(k-(i+1))+1 by omega];show sZ s v _ i (i+1+(k-(i+1)))=_;rw[show i+1+(k-(i+1))=k by omega];rfl
def aEV(h:¬(k:Int)<aA v)(h2:k<=aA v):pK s v i k=fo s v (i+1):=by obtain rfl:k=aA v:=aC;rfl
def Hy(acc:List (Nat×Nat)):∀m,aA (aJf s v acc i m)<=aA acc+m
 |0=>bR _
 |m+1=>by
  have:=Hy acc m;unfold aJf sZ;grind
def CF:∀i,aA (fo s v i)<=i*aA v
 |0=>by simp[fo]
 |i+1=>by
  have h1:=CF i;have h2:=Hy (s:=s) (v:=v) (i:=i) (fo s v i) (aA v-(i+1));unfold fo;grind
def aEU(hv:aA v<=900)(hi:i<=aA v)(hk:k<=aA v):aA (pK s v i k)<=820000:=by have h1:=CF (s:=s) (v:=v) i;have h2:=Hy (s:=s) (v:=v) (i:=i) (fo s v i) (k-(i+1));have h3:i*aA v<=900*900:=rZ aC hv;unfold pK;omega
end
def c60:Con:=con (ac aSh (a1 (aL .V))) (λ(s,v)=>[Fit s,aA v<=900,(∀x∈v,bd 1000000000 x),aA (ao s)<=1000000]) (λ(s,v)=> .lst .P (eM s v))
def k60:c60.Okz 61:=bI U4 (λ(s,v)=>[(5,.mk Nat (λF _=>nA F 16) [10,11] (λi=>[i<=aA v]) (λi=>[(16,.iqz (i:Int)),(6,.own 10 .P (aA (fo s v i))),(7,.own 11 .S (aA (fo s v i)))]) (λi=>[(10,.row 69 .P (fo s v i)),(11,.row 46 .S ((fo s v i).map (dH v)))]) (λi=>aA v-i) λi=>
  [(8,.mk Nat (λF _=>nA F 9) [10,11] (λk=>[i<k,k<=aA v]) (λk=>[(9,.iqz (k:Int)),(6,.own 10 .P (aA (pK s v i k))),(7,.own 11 .S (aA (pK s v i k)))]) (λk=>[(10,.row 69 .P (pK s v i k)),(11,.row 46 .S ((pK s v i k).map (dH v)))]) (λk=>aA v-k) λk=>[jb 13 46 (tkB s v i k)])])]
  ) λ(s,v) hp=>bD (aO (dH v) λF=>aO (fo s v 0) λP=>Fit s/\(0=(0:Int)/\(aA P)=0/\(aA P)=0/\fo s v 0=([] :List (Prod Nat Nat))/\eP F P=([] :List S)/\(0:Nat)<=aA v)/\
 (∀x:Nat,aO (x+1) λA=>aO (x:Int) λD=>aO (pK s v x A) λH=>aO (fo s v x) λO=>aO (fo s v A) λQ=>aO ((x+1:Nat):Int) λR=>x<=aA v->qiq (D<aA v) (aX (D+1)/\(D+1=R/\(aA O)=(aA H)/\(aA O)=(aA H)/\fo s v x=pK s v x A/\eP F O=eP F H/\x<x+1/\x+1<=aA v)/\
   (∀x_1:Nat,aO (x,x_1) λB=>aO (x_1+1) λC=>aO (x_1:Int) λE=>aO (pK s v x C) λG=>aO (pK s v x x_1) λJ=>aO (eP F J) λK=>aO (x_1+1:Nat) λM=>aO (⟨(aI7 v x),(aI7 v x_1)⟩:S) λN=>x<x_1/\x_1<=aA v->qiq (E<aA v) (ix D (aA v)/\ix E (aA v)/\(aA J)=(aA K)/\(aA K)<=1000000/\(qbq (!jT K (λd=>(!dD N d))) (Fit s/\(aA (ao s))<=1000000/\bd 1000000000 N.a/\bd 1000000000 N.b/\(od (ao s) (λe=>dD e N)&&fm s (iW N)==2)=tkB s v x x_1) (aK=tkB s v x x_1))/\
     (∀y:Unit,qbq (tkB s v x x_1) (aA J=(aA K)/\(aA K)+[N].length<=1000000/\(aA J)=(aA J)/\(aA J)+[B].length<=1000000/\aX (E+1)/\E+1=(M:Int)/\(aA (pK s v x x_1++[B]))=(aA G)/\(aA (eP F J++[N]))=(aA G)/\pK s v x x_1++[B] =pK s v x C/\eP F J++[N] =eP F G/\x<x_1+1/\x_1+1<=(aA v)/\(aA v)-C<aA v-x_1) (aX (E+1)/\E+1=(M:Int)/\(aA J)=(aA G)/\(aA J)=(aA G)/\pK s v x x_1=pK s v x C/\eP F J=eP F G/\x<x_1+1/\x_1+1<=(aA v)/\(aA v)-C<aA v-x_1))) (aX (D+1)/\D+1=R/\(aA J)=(aA Q)/\(aA J)=(aA Q)/\pK s v x x_1=fo s v A/\eP F J=eP F Q/\x+1<=(aA v)/\(aA v)-A<aA v-x))) (aA O=(aA O)/\fo s v x=eM s v))) (by
  change Fit s/\(aA v)<=900/\((∀x∈v,bd 1000000000 x))/\(aA (ao s))<=1000000 at hp;obtain⟨hf,hv,hb,he⟩:=hp;have hb:∀x:Nat,(x:Int)<aA v->bd 1000000000 (aI7 v x):=λx h=>hb _ (dh aC);have hL:∀i k:Nat,(i:Int)<aA v->k<=aA v->aA (pK s v i k)<=820000:=λi k h1 h2=>aEU hv aC h2;have z:=λi=> @aDw s v i;have sY:∀i k:Nat,i<k->tkB s v i k=aE->pK s v i k++[(i,k)] =pK s v i (k+1):=λi k h h2=>by rw[RW h,if_pos h2]
  have sN:∀i k:Nat,i<k->tkB s v i k=aK->pK s v i k=pK s v i (k+1):=λi k h h2=>by rw[RW h,if_neg (by rw[h2];simp)]
  have sM:∀i k:Nat,i<k->tkB s v i k=aE->(pK s v i k).map (dH v)++[⟨aI7 v i,aI7 v k⟩] =(pK s v i (k+1)).map (dH v):=λi k h h2=>by rw[<-sY i k h h2,dV];rfl
  have pE:=λ(i k:Nat) (h:¬(k:Int)<aA v) (h2:k<=aA v)=> @aEV s v i k h h2;have uE:∀i:Nat,¬(i:Int)<aA v->i<=aA v->fo s v i=eM s v:=λi h1 h2=>by rw[(aC:i=aA v)];rfl
  have tA:∀i k:Nat,(eP (dH v) (pK s v i k)).any (λd=> !dD ⟨aI7 v i,aI7 v k⟩ d)=(pK s v i k).any (λd=> !dD ⟨aI7 v i,aI7 v k⟩ (dH v d)):=λi k=>by rw[List.any_map];rfl
  have tY:∀i k:Nat,(!(eP (dH v) (pK s v i k)).any (λd=> !dD ⟨aI7 v i,aI7 v k⟩ d))=aE->((ao s).all (λe=>dD e ⟨aI7 v i,aI7 v k⟩)&&fm s (iW ⟨aI7 v i,aI7 v k⟩)==2)=tkB s v i k:=λi k h=>by unfold tkB;rw[<-tA,h];rfl
  have tN:∀i k:Nat,(!(eP (dH v) (pK s v i k)).any (λd=> !dD ⟨aI7 v i,aI7 v k⟩ d))=aK->aK=tkB s v i k:=λi k h=>by unfold tkB;grind
  repeat' first|with_reducible apply cJ|with_reducible intro
  all_goals repeat with_reducible cases‹_<_/\_›
  all_goals first|rfl|with_reducible solve_by_elim|(rw[z];done)|(rw[dq];done)|(rw[dq];exact cZ (hL _ _ aJ aJ) bg)|(rw[dq];exact cZ (Nat.add_le_add_right (hL _ _ aJ aJ) 1) bg)|exact cZ (Nat.add_le_add_right (hL _ _ aJ aJ) 1) bg|exact congrArg aA (sN _ _ aJ aJ)|exact congrArg (eP (dH v)) (sN _ _ aJ aJ)|exact congrArg aA (sY _ _ aJ aJ)|(rw[sM _ _ aJ aJ,dq];done)|exact congrArg aA (pE _ _ aJ aJ)|exact congrArg (eP (dH v)) (pE _ _ aJ aJ)|grind)
def t60:=U4.adk k60
section
def Hx{s:Shape}{v:List aI8}{acc:List (Nat×Nat)}{i:Nat}:∀{m:Nat} {p:Nat×Nat},p∈aJf s v acc i m->p∈acc\/(p.1=i/\i<p.2/\p.2<i+1+m)
 |0,p,h=> .inl h
 |m+1,p,h=>by
  unfold aJf sZ at h;split at h
  .rcases bz.1 h with h|h
   .rcases Hx h with h|⟨h1,h2,h3⟩
    .exact .inl h
    omega
   grind
  .rcases Hx h with h|⟨h1,h2,h3⟩
   .exact .inl h
   omega
def Mg{s:Shape}{v:List aI8}:∀{i:Nat} {p:Nat×Nat},i<=aA v->p∈fo s v i->p.1<p.2/\p.2<aA v
 |0,p,_,h=>by simp[fo]at h
 |i+1,p,hi,h=>by
  unfold fo at h;rcases Hx h with h|⟨h1,h2,h3⟩
  .exact Mg aC h
  .omega
variable{s:Shape}
def NI{v:List aI8}{p:Nat×Nat}(h:p∈eM s v):p.1<p.2/\p.2<aA v:=Mg (bR _) h
def Xp(r:aU):aA (aW r)<=aA r:=by unfold aW;grind
def Lz:∀l:List aU,aA (l.flatMap aW)<=(l.map aA).sum
 |[] =>af
 |r::l=>by
  have:=Lz l;have:=Xp r;grind
def F9(h:VS s):aA (ao s)<=80:=by have h1:=Lz (aR s);have h2:=h.corners;unfold jy at h2;unfold ao;omega
def Y8(h:VS s){r:aU}(hr:r∈(cn s).holes):3<=(aA r)/\(aA r)<=40:=by unfold cn at hr;have hr:=(nQ _).subset hr;obtain⟨q,hq,rfl⟩:=bn.1 hr;have hv:=h.ring (r:=q) (by unfold aR;grind);rw[je];exact⟨hv.three,hv.most⟩
def C3(V:VS s):0<(aA (cn s).outer)/\∀r∈(cn s).holes,0<aA r:=
 ⟨by have h:=V.outer.three;show 0<aA (bo s.outer);rw[je];omega,λr hr=>by have:=Y8 V hr;omega⟩
def c17:Con:=con (a1 aSh) (λs=>[Fit s]) (λs=> .tup [.lst .V (vOf s),.iqz (eOf s)])
def k17:c17.Okz 17:=bI t60 (λs=>[(5,.mk Nat (λF _=>nA F 14) [12] (λk=>[k<=aA (aR (aZ s))]) (λk=>[(14,.iqz (k:Int)),(4,.own 12 .V (aA ((aR (aZ s)).take k).flatten))]) (λk=>[(12,.row 44 .V ((aR (aZ s)).take k).flatten)]) (λk=>aA (aR (aZ s))-k) ae)]
 ) λs hp=>bD (Fit s/\qbq (!bL s) (vOf s=([] :List aI8)/\11=eOf s) (Fit s/\Fit (aZ s)/\(0:Nat)<(aA (aZ s).outer)/\(∀r:aU,r∈(aZ s).holes->(0:Nat)<aA r)/\(0=(0:Int)/\(aA (iH (ak 0 (aR (aZ s)))))=0/\iH (ak 0 (aR (aZ s)))=([] :List aI8)/\(0:Nat)<=aA (aR (aZ s)))/\
 (∀x:Nat,x<=aA (aR (aZ s))->qiq ((x:Int)<aA (aR (aZ s))) (ix (x:Int) (aA (aR (aZ s)))/\(aA (iH (ak x (aR (aZ s)))))=(aA (iH (ak x (aR (aZ s)))))/\(aA (iH (ak x (aR (aZ s)))))+aA (aP (aR (aZ s)) x)<=1000000/\qnr (x:Int) x (aA (iH (ak x (aR (aZ s)))++aP (aR (aZ s)) x)=(aA (iH (ak (x+1) (aR (aZ s)))))/\iH (ak x (aR (aZ s)))++aP (aR (aZ s)) x=iH (ak (x+1) (aR (aZ s)))/\x+1<=(aA (aR (aZ s)))/\(aA (aR (aZ s)))-(x+1)<aA (aR (aZ s))-x)) (aA (iH (ak x (aR (aZ s))))=(aA (iH (ak x (aR (aZ s)))))/\iH (ak x (aR (aZ s)))=vOf s/\0=eOf s)))) (by
 change Fit s at hp;have hq:=jv s;have v0:(!bL s)=aE->vOf s=[] :=λh=>by unfold vOf;grind
 have v1:(!bL s)=aE->11=eOf s:=λh=>by unfold eOf;grind
 have v2:(!bL s)=aK->0=eOf s:=λh=>by unfold eOf;grind
 have c1:(!bL s)=aK->aZ s=cn s:=λh=>by unfold aZ;grind
 have V:(!bL s)=aK->VS s:=λh=>(rj s).1 (nb h);have f1:(!bL s)=aK->Fit (aZ s):=λh=>by rw[c1 h];exact HW hp
 have f2:(!bL s)=aK->0<aA (aZ s).outer:=λh=>by rw[c1 h];exact(C3 (V h)).1
 have f3:(!bL s)=aK->∀r∈(aZ s).holes,0<aA r:=λh=>by rw[c1 h];exact(C3 (V h)).2
 have f4:(!bL s)=aK->aA (aR (aZ s)).flatten<=80:=λh=>by rw[c1 h];exact PE (V h)
 have f5:(!bL s)=aK->(aR (aZ s)).flatten=vOf s:=λh=>by rw[c1 h];unfold vOf;rw[<-hq,nb h];rfl
 have f6:(!bL s)=aK->aA (aR (aZ s))<=1000:=λh=>by have:=(f1 h).2.1;unfold aR;grind
 generalize aR (aZ s)=L at f4 f5 f6|-;have e1:∀x:Nat,(x:Int)<aA L->(L.take x).flatten++aP L x=(L.take (x+1)).flatten:=λx h=>by rw[lC aC,ww,WL,jz aC]
 have e2:∀x:Nat,aA (L.take x).flatten<=aA L.flatten:=λx=>by
  conv=>rhs;rw[<-vD x L,ww,eR]
  omega
 have e4:(!bL s)=aK->∀x:Nat,(x:Int)<aA L->aA (L.take x).flatten+aA (aP L x)<=1000000:=λh x hx=>aH;have e5:(!bL s)=aK->∀x:Nat,¬(x:Int)<aA L->(L.take x).flatten=vOf s:=λh x hx=>by rw[jB aC,f5 h]
 have e6:(!bL s)=aK->∀x:Nat,x<=aA L->aX ((x:Int)+1):=λh x hx=>bP aH;clear e2 c1 V
 repeat' first|with_reducible apply cJ|with_reducible intro
 all_goals grind)
def t17:=t60.adk k17
def c19:Con:=con (a1 aSh) (λs=>[Fit s]) (λs=> .tup [.lst .S (dOf s),.iqz (eOf s)])
def k19:c19.Okz 19:=bI t17 (λs=>[(6,.mk Nat (λF _=>nA F 21) [16] (λk=>[k<=aA (eM s (vOf s))]) (λk=>[(21,.iqz (k:Int)),(6,.own 16 .S k)]) (λk=>[(16,.row 46 .S (((eM s (vOf s)).map (dH (vOf s))).take k))]) (λk=>aA (eM s (vOf s))-k) ae)]
 ) λs hp=>bD (Fit s/\qiq (¬eOf s=0) (dOf s=([] :List S)/\eOf s=eOf s) (Fit s/\(aA (vOf s))<=900/\(∀x:aI8,x∈vOf s->bd 1000000000 x)/\(aA (ao s))<=1000000/\(0=(0:Int)/\(0:Nat)=0/\ak 0 (eP (dH (vOf s)) (eM s (vOf s)))=([] :List S)/\(0:Nat)<=aA (eM s (vOf s)))/\
 (∀x:Nat,x<=aA (eM s (vOf s))->qiq ((x:Int)<aA (eM s (vOf s))) (ix (x:Int) (aA (eM s (vOf s)))/\ix 0 2/\ix ((bC (eM s (vOf s)) x).1:Int) (aA (vOf s))/\ix 1 2/\ix ((bC (eM s (vOf s)) x).2:Int) (aA (vOf s))/\x=(aA (ak x (eP (dH (vOf s)) (eM s (vOf s)))))/\(aA (ak x (eP (dH (vOf s)) (eM s (vOf s)))))+[(⟨(aI7 (vOf s) (bC (eM s (vOf s)) x).1),(aI7 (vOf s) (bC (eM s (vOf s)) x).2)⟩:S)].length<=1000000/\qnr (x:Int) x (aA (ak x (eP (dH (vOf s)) (eM s (vOf s)))++[(⟨(aI7 (vOf s) (bC (eM s (vOf s)) x).1),(aI7 (vOf s) (bC (eM s (vOf s)) x).2)⟩:S)])=x+1/\ak x (eP (dH (vOf s)) (eM s (vOf s)))++[(⟨(aI7 (vOf s) (bC (eM s (vOf s)) x).1),(aI7 (vOf s) (bC (eM s (vOf s)) x).2)⟩:S)] =ak (x+1) (eP (dH (vOf s)) (eM s (vOf s)))/\x+1<=(aA (eM s (vOf s)))/\(aA (eM s (vOf s)))-(x+1)<aA (eM s (vOf s))-x)) (x=(aA (ak x (eP (dH (vOf s)) (eM s (vOf s)))))/\ak x (eP (dH (vOf s)) (eM s (vOf s)))=dOf s/\0=eOf s)))) (by
 change Fit s at hp;have hq:=jv s;have d0:¬eOf s=0->dOf s=[] :=λh=>(Sy h).1;have R:¬¬eOf s=0->aj s=aE:=λh=>uO h;have V:¬¬eOf s=0->VS s:=λh=>vsR (R h);have hvl:=mv s;have hvb:∀x∈vOf s,bd 1000000000 x:=λx hx=>by obtain⟨i,hi,rfl⟩:=fC.1 hx;exact qv hi bg
 have he:¬¬eOf s=0->aA (ao s)<=1000000:=λh=>by have:=F9 (V h);omega
 have dE:¬¬eOf s=0->(eM s (vOf s)).map (dH (vOf s))=dOf s:=λh=>by rw[Dk (R h)];rw[uK (R h)];exact(Dj (V h) (λx hx=>(qY s).subset hx) ((qY s).nodup_iff.2 (V h).nodup)).1
 have pL:aA (eM s (vOf s))<=6400:=by have:=CF (s:=s) (v:=vOf s) (aA (vOf s));have h2:aA (vOf s)*aA (vOf s)<=80*80:=rZ hvl hvl;unfold eM;omega
 have pM:∀p∈eM s (vOf s),p.1<p.2/\p.2<aA (vOf s):=λp hp=>NI hp;generalize eM s (vOf s)=P at dE pL pM|-;have pA:∀x:Nat,(x:Int)<aA P->(bC P x).1<(aA (vOf s))/\(bC P x).2<aA (vOf s):=λx h=>by
  have h2:bC P x∈P:=by rw[om aC];exact jr _
  grind
 have p1:∀x:Nat,(x:Int)<aA P->ix ((bC P x).1:Int) (aA (vOf s)):=λx h=>fS (pA x h).1;have p2:∀x:Nat,(x:Int)<aA P->ix ((bC P x).2:Int) (aA (vOf s)):=λx h=>fS (pA x h).2;have e1:∀x:Nat,x<=aA P->aA (ak x (P.map (dH (vOf s))))=x:=λx h=>aH;have e2:∀x:Nat,(x:Int)<aA P->ak x (P.map (dH (vOf s)))++[⟨aI7 (vOf s) (bC P x).1,aI7 (vOf s) (bC P x).2⟩] =ak (x+1) (P.map (dH (vOf s))):=λx h=>by rw[lC aH,kz,om aC];rfl
 have e3:¬¬eOf s=0->∀x:Nat,¬(x:Int)<aA P->ak x (P.map (dH (vOf s)))=dOf s:=λh x hx=>by rw[jB aH,dE h]
 clear pM dE pA hq
 repeat' first|with_reducible apply cJ|with_reducible intro
 all_goals grind)
def t19:=t17.adk k19
def eB(v:List aI8)(i j k n:Nat):Bool:=n !=i&&n !=j&&n !=k&&dB (db (aI7 v i) (aI7 v j) (aI7 v k)) (aI7 v n) !=0
end
def aIt:Con:=con (ac (aL .V) (a1 aV)) (λ(l,_)=>[aA l<=1000000]) (λ(l,v)=> .iqz (fI (λu=>decide (v=u)) l))
def Ve:aIt.Okz 149:=bI t19 (λ(l,v)=>[cnt 2 8 (aA l) (aY λj=>decide (v=aI7 l j)=aK)]
  ) λ(l,v) hp=>bD ((0=(0:Int)/\(0:Nat)<=(aA l)/\aY (λj=>decide (v=aI7 l j)=aK) 0)/\
 (∀x:Nat,aO (x:Int) λA=>x<=(aA l)/\aY (λj=>decide (v=aI7 l j)=aK) x->qiq (A<aA l) (ix A (aA l)/\qiq (v=(aI7 l x)) (A=fI (λu=>decide (v=u)) l) (qnr A x (x+1<=(aA l)/\aY (λj=>decide (v=aI7 l j)=aK) (x+1)/\(aA l)-(x+1)<aA l-x))) (-1=fI (λu=>decide (v=u)) l))) (by
  change (aA l)<=1000000 at hp
  with_reducible ((repeat' first|apply cJ|intro);all_goals repeat cases‹_/\_›)
  all_goals first|rfl|exact s8 (t:= .V) aC (decide_eq_true aJ) aJ|(obtain rfl:_=aA l:=w7 aJ aC;exact vq (t:= .V) aJ)|grind)
def Ur:=t19.adk Ve
def j5(v:V):Int:=if 0<v.y\/(v.y=0/\0<v.x)then 0 else 1
def aG:Ar (List V) where
 enc v:= .pro [.pro [.lst .V v,.junk,.junk] 0] 0
 dec s:=match s with
  | .pro [.pro [r,.junk,.junk] 0] 0=>rI .V r
  |_=>aM
 ok s a h:=by
  split at h
  .have e1:=uM h;simp only[SV.av,avs,e1]
  .cases h
 pl _:=⟨_,rfl⟩
def aQ:Ar Nat where
 enc n:= .pro [.int .i64 (n:Int)] 0
 dec s:=match s with
  | .pro [.int .i64 (.ofNat n)] 0=>aD n
  |_=>aM
 ok s a h:=by split at h<;>cases h;rfl
 pl _:=⟨_,rfl⟩
def oQ(v:List V)(p x y:Nat):Int:=
 let a:=aJa (aI7 v x) (aI7 v p)
 let b:=aJa (aI7 v y) (aI7 v p)
 if j5 a-j5 b=0 then-turn ⟨0,0⟩ a b else j5 a-j5 b
def aHI:Con:=con (a1 aV) ae (λv=> .iqz (j5 v)
 )
def aGc:aHI.Okz 222:=bI Ur ae λv _=>bD (qiq (0<v.y) (0=j5 v) (qiq (v.y=0) (qiq (0<v.x) (0=j5 v) (1=j5 v)) (1=j5 v))) (by refine⟨λh=>(if_pos (.inl h)).symm,λh=>⟨λh2=>⟨λh3=>(if_pos (.inr ⟨h2,h3⟩)).symm,λh3=>(if_neg ?_).symm⟩,λh2=>(if_neg ?_).symm⟩⟩<;>omega)
def T7:=Ur.adk aGc
def QJ(v:V):0<=j5 v/\j5 v<=1:=by unfold j5;omega
def aC0(a b c:V): -1<=turn a b c/\turn a b c<=1:=by unfold turn sgn;omega
def aHJ:Con:=con (ac aN (ac aN (ac aG (a1 aQ)))) (λ(x,y,v,p)=>[x<aA v,y<aA v,p<aA v,aA v<=1000000,(∀u∈v,bd 500000000 u)]) (λ(x,y,v,p)=> .iqz (oQ v p x y)
 )
def Vb:aHJ.Okz 221:=bI T7 ae λ(x,y,v,p) hp=>bD (aO (aI7 v p) λA=>aO (aI7 v x) λB=>aO (aI7 v y) λC=>aO (aJa B A) λD=>aO (aJa C A) λE=>aO (⟨0,0⟩:V) λF=>ix (x:Int) (aA v)/\ix (p:Int) (aA v)/\bd 1000000000 B/\bd 1000000000 A/\ix (y:Int) (aA v)/\ix (p:Int) (aA v)/\bd 1000000000 C/\bd 1000000000 A/\aX (j5 D-j5 E)/\qiq (¬j5 D-j5 E=0) (j5 D-j5 E=oQ v p x y) (bd 1000000000 F/\bd 1000000000 D/\bd 1000000000 E/\aX (0-turn F D E)/\0-turn F D E=oQ v p x y)) (by
 change x<(aA v)/\y<(aA v)/\p<(aA v)/\(aA v)<=1000000/\((∀u∈v,bd 500000000 u))at hp;obtain⟨hx,hy,hq,hl,hb⟩:=hp;have hb:∀i:Nat,i<aA v->bd 500000000 (aI7 v i):=λi h=>hb _ (dh h);have bx:=hb x hx;have by_:=hb y hy;have bp:=hb p hq;have e1:=QJ (aJa (aI7 v x) (aI7 v p));have e2:=QJ (aJa (aI7 v y) (aI7 v p));have e3:=aC0 ⟨0,0⟩ (aJa (aI7 v x) (aI7 v p)) (aJa (aI7 v y) (aI7 v p));have sb:∀a b:V,bd 500000000 a->bd 500000000 b->bd 1000000000 (aJa a b):=λa b h1 h2=>by unfold bd aJa at*;grind
 refine⟨fS hx,fS hq,bx.mono,bp.mono,fS hy,fS hq,by_.mono,bp.mono,bP aC,λh=>(if_neg h).symm,λh=>⟨by unfold bd;grind,sb _ _ bx bp,sb _ _ by_ bp,bP aC,?_⟩⟩;rw[show oQ v p x y=_ from if_pos (vE h)];omega)
def aF1:=T7.adk Vb
section
open Go.RowKit Go.Sort Go.Shelf Go.Lib
def yf(lt:Int->Int->Bool)(x:Int):List Int->List Int
 |[] =>[x]
 |y::r=>if lt y x=aE then y::yf lt x r else x::y::r
def qH(lt:Int->Int->Bool):List Int->List Int
 |[] =>[]
 |x::l=>yf lt x (qH lt l)
def HF(lt:Int->Int->Bool)(x:Int):∀l:List Int,(yf lt x l).Perm (x::l)
 |[] =>FF _
 |y::r=>by
  unfold yf;split
  .exact((HF lt x r).cons y).trans aH
  grind
def xH(lt:Int->Int->Bool):∀l:List Int,(qH lt l).Perm l
 |[] =>FF _
 |x::l=>(HF lt x _).trans ((xH lt l).cons x)
structure OrdOn(lt:Int->Int->Bool)(l:List Int):Prop where
 trans:∀x∈l,∀y∈l,∀z∈l,lt x y=aE->lt y z=aE->lt x z=aE
 asym:∀x∈l,∀y∈l,lt x y=aE->lt y x=aK
 tot:∀x∈l,∀y∈l,lt x y=aK->lt y x=aK->x=y
def OrdOn.neg{lt:Int->Int->Bool}{l:List Int}(h:OrdOn lt l){x y z:Int}(hx:x∈l)(hy:y∈l)(hz:z∈l)(h1:lt x y=aK)(h2:lt y z=aK):lt x z=aK:=by
 cases h3:lt x z with
 |false=>rfl
 |true=>
  cases h4:lt y x with
  |false=>have:=h.tot x hx y hy h1 h4;grind
  |true=>rw[h.trans y hy x hx z hz h4 h3]at h2;cases h2
def Mn{lt:Int->Int->Bool}{S:List Int}(h:OrdOn lt S){x:Int}(hx:x∈S):∀l:List Int,(∀y∈l,y∈S)->l.Pairwise (λa b=>lt b a=aK)->(yf lt x l).Pairwise λa b=>lt b a=aK
 |[],_,_=>List.pairwise_singleton _ _
 |y::r,hl,hs=>by
  have hy:=hl y cR;obtain⟨h1,h2⟩:=jA.1 hs;unfold yf;split
  .rename_i hlt;refine jA.2 ⟨λb hb=> ?_,Mn h hx r aH h2⟩;rcases bO.1 ((HF lt x r).mem_iff.1 hb)with rfl|hb
   .exact h.asym _ hy _ hx hlt
   grind
  .rename_i hlt;have hlt:lt y x=aK:=by simpa using hlt
   refine jA.2 ⟨λb hb=> ?_,hs⟩;rcases bO.1 hb with rfl|hb
   .exact hlt
   .exact h.neg aH hy hx (h1 b hb) hlt
def Fy{lt:Int->Int->Bool}{S:List Int}(h:OrdOn lt S):∀l:List Int,(∀y∈l,y∈S)->(qH lt l).Pairwise λa b=>lt b a=aK
 |[],_=>wU
 |x::l,hl=>Mn h aH _ (λy hy=>hl y (cM _ ((xH lt l).mem_iff.1 hy))) (Fy h l aH)
def W4{lt:Int->Int->Bool}{l k:List Int}(h:OrdOn lt l)(hp:k.Perm l)(hs:k.Pairwise λa b=>lt b a=aK):k=qH lt l:=
 V2 (λa b h1 h2 h3 h4=>h.tot a (hp.mem_iff.1 h1) b ((xH lt l).mem_iff.1 h2) h4 h3) hs (Fy h l λ_ h=>h) (hp.trans (xH lt l).symm)
def ltA(v:List V)(p:Nat)(x y:Int):Bool:=decide (oQ v p x.toNat y.toNat<0)
def Qd{C:bf}{w:World}{p:Nat}{v:List V}{vs:List Value}(h:bk C [.fn (.func 221) [] [.pro [.pro [.sl (aA v) (LT.V.enc v),.junk,.junk] 0] 0,.pro [.int .i64 (p:Int)] 0]] vs):
  ∃cb:List Value,vs=[.func (.func 221) #[] cb.toArray]/\bk C [.pro [.pro [.sl (aA v) (LT.V.enc v),.junk,.junk] 0] 0,.pro [.int .i64 (p:Int)] 0] cb:=by
 obtain⟨u,r,rfl,h1,h2⟩:=h;subst h2;obtain⟨a,b,rfl,h3,h4⟩:=h1;unfold bk at h3;grind
def Zh(l:List Int)(v:List V)(p:Nat)(hn:aA l<=1000000)(hl:∀x∈l,0<=x/\x.toNat<aA v)(hp:p<aA v)(hv:aA v<=1000000)(hb:∀u∈v,bd 500000000 u)(hO:OrdOn (ltA v p) l):
  pS bi 220 (aD (aA l)) [.fn (.func 221) [] [.pro [.pro [.sl (aA v) (LT.V.enc v),.junk,.junk] 0] 0,.pro [.int .i64 (p:Int)] 0]] 3 1 (LT.I.enc l) (LT.I.enc (qH (ltA v p) l)):=by
 have hlen:=(xH (ltA v p) l).length_eq;refine⟨br,by rw[rD,rD,dq,dq,hlen],?_,?_⟩
 .intro C w b c arr vs hC hL hnc hA;obtain⟨cb,rfl,hcb⟩:=Qd (w:=w) hA;obtain⟨hH,hsz⟩:=Oc hL;by_cases hl0:l=[]
  .subst hl0;have h:=AnyF.slices_SortFunc_none (P:=bi) (ρ:=Tryz.sort220_ren) {Tryz.sort220 with} (aD ⟨b,0,aM⟩) c (.func (.func 221) #[] cb.toArray) w;refine h.mono ?_;rintro e w' ⟨rfl,rfl⟩;exact⟨arr,rfl,hL,⟨rfl,rfl,rfl,bR _,λ_ _ _=>rfl⟩⟩
  obtain⟨x0,hx0⟩:=Bh _ hl0;have:Inhabited {x:Int//x∈l}:=⟨⟨x0,hx0⟩⟩;obtain⟨d,hd⟩:∃d:Array {x:Int//x∈l},d=l.attach.toArray:=⟨_,rfl⟩;have hds:d.size=aA l:=by rw[hd];simp
  have hdm:d.toList.map (·.1)=l:=by rw[hd];simp
  have hblk:b<w.heap.size:=(Ls.1 hL.blk).1;have hswo:SWO (ltOf λx y:{x:Int//x∈l}=>oQ v p x.1.toNat y.1.toNat):=by
   have e:∀x y:{x:Int//x∈l},ltOf (λx y:{x:Int//x∈l}=>oQ v p x.1.toNat y.1.toNat) x y=ltA v p x.1 y.1:=λx y=>rfl;refine⟨λx=> ?_,λx y z h1 h2=> ?_,λx y z h1 h2=> ?_⟩
   .rw[e];cases h:ltA v p x.1 x.1 with
    |false=>rfl
    |true=>have:=hO.asym _ x.2 _ x.2 h;grind
   .exact hO.trans _ x.2 _ y.2 _ z.2 h1 h2
   .exact hO.neg x.2 y.2 z.2 h1 h2
  have hHd:Holds (λx:{x:Int//x∈l}=>dN .i64 x.1) w b 0 d:=by
   intro j hj;have hj':j<aA l:=aC;have:=hH j aC;have e:(l.toArray)[j]! =d[j]!.1:=by rw[getElem!_pos _ j aC,getElem!_pos d j hj];subst hd;simp
   rw[e]at this;exact this
  have h:=Any.slices_SortFunc (P:=bi) (ρ:=Tryz.sort220_ren) Tryz.sort220 (λx:{x:Int//x∈l}=>dN .i64 x.1) (λ_=>rfl) (λx y=>oQ v p x.1.toNat y.1.toNat) hswo 221 cb.toArray b 0 c d w (λargs w=>nP br args w) (by
   intro m os dk hdk x y;have hx:=hl x.1 x.2;have hy:=hl y.1 y.2;obtain⟨A,r,hA2,hr,hS⟩:=Vb [.int .i64 (x.1.toNat:Int),.int .i64 (y.1.toNat:Int),aG.enc v,aQ.enc p] (x.1.toNat,y.1.toNat,v,p) rfl (lI.1 ⟨hx.2,hy.2,hp,hv,hb⟩);have hA3:A=[.int .i64 (x.1.toNat:Int),.int .i64 (y.1.toNat:Int),.pro [.pro [.sl (aA v) (LT.V.enc v),.junk,.junk] 0] 0,.pro [.int .i64 (p:Int)] 0] :=by have h5:avs [SV.int .i64 (x.1.toNat:Int),.int .i64 (y.1.toNat:Int),aG.enc v,aQ.enc p] =([.int .i64 (x.1.toNat:Int),.int .i64 (y.1.toNat:Int),.pro [.pro [.sl (aA v) (LT.V.enc v),.junk,.junk] 0] 0,.pro [.int .i64 (p:Int)] 0] :List PV).map .p:=rfl;rw[h5]at hA2;have:=congrArg bm hA2;rw[eW,eW]at this;cases this;rfl
   have hr2:r= .int .i64 (oQ v p x.1.toNat y.1.toNat):=by have h6:(SV.int .i64 (oQ v p x.1.toNat y.1.toNat)).av= .p r:=hr;cases h6;rfl
   subst hA3;subst hr2;have ex:((x.1.toNat:Nat):Int)=x.1:=aH;have ey:((y.1.toNat:Nat):Int)=y.1:=aH;rw[ex,ey]at hS;have h1:=hS.2 C (sortWorld (λx:{x:Int//x∈l}=>dN .i64 x.1) w b 0 m dk os) (.int .i64 x.1:: .int .i64 y.1::cb) (λb' o u h=> ?_) ?_
   .have h2:=Mv h1 aH;rw[(af:(#[dN .i64 x.1,dN .i64 y.1] ++cb.toArray)=(dN .i64 x.1:: .int .i64 y.1::cb).toArray)];refine h2.mono ?_;rintro e w' ⟨⟨u,rfl,hu,hbel⟩,hdr⟩;subst hu;exact⟨rfl,(Lay.mk hbel hdr).grow⟩
   .obtain⟨h2,h3⟩:=hC _ _ _ h;unfold sortWorld;rw[cell?_grow _ _ _ (by rw[size_putRow];exact lj w ⟨b',o,aM⟩ h2),cell?_putRow_other _ _ b 0 _ _ (Or.inl h3)];exact h2
   .refine⟨_,_,rfl,by rfl,?_⟩;exact⟨_,_,rfl,by rfl,hcb⟩) hHd hblk aC
  rw[hds]at h;refine h.mono ?_;rintro e w' ⟨rfl,d',n,os,hp,hs,rfl⟩;obtain⟨p1,_,p3⟩:=hp;have hG:=Fq (enc:=λx:{x:Int//x∈l}=>dN .i64 x.1) (w:=w) (g:=b) (n:=n) (d:=d') (os:=os);have hperm:d'.toList.Perm d.toList:=by
   have e1:(d'.extract 0 (aA l)).toList=d'.toList:=by rw[<-hds,<-p1];simp
   have e2:(d.extract 0 (aA l)).toList=d.toList:=by rw[<-hds];simp
   rwa[e1,e2]at p3
  have hpr:(d'.toList.map (·.1)).Perm l:=by have:=hperm.map (·.1);rwa[hdm]at this
  have hso:d'.toList.map (·.1)=qH (ltA v p) l:=by
   refine W4 hO hpr ?_;rw[kG,u5];intro i j hi hj hij;have hj':j<d'.size:=by simpa using hj
   have:=hs i j (lh _) hij aC;rw[getElem!_pos d' i aC,getElem!_pos d' j hj']at this;show ltOf (λx y:{x:Int//x∈l}=>oQ v p x.1.toNat y.1.toNat) (d'.toList[j]) (d'.toList[i])=aK;simpa using this
  refine⟨_,rfl,⟨L4 hL.blk,aH,λ_=> ?_,?_⟩,hG⟩
  .obtain⟨h1,h2,h3⟩:=hL.row bg;rw[rD,dq,hlen];unfold putCells;grind
  .intro i x hi;rw[<-hso,rD,du,ip]at hi;cases hx:d'.toList[i]? with
   |none=>grind
   |some y=>
    rw[hx]at hi;cases hi;refine⟨.int .i64 y.1,?_,rfl,by rfl⟩;unfold putCells;grind
 .intro h0 C w vs hC hA;obtain⟨cb,rfl,_⟩:=Qd (w:=w) hA;have hl0:l=[] :=aH;have h:=AnyF.slices_SortFunc_none (P:=bi) (ρ:=Tryz.sort220_ren) {Tryz.sort220 with} aM 0 (.func (.func 221) #[] cb.toArray) w;refine h.mono ?_;rintro e w' ⟨rfl,rfl⟩;exact⟨rfl,Below.refl _ _⟩
def K8:List SV->Option (List Int×List V×Nat)
 |[.lst .I l,.fnp 221 [] [.pro [.pro [.lst .V v,.junk,.junk] 0] 0,.pro [.int .i64 (.ofNat p)] 0]] =>aD (l,v,p)
 |_=>aM
def aAC{l:List Int}{rest:List SV}{x:List Int×List V×Nat}(h:K8 (.lst .I l::rest)=aD x):∃v p,rest=[.fnp 221 [] [.pro [.pro [.lst .V v,.junk,.junk] 0] 0,.pro [.int .i64 (p:Nat)] 0]]/\x=(l,v,p):=by
 unfold K8 at h;split at h
 .grind
 .cases h
def aHK:Con:=⟨List Int×List V×Nat,K8,λ(l,v,p)=>[aA l<=1000000,(∀x∈l,0<=x/\x.toNat<aA v),p<aA v,aA v<=1000000,(∀u∈v,bd 500000000 u),OrdOn (ltA v p) l],.mutR .I 3 λ(l,v,p)=>qH (ltA v p) l⟩
def aGd:aHK.Okz 220:=by intro l rest x hd hp;obtain⟨v,p,rfl,rfl⟩:=aAC hd;obtain⟨h1,h2,h3,h4,h5,h6⟩:=lI.2 hp;exact⟨[.fn (.func 221) [] [.pro [.pro [.sl (aA v) (LT.V.enc v),.junk,.junk] 0] 0,.pro [.int .i64 (p:Int)] 0]],rfl,Zh l v p h1 h2 h3 h4 h5 h6⟩
def tD:=(aF1.adk aGd).adk aGn
end
def dc(l:List V)(v:V):Nat:=l.findIdx λu=>decide (v=u)
def gq(l:List Int)(q:Int):Nat:=l.findIdx λu=>decide (q=u)
def fIx{t:LT}{l:List t.ty}{q:t.ty->Bool}{k:Nat}(hk:k<aA l)(h:q (t.nth l k)=aE)(hu:aY (λj=>q (t.nth l j)=aK) k):l.findIdx q=k:=by refine(List.findIdx_eq hk).2 ⟨by rw[<-LT.nth_eq t l hk];exact h,λj hj=> ?_⟩;have this:q (t.nth l j)=aK:=hu j hj;rw[LT.nth_eq t l aC]at this;exact this
def Sw{t:LT}{l:List t.ty}{q:t.ty->Bool}{v:t.ty}(hv:v∈l)(h:q v=aE)(hu:aY (λj=>q (t.nth l j)=aK) (aA l)):False:=by obtain⟨j,hj,rfl⟩:=List.mem_iff_getElem.1 hv;have this:q (t.nth l j)=aK:=hu j hj;rw[LT.nth_eq t l hj,h]at this;cases this
def R5{l:List Int}{q:Int}(h:q∈l):gq l q<aA l:=List.findIdx_lt_length_of_exists ⟨q,h,decide_eq_true rfl⟩
def o5{l:List V}{q:V}(h:q∈l):dc l q<aA l:=List.findIdx_lt_length_of_exists ⟨q,h,decide_eq_true rfl⟩
def aGr:Ar (List V×List (List Int)×List Int) where
 enc g:= .pro [.lst .V g.1,.lst .Q g.2.1,.lst .I g.2.2] 0
 dec s:=match s with
  | .pro [a,b,c] 0=>(match rI .V a,rI .Q b,rI .I c with|some x,aD y,aD z=>aD (x,y,z)|_,_,_=>aM)
  |_=>aM
 ok s a h:=by
  split at h
  .split at h<;>cases h;rename_i h1 h2 h3;have e1:=uM h1;have e2:=uM h2;have e3:=uM h3;simp only[SV.av,avs,e1,e2,e3]
  .cases h
 pl _:=⟨_,rfl⟩
def jj(L:List (List Int))(i j:Nat)(st:Int):Nat:=
 let l:=bK L i
 (dj l (((gq l j:Int)+st+aA l).toNat % (aA l))).toNat
def aFP:Con:=con (ac (aL .V) (a1 aV)) (λ(l,v)=>[aA l<=1000000,v∈l]) (λ(l,v)=> .iqz (dc l v:Nat))
def aFD:aFP.Okz 149:=bI tD (λ(l,v)=>[cnt 2 8 (aA l) (aY λj=>decide (v=aI7 l j)=aK)]
  ) λ(l,v) hp=>bD ((0=(0:Int)/\(0:Nat)<=(aA l)/\aY (λj=>decide (v=aI7 l j)=aK) 0)/\
 (∀x:Nat,aO (x:Int) λA=>x<=(aA l)/\aY (λj=>decide (v=aI7 l j)=aK) x->qiq (A<aA l) (ix A (aA l)/\qiq (v=(aI7 l x)) (A=dc l v) (qnr A x (x+1<=(aA l)/\aY (λj=>decide (v=aI7 l j)=aK) (x+1)/\(aA l)-(x+1)<aA l-x))) (-1=(dc l v:Int)))) (by
  change (aA l)<=1000000/\v∈l at hp;obtain⟨hl,hv⟩:=hp;have e1:∀x:Nat,(x:Int)<aA l->v=aI7 l x->aY (λj=>decide (v=aI7 l j)=aK) x->(x:Int)=dc l v:=λx h1 h2 h3=>by rw[show dc l v=x from fIx (t:= .V) (by omega) (decide_eq_true h2) h3]
  have e2:∀x:Nat,¬(x:Int)<aA l->x<=aA l->aY (λj=>decide (v=aI7 l j)=aK) x-> -1=(dc l v:Int):=λx h1 h2 h3=>by obtain rfl:x=aA l:=aC;exact(Sw (t:= .V) (q:=λu=>decide (v=u)) hv (decide_eq_true rfl) h3).elim
  with_reducible ((repeat' first|apply cJ|intro);all_goals repeat cases‹_/\_›)
  all_goals grind)
def TQ:=tD.adk aFD
def aH7:Con:=con (ac (aL .I) (a1 aI)) (λ(l,q)=>[aA l<=1000000,q∈l]) (λ(l,q)=> .iqz (gq l q:Nat))
def aGB:aH7.Okz 171:=bI TQ (λ(l,q)=>[cnt 2 8 (aA l) (aY λj=>decide (q=dj l j)=aK)]
  ) λ(l,q) hp=>bD ((0=(0:Int)/\(0:Nat)<=(aA l)/\aY (λj=>decide (q=dj l j)=aK) 0)/\
 (∀x:Nat,aO (x:Int) λA=>x<=(aA l)/\aY (λj=>decide (q=dj l j)=aK) x->qiq (A<aA l) (ix A (aA l)/\qiq (q=dj l x) (A=gq l q) (qnr A x (x+1<=(aA l)/\aY (λj=>decide (q=dj l j)=aK) (x+1)/\(aA l)-(x+1)<aA l-x))) (-1=(gq l q:Int)))) (by
  change (aA l)<=1000000/\q∈l at hp;obtain⟨hl,hv⟩:=hp;have e1:∀x:Nat,(x:Int)<aA l->q=dj l x->aY (λj=>decide (q=dj l j)=aK) x->(x:Int)=gq l q:=λx h1 h2 h3=>by rw[show gq l q=x from fIx (t:= .I) (by omega) (decide_eq_true h2) h3]
  have e2:∀x:Nat,¬(x:Int)<aA l->x<=aA l->aY (λj=>decide (q=dj l j)=aK) x-> -1=(gq l q:Int):=λx h1 h2 h3=>by obtain rfl:x=aA l:=aC;exact(Sw (t:= .I) (q:=λu=>decide (q=u)) hv (decide_eq_true rfl) h3).elim
  with_reducible ((repeat' first|apply cJ|intro);all_goals repeat cases‹_/\_›)
  all_goals grind)
def UT:=TQ.adk aGB
def aIP:Con:=con (ac aGr (ac aN (ac aN (a1 aI)))) (λ(g,i,j,st)=>[aA g.1<=1000000,aA g.2.1<=1000000,i<aA g.2.1,(j:Int)∈bK g.2.1 i,aA (bK g.2.1 i)<=1000000,(∀x∈bK g.2.1 i,0<=x),st=1\/st= -1]) (λ(g,i,j,st)=> .iqz (jj g.2.1 i j st:Nat)
 )
def aHj:aIP.Okz 107:=bI UT ae λ(g,i,j,st) hp=>bD (aO (bK g.2.1 i) λB=>aO (gq B (j:Int):Int) λC=>aO (aA B:Int) λD=>aO (C+st+aA B) λE=>ix (i:Int) (aA g.2.1)/\(aA B)<=1000000/\(j:Int)∈bK g.2.1 i/\aX (C+st)/\aX E/\D≠0/\ix (dA E D) (aA B)/\dj B (dA E D).toNat=jj g.2.1 i j st) (by
 change (aA g.1)<=1000000/\(aA g.2.1)<=1000000/\i<(aA g.2.1)/\(j:Int)∈bK g.2.1 i/\(aA (bK g.2.1 i))<=1000000/\((∀x∈bK g.2.1 i,0<=x))/\(st=1\/st= -1)at hp;obtain⟨h1,h2,h3,h4,h5,h6,h7⟩:=hp;unfold jj;generalize bK g.2.1 i=l at*;have h8:=R5 h4;have e0:0<=(gq l (j:Int):Int)+st+aA l:=aC;have e1:dA ((gq l (j:Int):Int)+st+aA l) (aA l:Int)=(((((gq l (j:Int):Int)+st+aA l).toNat % (aA l):Nat)):Int):=by rw[Int.tmod_eq_emod_of_nonneg e0,<-Int.toNat_of_nonneg e0];rfl
 have e2:((gq l (j:Int):Int)+st+aA l).toNat % (aA l)<aA l:=cG _ aC;refine⟨fS h3,h5,h4,bP aC,bP aC,aC,by rw[e1];exact fS e2,?_⟩;rw[e1];have h9:=h6 _ (show dj l (((gq l (j:Int):Int)+st+aA l).toNat % (aA l))∈l by rw[show dj l _=_ from qt e2];grind);grind)
def VE:=UT.adk aHj
def jp(L:List (List Int))(a b:Nat):List (List Int):=L.set a (bK L a++[(b:Int)])
def both(L:List (List Int))(a b:Nat):List (List Int):=jp (jp L a b) b a
def rgO(base m:Nat):Nat->List (List Int)->List (List Int)
 |0,L=>L
 |i+1,L=>both (rgO base m i L) (base+i) (base+(i+1) % m)
def rgN(n base m:Nat):Nat->List Int->List Int
 |0,N=>N
 |i+1,N=>if n=0 then(rgN n base m i N).set (base+i) ((base+(i+1) % m:Nat):Int)else(rgN n base m i N).set (base+(i+1) % m) ((base+i:Nat):Int)
def bs(R:List aU)(k:Nat):Nat:=aA (R.take k).flatten
def rsO(R:List aU):Nat->List (List Int)->List (List Int)
 |0,L=>L
 |k+1,L=>rgO (bs R k) (aA (aP R k)) (aA (aP R k)) (rsO R k L)
def rsN(R:List aU):Nat->List Int->List Int
 |0,N=>N
 |k+1,N=>rgN k (bs R k) (aA (aP R k)) (aA (aP R k)) (rsN R k N)
def dgO(v:List aI8)(D:List Geo.S):Nat->List (List Int)->List (List Int)
 |0,L=>L
 |k+1,L=>both (dgO v D k L) (dc v (az D k).a) (dc v (az D k).b)
def dgP(v:List aI8)(D:List Geo.S):List (Nat×Nat):=D.map λd=>(dc v d.a,dc v d.b)
def stO(v:List aI8):Nat->List (List Int)->List (List Int)
 |0,L=>L
 |k+1,L=>(stO v k L).set k (qH (ltA v k) (bK (stO v k L) k))
def oX(s:Shape)(k:Nat):List (List Int):=rsO (aR (aZ s)) k (dO (aA (vOf s)) [])
def nX(s:Shape)(k:Nat):List Int:=rsN (aR (aZ s)) k (dO (aA (vOf s)) 0)
def oB(s:Shape):List (List Int):=rsO (aR (aZ s)) (aA (aR (aZ s))) (dO (aA (vOf s)) [])
def oD(s:Shape):List (List Int):=dgO (vOf s) (dOf s) (aA (dOf s)) (oB s)
def oG(s:Shape):List (List Int):=stO (vOf s) (aA (vOf s)) (oD s)
def nG(s:Shape):List Int:=rsN (aR (aZ s)) (aA (aR (aZ s))) (dO (aA (vOf s)) 0)
def pG(s:Shape):List (Nat×Nat):=dgP (vOf s) (dOf s)
def xf(L:List (List Int))(a c:Nat)(x:List Int):bK (L.set a x) c=if c=a/\a<(aA L) then x else bK L c:=by unfold bK;grind
def AP(L:List (List Int))(a b:Nat):aA (jp L a b)=aA L:=Bv ..
def DQ(L:List (List Int))(a b:Nat):aA (both L a b)=aA L:=by unfold both;rw[AP,AP]
def Iz(base m:Nat)(L:List (List Int)):∀i,aA (rgO base m i L)=aA L
 |0=>rfl
 |i+1=>(DQ _ _ _).trans (Iz base m L i)
def AW(n base m:Nat)(N:List Int):∀i,aA (rgN n base m i N)=aA N
 |0=>rfl
 |i+1=>by unfold rgN;split<;>rw[Bv,AW n base m N i]
def RD(R:List aU)(L:List (List Int)):∀k,aA (rsO R k L)=aA L
 |0=>rfl
 |k+1=>(Iz _ _ _ _).trans (RD R L k)
def Iy(R:List aU)(N:List Int):∀k,aA (rsN R k N)=aA N
 |0=>rfl
 |k+1=>(AW _ _ _ _ _).trans (Iy R N k)
def JK(v:List aI8)(D:List Geo.S)(L:List (List Int)):∀k,aA (dgO v D k L)=aA L
 |0=>rfl
 |k+1=>(DQ _ _ _).trans (JK v D L k)
def DZ(v:List aI8)(L:List (List Int)):∀k,aA (stO v k L)=aA L
 |0=>rfl
 |k+1=>(Bv ..).trans (DZ v L k)
def Sj(s:Shape)(k:Nat):aA (oX s k)=aA (vOf s):=(RD _ _ k).trans Bu
def Jl(s:Shape)(k:Nat):aA (nX s k)=aA (vOf s):=(Iy _ _ k).trans Bu
def Sk(s:Shape):aA (oB s)=aA (vOf s):=Sj s _
def As(s:Shape):aA (oD s)=aA (vOf s):=(JK _ _ _ _).trans (Sk s)
def aEY(s:Shape):aA (oG s)=aA (vOf s):=(DZ _ _ _).trans (As s)
def EM{L:List (List Int)}{t:Nat}(h:∀c,aA (bK L c)<=t)(a b c:Nat):aA (bK (jp L a b) c)<=t+1:=by unfold jp;rw[xf];grind
def S8{L:List (List Int)}{t:Nat}(h:∀c,aA (bK L c)<=t)(a b c:Nat):aA (bK (both L a b) c)<=t+2:=EM (EM h a b) b a c
def KQ{L:List (List Int)}{t:Nat}(h:∀c,aA (bK L c)<=t)(base m:Nat):∀i c,aA (bK (rgO base m i L) c)<=t+2*i
 |0,c=>h c
 |i+1,c=>S8 (KQ h base m i) _ _ c
def uQ{R:List aU}{k:Nat}(h:k<aA R):bs R k+aA (aP R k)=bs R (k+1):=by unfold bs;rw[lC h,ww,WL,eR,jz h]
def yX(R:List aU)(k:Nat):bs R k<=aA R.flatten:=by
 unfold bs
 conv=>rhs;rw[<-vD k R,ww,eR]
 omega
def TW{L:List (List Int)}{t:Nat}(h:∀c,aA (bK L c)<=t)(R:List aU):∀k,k<=aA R->∀c,aA (bK (rsO R k L) c)<=t+2*bs R k
 |0,_,c=>h c
 |k+1,hk,c=>by
  have:=KQ (TW h R k aC) (bs R k) (aA (aP R k)) (aA (aP R k)) c;have e:=uQ (R:=R) (k:=k) aC;show(bK (rgO _ _ _ _) c).length<=_;omega
def Va(s:Shape)(k:Nat)(hk:k<=aA (aR (aZ s)))(c:Nat):aA (bK (oX s k) c)<=2*bs (aR (aZ s)) k:=by
 have:=TW (L:=dO (aA (vOf s)) []) (t:=0) (λc=>by unfold bK;grind) (aR (aZ s)) k hk c
 rw[ku]at this;exact this
def Tl{L:List (List Int)}{t:Nat}(h:∀c,aA (bK L c)<=t)(v:List aI8)(D:List Geo.S):∀i c,aA (bK (dgO v D i L) c)<=t+2*i
 |0,c=>h c
 |i+1,c=>S8 (Tl h v D i) _ _ c
def Ak(v:List aI8)(L:List (List Int)):∀k c,c<aA L->bK (stO v k L) c=if c<k then qH (ltA v c) (bK L c)else bK L c
 |0,c,_=>(if_neg (Nat.not_lt_zero c)).symm
 |k+1,c,hc=>by
  show bK ((stO v k L).set k (qH (ltA v k) (bK (stO v k L) k))) c=_;rw[xf,DZ];by_cases h:c=k
  .subst h;rw[if_pos ⟨rfl,hc⟩,if_pos aC,Ak v L c c hc,if_neg (Nat.lt_irrefl c)]
  .rw[if_neg λh2=>h h2.1,Ak v L k c hc];grind
def vu{s:Shape}(hv:bL s=aE):aA (dOf s)<=6400/\∀d∈dOf s,d.a∈vOf s/\d.b∈vOf s:=by
 have V:VS s:=(rj s).1 hv;have R:aj s=aE:=by rw[<-jv];exact hv
 have dE:(eM s (vOf s)).map (dH (vOf s))=dOf s:=by rw[Dk R,uK R];exact(Dj V (λx hx=>(qY s).subset hx) ((qY s).nodup_iff.2 V.nodup)).1
 have hvl:=mv s;have pL:aA (eM s (vOf s))<=6400:=by have:=CF (s:=s) (v:=vOf s) (aA (vOf s));have h2:aA (vOf s)*aA (vOf s)<=80*80:=rZ hvl hvl;unfold eM;omega
 refine⟨aH,λd hd=> ?_⟩;rw[<-dE]at hd;obtain⟨p,hp,rfl⟩:=bn.1 hd;have:=NI hp;exact⟨dh aC,dh aC⟩
def GOk(s:Shape):Prop:=∀k,k<aA (vOf s)->0<(aA (bK (oD s) k))/\(∀x∈bK (oD s) k,0<=x/\x.toNat<aA (vOf s))/\OrdOn (ltA (vOf s) k) (bK (oD s) k)
noncomputable def jF(key:Nat)(x:Nat)(L:List (List Int)):Nat×Ann:=(key+10000,.mk Unit (λ_ _=>aD ()) [] ae ae (λ_=>[(x,.fam 111 3 .I L [])]) (λ_=>0) ae)
def aIb:Con:=LD (a1 aSh) (λs=>[Fit s,bL s=aE,GOk s]) (λs=> .tup [.ptr 19 0,.own 40 .P (aA (pG s))]) (λs=>[(19,aD (.box 113 [.lst .V (vOf s),.owF 14 (aA (vOf s)),.own 17 .I (aA (vOf s))])),(14,aD (.fam 111 3 .I (oG s) [])),(17,aD (.row 3 .I (nG s))),(40,aD (.row 69 .P (pG s)))])
def aGF:aIb.Okz 166:=SK (qO VE.o) (st:=aE) (raw:=wC) (λs=>[lp 5 39 (aA (aR (aZ s))) ae [] (λk=>[(7,.iqz (bs (aR (aZ s)) k:Nat))]) (λk=>[(14,.fam 111 3 .I (oX s k) []),(17,.row 3 .I (nX s k))]) λk=>
  [lp 8 46 (aA (aP (aR (aZ s)) k)) ae [] ae (λi=>[(14,.fam 111 3 .I (rgO (bs (aR (aZ s)) k) (aA (aP (aR (aZ s)) k)) i (oX s k)) []),(17,.row 3 .I (rgN k (bs (aR (aZ s)) k) (aA (aP (aR (aZ s)) k)) i (nX s k)))]) λi=>
  [jU 11 [(11,.iqz (bs (aR (aZ s)) k+i:Nat)),(12,.iqz (bs (aR (aZ s)) k+(i+1) % (aA (aP (aR (aZ s)) k)):Nat))],
  jF 12 14 (jp (rgO (bs (aR (aZ s)) k) (aA (aP (aR (aZ s)) k)) i (oX s k)) (bs (aR (aZ s)) k+i) (bs (aR (aZ s)) k+(i+1) % (aA (aP (aR (aZ s)) k))))]],
  lp 22 120 (aA (dOf s)) ae [40] (λk=>[(13,.own 40 .P k)]) (λk=>[(14,.fam 111 3 .I (dgO (vOf s) (dOf s) k (oB s)) []),(40,.row 69 .P ((pG s).take k))]) λk=>
  [jF 26 14 (jp (dgO (vOf s) (dOf s) k (oB s)) (dc (vOf s) (az (dOf s) k).a) (dc (vOf s) (az (dOf s) k).b))],
  lp 30 173 (aA (vOf s)) ae [] ae (λk=>[(14,.fam 111 3 .I (stO (vOf s) k (oD s)) []),(0,.box 0 [.undef])])]) λs hp=>bD (aO (oB s) λA=>aO (oD s) λB=>aO (pG s) λC=>aO (vOf s) λD=>aO (dOf s) λE=>aO (aZ s) λG=>aO (0:Nat) λK=>aO (0:Int) λM=>aO (aR G) λV=>aO ([] :List Int) λa=>aO (aA D:Int) λe=>Fit s/\0<=e/\e=(aA D)/\e<=1000000/\(aA D)*24<=1000000000/\0<=e/\e=(aA D)/\e<=1000000/\(aA D)*8<=1000000000/\Fit s/\Fit G/\K<(aA G.outer)/\(∀r:aU,r∈G.holes->K<aA r)/\(0=M/\0=(bs V 0:Int)/\dO (aA D) a=oX s 0/\dO (aA D) 0=nX s 0/\K<=aA V)/\
 (∀x:Nat,aO (x+1) λF=>aO (oX s x) λH=>aO (nX s x) λI=>aO (x:Int) λL=>aO (bs V x) λW=>aO (aP V x) λX=>aO (bs V x:Int) λZ=>x<=aA V->qiq (L<aA V) (ix L (aA V)/\(0=M/\oX s x=rgO W (aA X) 0 H/\nX s x=rgN x W (aA X) 0 I/\K<=aA X)/\
   (∀x_1:Nat,aO (x_1+1) λJ=>aO (x_1:Int) λO=>aO (bs V x+x_1) λY=>aO (x_1+1:Nat) λd=>aO ((bs V x+x_1:Nat):Int) λm=>aO (J % (aA X):Nat) λn=>aO (rgO W (aA X) x_1 H) λo=>aO (lk o Y a) λp=>aO (bs V x+J % (aA X)) λq=>aO (jp o Y q) λt=>aO (lk t q a) λv=>aO (lk t q a++[m]) λw=>aO (rgN x W (aA X) x_1 I) λz=>aO ((bs V x+J % (aA X):Nat):Int) λA4=>aO (lk o Y a++[A4]) λA5=>x_1<=aA X->qiq (O<aA X) ((aX (Z+x_1)/\aX (O+1)/\(aA X:Int)≠0/\aX (Z+(n:Int))/\Z+x_1=m/\Z+(n:Int)=A4)/\
     (∀y:Unit,(ix m (aA D)/\bs V x+x_1<(aA o)/\bs V x+x_1<(aA o)/\(aA p)=(aA p)/\(aA p)+[A4].length<=1000000/\ix m (aA D)/\bs V x+x_1=bs V x+x_1/\bs V x+x_1<(aA o)/\bs V x+x_1<(aA o)/\(aA A5)=(aA A5)/\pj o Y A5=jp o Y q)/\
      (∀y_1:Unit,ix A4 (aA D)/\bs V x+J % (aA X)<(aA t)/\bs V x+J % (aA X)<(aA t)/\(aA v)=(aA v)/\(aA v)+[m].length<=1000000/\ix A4 (aA D)/\bs V x+J % (aA X)=bs V x+J % (aA X)/\bs V x+J % (aA X)<(aA t)/\qiq (L=0) (ix m (aA D)/\bs V x+x_1<(aA z)/\aX (O+1)/\bs V x+J % (aA X)<(aA t)/\(aA w)=(aA w)/\O+1=(d:Int)/\pj t q w=rgO W (aA X) J H/\pj z Y A4=rgN x W (aA X) J I/\x_1+1<=(aA X)/\(aA X)-J<aA X-x_1) (ix A4 (aA D)/\bs V x+J % (aA X)<(aA z)/\aX (O+1)/\bs V x+J % (aA X)<(aA t)/\(aA w)=(aA w)/\O+1=(d:Int)/\pj t q w=rgO W (aA X) J H/\pj z q m=rgN x W (aA X) J I/\x_1+1<=(aA X)/\(aA X)-J<aA X-x_1)))) (aX (Z+aA X)/\qnr L x (Z+aA X=bs V F/\rgO W (aA X) x_1 H=oX s F/\rgN x W (aA X) x_1 I=nX s F/\x+1<=(aA V)/\(aA V)-F<aA V-x)))) (Fit s/\(0=M/\K=0/\oX s x=dgO D E 0 A/\ak 0 C=([] :List (Prod Nat Nat))/\K<=aA E)/\
   (∀x_1:Nat,aO (x_1+1) λN=>aO (x_1:Int) λP=>aO (az E x_1) λR=>aO (dc D R.a) λS=>aO (dc D R.b) λT=>aO (dgO D E x_1 A) λb=>aO (jp b S T) λc=>aO (lk b S a) λf=>aO (lk c T a) λg=>aO (ak x_1 C) λh=>aO (dc D R.a:Int) λi=>aO (dc D R.b:Int) λj=>aO (lk b S a++[j]) λA0=>aO (dc D R.a,dc D R.b) λA1=>aO (lk c T a++[i]) λA2=>x_1<=aA E->qiq (P<aA E) (ix P (aA E)/\(aA D)<=1000000/\R.a∈vOf s/\(aA D)<=1000000/\R.b∈vOf s/\(ix i (aA D)/\dc D R.a<(aA b)/\dc D R.a<(aA b)/\(aA f)=(aA f)/\(aA f)+[j].length<=1000000/\ix i (aA D)/\dc D R.a=dc D R.a/\dc D R.a<(aA b)/\dc D R.a<(aA b)/\(aA A0)=(aA A0)/\pj b S A0=jp b S T)/\
     (∀y:Unit,ix j (aA D)/\dc D R.b<(aA c)/\dc D R.b<(aA c)/\(aA g)=(aA g)/\(aA g)+[i].length<=1000000/\ix j (aA D)/\dc D R.b=dc D R.b/\dc D R.b<(aA c)/\x_1=h.length/\h.length+[A1].length<=1000000/\aX (P+1)/\dc D R.b<(aA c)/\(aA A2)=(aA A2)/\P+1=((x_1+1:Nat):Int)/\(aA (ak x_1 C++[A1]))=x_1+1/\pj c T A2=dgO D E N A/\ak x_1 C++[A1] =ak N C/\x_1+1<=(aA E)/\(aA E)-N<aA E-x_1)) ((0=M/\dgO D E x_1 A=stO D 0 B/\K<=aA D)/\
     (∀x_2:Nat,aO (x_2:Int) λQ=>aO (stO D x_2 B) λU=>aO (lk U x_2 a) λk=>x_2<=aA D->qiq (Q<aA D) (ix Q (aA D)/\x_2<(aA U)/\x_2<(aA U)/\k.length=k.length/\K<k.length/\k.length<=1000000/\(∀x:Int,x∈lk U x_2 a->0<=x/\x.toNat<aA D)/\x_2<(aA D)/\(aA D)<=1000000/\(∀u:aI8,u∈vOf s->bd 500000000 u)/\OrdOn (ltA D x_2) k/\qnr Q x_2 (pj U x_2 (qH (ltA D x_2) k)=stO D (x_2+1) B/\x_2+1<=(aA D)/\(aA D)-(x_2+1)<aA D-x_2)) (x_1=(aA C)/\vOf s=vOf s/\(aA D)=(aA D)/\(aA D)=(aA D)/\stO D x_2 B=oG s/\nX s x=nG s/\ak x_1 C=pG s))))))) (by
  change Fit s/\bL s=aE/\GOk s at hp;obtain⟨hf,hv,hg⟩:=hp;have V:VS s:=(rj s).1 hv;have hR:aj s=aE:=by rw[<-jv];exact hv
  have c1:aZ s=cn s:=if_pos hv;have f1:Fit (aZ s):=by rw[c1];exact HW hf
  have f2:0<aA (aZ s).outer:=by rw[c1];exact(C3 V).1
  have f3:∀r∈(aZ s).holes,0<aA r:=by rw[c1];exact(C3 V).2
  have fl:(aR (aZ s)).flatten=vOf s:=by rw[c1,uK hR];rfl
  have n80:aA (vOf s)<=80:=mv s;have rl:aA (aR (aZ s))<=1000:=by have:=f1.2.1;unfold aR;rw[iE];omega
  obtain⟨dl,dm⟩:=vu hv;have vb:∀u∈vOf s,bd 500000000 u:=λu hu=>by obtain⟨i,hi,rfl⟩:=fC.1 hu;exact qv hi bg
  have hB:∀x:Nat,(x:Int)<aA (aR (aZ s))->bs (aR (aZ s)) x+aA (aP (aR (aZ s)) x)<=aA (vOf s):=λx h=>by rw[uQ aC,<-fl];exact yX _ _
  have oXB:∀x:Nat,(x:Int)<aA (aR (aZ s))->∀c,aA (bK (oX s x) c)<=200:=λx h c=>by have h1:=Va s x aC c;grind
  have oBB:∀c,aA (bK (oB s) c)<=200:=λc=>by have h1:=Va s _ (bR _) c;have h2:=yX (aR (aZ s)) (aA (aR (aZ s)));rw[fl]at h2;have h3:aA (bK (oB s) c)<=2*bs (aR (aZ s)) (aA (aR (aZ s))):=h1;omega
  have dOB:∀k,k<=aA (dOf s)->∀c,aA (bK (dgO (vOf s) (dOf s) k (oB s)) c)<=13000:=λk hk c=>by have:=Tl oBB (vOf s) (dOf s) k c;omega
  have rOB:∀x i:Nat,(x:Int)<aA (aR (aZ s))->(i:Int)<aA (aP (aR (aZ s)) x)->∀c,aA (bK (rgO (bs (aR (aZ s)) x) (aA (aP (aR (aZ s)) x)) i (oX s x)) c)<=400:=λx i h h2 c=>by have:=KQ (oXB x h) (bs (aR (aZ s)) x) (aA (aP (aR (aZ s)) x)) i c;grind
  have r1:∀x i:Nat,(x:Int)<aA (aR (aZ s))->(i:Int)<aA (aP (aR (aZ s)) x)->bs (aR (aZ s)) x+i<aA (vOf s):=λx i h h2=>aH;have r2:∀x i:Nat,(x:Int)<aA (aR (aZ s))->(i:Int)<aA (aP (aR (aZ s)) x)->bs (aR (aZ s)) x+(i+1) % (aA (aP (aR (aZ s)) x))<aA (vOf s):=λx i h h2=>by have:=hB x h;have:=cG (i+1) (aC:0<aA (aP (aR (aZ s)) x));omega
  have t1:∀x i:Nat,(x:Int)<aA (aR (aZ s))->(i:Int)<aA (aP (aR (aZ s)) x)->aX ((bs (aR (aZ s)) x:Int)+i):=λx i h h2=>bP aH;have t2:∀x i:Nat,(x:Int)<aA (aR (aZ s))->(i:Int)<aA (aP (aR (aZ s)) x)->aX ((i:Int)+1):=λx i h h2=>bP (by have:=r1 x i h h2;omega);have t3:∀x i:Nat,(x:Int)<aA (aR (aZ s))->(i:Int)<aA (aP (aR (aZ s)) x)->aX ((bs (aR (aZ s)) x:Int)+(((i+1) % (aA (aP (aR (aZ s)) x)):Nat):Int)):=λx i h h2=>bP aH;have t4:∀x i:Nat,(x:Int)<aA (aR (aZ s))->(i:Int)<aA (aP (aR (aZ s)) x)->ix ((bs (aR (aZ s)) x+i:Nat):Int) (aA (vOf s)):=λx i h h2=>fS (r1 x i h h2);have t5:∀x i:Nat,(x:Int)<aA (aR (aZ s))->(i:Int)<aA (aP (aR (aZ s)) x)->ix ((bs (aR (aZ s)) x+(i+1) % (aA (aP (aR (aZ s)) x)):Nat):Int) (aA (vOf s)):=λx i h h2=>fS (r2 x i h h2);have rl2:∀x i:Nat,aA (rgO (bs (aR (aZ s)) x) (aA (aP (aR (aZ s)) x)) i (oX s x))=aA (vOf s):=λx i=>(Iz _ _ _ i).trans (Sj s x);have nl2:∀x i:Nat,aA (rgN x (bs (aR (aZ s)) x) (aA (aP (aR (aZ s)) x)) i (nX s x))=aA (vOf s):=λx i=>(AW _ _ _ _ i).trans (Jl s x);have t6:∀x i:Nat,(x:Int)<aA (aR (aZ s))->(i:Int)<aA (aP (aR (aZ s)) x)->bs (aR (aZ s)) x+i<aA (rgO (bs (aR (aZ s)) x) (aA (aP (aR (aZ s)) x)) i (oX s x)):=λx i h h2=>aH;have t7:∀x i a b:Nat,(x:Int)<aA (aR (aZ s))->(i:Int)<aA (aP (aR (aZ s)) x)->bs (aR (aZ s)) x+(i+1) % (aA (aP (aR (aZ s)) x))<aA (jp (rgO (bs (aR (aZ s)) x) (aA (aP (aR (aZ s)) x)) i (oX s x)) a b):=λx i a b h h2=>by rw[AP,rl2];grind
  have t8:∀x i c:Nat,∀z:Int,(x:Int)<aA (aR (aZ s))->(i:Int)<aA (aP (aR (aZ s)) x)->aA ((rgO (bs (aR (aZ s)) x) (aA (aP (aR (aZ s)) x)) i (oX s x)).getD c [])+[z].length<=1000000:=λx i c z h h2=>by have:aA ((rgO (bs (aR (aZ s)) x) (aA (aP (aR (aZ s)) x)) i (oX s x)).getD c [])<=400:=rOB x i h h2 c;grind
  have t9:∀x i a b c:Nat,∀z:Int,(x:Int)<aA (aR (aZ s))->(i:Int)<aA (aP (aR (aZ s)) x)->aA ((jp (rgO (bs (aR (aZ s)) x) (aA (aP (aR (aZ s)) x)) i (oX s x)) a b).getD c [])+[z].length<=1000000:=λx i a b c z h h2=>by have:aA ((jp (rgO (bs (aR (aZ s)) x) (aA (aP (aR (aZ s)) x)) i (oX s x)) a b).getD c [])<=401:=EM (rOB x i h h2) a b c;grind
  have t10:∀x i:Nat,(x:Int)<aA (aR (aZ s))->(i:Int)<aA (aP (aR (aZ s)) x)->bs (aR (aZ s)) x+i<aA (rgN x (bs (aR (aZ s)) x) (aA (aP (aR (aZ s)) x)) i (nX s x)):=λx i h h2=>aH;have t11:∀x i:Nat,(x:Int)<aA (aR (aZ s))->(i:Int)<aA (aP (aR (aZ s)) x)->bs (aR (aZ s)) x+(i+1) % (aA (aP (aR (aZ s)) x))<aA (rgN x (bs (aR (aZ s)) x) (aA (aP (aR (aZ s)) x)) i (nX s x)):=λx i h h2=>aH;have t12:∀x i:Nat,(x:Int)=0->(rgN x (bs (aR (aZ s)) x) (aA (aP (aR (aZ s)) x)) i (nX s x)).set (bs (aR (aZ s)) x+i) ((bs (aR (aZ s)) x+(i+1) % (aA (aP (aR (aZ s)) x)):Nat):Int)=rgN x (bs (aR (aZ s)) x) (aA (aP (aR (aZ s)) x)) (i+1) (nX s x):=λx i h=>(if_pos (aC:x=0)).symm;have t13:∀x i:Nat,¬(x:Int)=0->(rgN x (bs (aR (aZ s)) x) (aA (aP (aR (aZ s)) x)) i (nX s x)).set (bs (aR (aZ s)) x+(i+1) % (aA (aP (aR (aZ s)) x))) ((bs (aR (aZ s)) x+i:Nat):Int)=rgN x (bs (aR (aZ s)) x) (aA (aP (aR (aZ s)) x)) (i+1) (nX s x):=λx i h=>(if_neg (aC:¬x=0)).symm;have t14:∀x:Nat,(x:Int)<aA (aR (aZ s))->aX ((bs (aR (aZ s)) x:Int)+aA (aP (aR (aZ s)) x)):=λx h=>bP aH;have t15:∀x:Nat,(x:Int)<aA (aR (aZ s))->(bs (aR (aZ s)) x:Int)+aA (aP (aR (aZ s)) x)=(bs (aR (aZ s)) (x+1):Int):=λx h=>by rw[<-uQ (aC:x<aA (aR (aZ s)))];omega
  have t16:∀x i:Nat,¬(i:Int)<aA (aP (aR (aZ s)) x)->i<=aA (aP (aR (aZ s)) x)->rgO (bs (aR (aZ s)) x) (aA (aP (aR (aZ s)) x)) i (oX s x)=oX s (x+1):=λx i h h2=>by rw[show i=(aA (aP (aR (aZ s)) x)) by omega];rfl
  have t17:∀x i:Nat,¬(i:Int)<aA (aP (aR (aZ s)) x)->i<=aA (aP (aR (aZ s)) x)->rgN x (bs (aR (aZ s)) x) (aA (aP (aR (aZ s)) x)) i (nX s x)=nX s (x+1):=λx i h h2=>by rw[show i=(aA (aP (aR (aZ s)) x)) by omega];rfl
  have t18:∀x:Nat,¬(x:Int)<aA (aR (aZ s))->x<=aA (aR (aZ s))->oX s x=oB s:=λx h h2=>by rw[show x=(aA (aR (aZ s))) by omega];rfl
  have t19:∀x:Nat,¬(x:Int)<aA (aR (aZ s))->x<=aA (aR (aZ s))->nX s x=nG s:=λx h h2=>by rw[show x=(aA (aR (aZ s))) by omega];rfl
  have d0:∀x:Nat,(x:Int)<aA (dOf s)->az (dOf s) x∈dOf s:=λx h=>by rw[iV (aC:x<aA (dOf s))];grind
  have d1:∀x:Nat,(x:Int)<aA (dOf s)->(az (dOf s) x).a∈vOf s:=λx h=>(dm _ (d0 x h)).1;have d2:∀x:Nat,(x:Int)<aA (dOf s)->(az (dOf s) x).b∈vOf s:=λx h=>(dm _ (d0 x h)).2;have d3:∀x:Nat,(x:Int)<aA (dOf s)->ix (dc (vOf s) (az (dOf s) x).a:Int) (aA (vOf s)):=λx h=>fS (o5 (d1 x h));have d4:∀x:Nat,(x:Int)<aA (dOf s)->ix (dc (vOf s) (az (dOf s) x).b:Int) (aA (vOf s)):=λx h=>fS (o5 (d2 x h));have dl2:∀x:Nat,aA (dgO (vOf s) (dOf s) x (oB s))=aA (vOf s):=λx=>(JK _ _ _ x).trans (Sk s);have d5:∀x:Nat,(x:Int)<aA (dOf s)->dc (vOf s) (az (dOf s) x).a<aA (dgO (vOf s) (dOf s) x (oB s)):=λx h=>by rw[dl2];exact o5 (d1 x h)
  have d6:∀x a b:Nat,(x:Int)<aA (dOf s)->dc (vOf s) (az (dOf s) x).b<aA (jp (dgO (vOf s) (dOf s) x (oB s)) a b):=λx a b h=>by rw[AP,dl2];exact o5 (d2 x h)
  have d7:∀x c:Nat,∀z:Int,(x:Int)<aA (dOf s)->aA ((dgO (vOf s) (dOf s) x (oB s)).getD c [])+[z].length<=1000000:=λx c z h=>by have:aA ((dgO (vOf s) (dOf s) x (oB s)).getD c [])<=13000:=dOB x aC c;simp only[wV];omega
  have d8:∀x a b c:Nat,∀z:Int,(x:Int)<aA (dOf s)->aA ((jp (dgO (vOf s) (dOf s) x (oB s)) a b).getD c [])+[z].length<=1000000:=λx a b c z h=>by have:aA ((jp (dgO (vOf s) (dOf s) x (oB s)) a b).getD c [])<=13001:=EM (dOB x aC) a b c;simp only[wV];omega
  have pl:aA (pG s)=aA (dOf s):=dq ..;have d9:∀x:Nat,x<=aA (dOf s)->aA (ak x (pG s))=x:=λx h=>by rw[mK];omega
  have d10:∀x:Nat,(x:Int)<aA (dOf s)->ak x (pG s)++[(dc (vOf s) (az (dOf s) x).a,dc (vOf s) (az (dOf s) x).b)] =ak (x+1) (pG s):=λx h=>by rw[lC (aC:x<aA (pG s))];unfold pG dgP;rw[kz,iV (aC:x<aA (dOf s))]
  have d11:∀x:Nat,¬(x:Int)<aA (dOf s)->x<=aA (dOf s)->dgO (vOf s) (dOf s) x (oB s)=oD s:=λx h h2=>by rw[(aC:x=aA (dOf s))];rfl
  have d12:∀x:Nat,¬(x:Int)<aA (dOf s)->x<=aA (dOf s)->x=aA (pG s):=λx h h2=>aC;have d13:∀x:Nat,¬(x:Int)<aA (dOf s)->ak x (pG s)=pG s:=λx h=>jB aC;have s0:∀x:Nat,(x:Int)<aA (vOf s)->(stO (vOf s) x (oD s)).getD x [] =bK (oD s) x:=λx h=>by have:=Ak (vOf s) (oD s) x x (by rw[As];omega);rw[if_neg (Nat.lt_irrefl x)]at this;exact this
  have s1:∀x:Nat,(x:Int)<aA (vOf s)->x<aA (stO (vOf s) x (oD s)):=λx h=>by rw[DZ,As];omega
  have s2:∀x:Nat,(x:Int)<aA (vOf s)->0<aA ((stO (vOf s) x (oD s)).getD x []):=λx h=>by rw[s0 x h];exact(hg x aC).1
  have s3:∀x:Nat,(x:Int)<aA (vOf s)->aA ((stO (vOf s) x (oD s)).getD x [])<=1000000:=λx h=>by rw[s0 x h];have:=dOB _ (bR _) x;grind
  have s4:∀x:Nat,(x:Int)<aA (vOf s)->∀y∈(stO (vOf s) x (oD s)).getD x [],0<=y/\y.toNat<aA (vOf s):=λx h=>by rw[s0 x h];exact(hg x aC).2.1
  have s5:∀x:Nat,(x:Int)<aA (vOf s)->OrdOn (ltA (vOf s) x) ((stO (vOf s) x (oD s)).getD x []):=λx h=>by rw[s0 x h];exact(hg x aC).2.2
  have s6:∀x:Nat,¬(x:Int)<aA (vOf s)->x<=aA (vOf s)->stO (vOf s) x (oD s)=oG s:=λx h h2=>by rw[(aC:x=aA (vOf s))];rfl
  have w1:∀x:Nat,x<=aA (vOf s)->aX ((x:Int)+1):=λx h=>bP aC;clear hB oXB oBB dOB rOB fl c1 V hR hg
  repeat' first|with_reducible apply cJ|with_reducible intro
  all_goals repeat with_reducible cases‹_/\_›
  all_goals first|assumption|rfl|omega|(unfold ix;omega)|(unfold aX;omega)|exact f3 _ aJ|exact t1 _ _ aJ aJ|exact t2 _ _ aJ aJ|exact t3 _ _ aJ aJ|exact t4 _ _ aJ aJ|exact t5 _ _ aJ aJ|exact t6 _ _ aJ aJ|exact t7 _ _ _ _ aJ aJ|exact t8 _ _ _ _ aJ aJ|exact t9 _ _ _ _ _ _ aJ aJ|exact t10 _ _ aJ aJ|exact t11 _ _ aJ aJ|exact t12 _ _ aJ|exact t13 _ _ aJ|exact t14 _ aJ|exact t15 _ aJ|exact t16 _ _ aJ aJ|exact t17 _ _ aJ aJ|exact t18 _ aJ aJ|exact t19 _ aJ aJ|exact d1 _ aJ|exact d2 _ aJ|exact d3 _ aJ|exact d4 _ aJ|exact d5 _ aJ|exact d6 _ _ _ aJ|exact d7 _ _ _ aJ|exact d8 _ _ _ _ _ aJ|exact(d9 _ aJ).symm|(rw[d9 _ aJ];simp;omega)|(rw[eR,d9 _ aJ];rfl)|exact d10 _ aJ|exact d11 _ aJ aJ|exact d12 _ aJ aJ|exact d13 _ aJ|exact s1 _ aJ|exact s2 _ aJ|exact s3 _ aJ|exact(s4 _ aJ _ aJ).1|exact(s4 _ aJ _ aJ).2|exact vb _ aJ|exact s5 _ aJ|grind)
def UX:=VE.adk aGF
end Go.Proofs.YthbofdolalagjaaGreat
