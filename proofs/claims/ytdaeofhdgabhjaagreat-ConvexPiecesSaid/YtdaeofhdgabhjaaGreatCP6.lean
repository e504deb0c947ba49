/- What the statement stands on: contracts of functions, plain laws. Part 6 of 7, no condition of its own. (K38 K39 K40 R1 R2 R3 R4 R5 R6 R7 R8 R9 R10 R11 R12 R13 R14 R15 R16) -/
import Derived.Test.YtdaeofhdgabhjaaGreatCP5
set_option linter.all false
set_option maxRecDepth 100000
set_option maxHeartbeats 8000000
open List renaming range->bQ,take_succ_eq_append_getElem->iR,map_append->dM,mem_append->bg,mem_singleton->bi,take->aP,drop->cY,take_of_length_le->fT,length->dA,replicate->cS,length_replicate->rZ,not_mem_nil->cn,length_cons->gk,mem_cons->bT,mem_map->bZ,mem_range->cG,mem_cons_self->cI,mem_flatMap->cZ,mem_cons_of_mem->cE,mem_of_mem_take->Si,reverse->ic,flatMap_append->pH,append_assoc->jw,length_reverse->Sj,length_append->eW,set->kO,range_succ->qS,filter_append->pI,length_map->da,getElem_map->jG,flatten_cons->mc,map_map->dq,map_congr_left->nZ,getD_eq_getElem?_getD->du,take_length->ke,flatMap_cons->fM,Pairwise.imp->Cb,pairwise_map->kK,Pairwise.imp_of_mem->CZ,mem_flatten->k9,mem_append_left->iC,Pairwise.nil->tT,mem_append_right->fb,pairwise_iff_getElem->nU,getElem_mem->lI,mem_iff_getElem->iZ,append_nil->yg,map_cons->dB
open And renaming intro->bl
open Nat renaming le_refl->bI,le_trans->cF,mod_lt->bq,beq->bH,le_of_ble_eq_true->mA,zero_le->iY,zero_add->jy,add_mod_right->pB,mod_add_mod->kc,mod_eq_of_lt->dZ,mod_self->ju
open Int renaming toNat_natCast->iF
open Bool renaming not_eq_true'->CY
open Go.Proofs.Tryz renaming prog->bE,f14->y5
open Go.RowKit
open Go.Proofs.YtdaeofhdgabhjaaGreat.Geo
open Go.Proofs.YtdaeofhdgabhjaaGreat.Geo renaming V->aEZ,S->aE0,nth->aEY,sub->aE1,Fan->aE9,Faces->aFa
namespace Go.Proofs.YtdaeofhdgabhjaaGreat
def lfS(s:Shape)(k:Nat):Nat:=((s.holes.take k).map λr=>lfR r r.length).sum
def Ga(r:aH)(x:Nat):lfR r x<=x:=by have:=List.length_filter_le (lfP r) (bQ x);rw[List.length_range]at this;exact this
def E5{s:Shape}{k:Nat}(h:k<s.holes.length):lfS s k+lfR (aC s.holes k) (aC s.holes k).length=lfS s (k+1):=by unfold lfS;rw[iR h,dM,List.sum_append,je h];simp
def Oz{s:Shape}(h:∀x:Nat,x<s.holes.length->(aC s.holes x).length<=1000):∀k,k<=s.holes.length->lfS s k<=1000*k
 |0,_=>by unfold lfS;simp
 |k+1,hk=>by
  have h1:=Oz h k (by omega);have h2:=Ga (aC s.holes k) (aC s.holes k).length;have h3:=h k (by omega);rw[<-E5 (by omega)];omega
def nP(s:Shape):Int:=if aj s=true then(s.outer.length:Int)-lfR s.outer s.outer.length+lfS s s.holes.length else 0
noncomputable def c54:Con:=con (a1 aSh) (λs=>[Fit s]) (λs=> .iqz (nP s))
def k54:c54.Okz 54:=ag RQ (λs=>[lp 5 4 s.holes.length bW [] (λk=>[(3,.iqz ((s.outer.length:Int)-lfR s.outer s.outer.length+lfS s k))]) bW]
  ) (λ_=>⟨_,rfl⟩) λs hp=>aY (aA (!aj s) λB=>aA (s.outer.length:Int) λD=>Fit s/\(B=true->0=nP s)/\
 (B=false->s.outer.length<=1000/\(∀u:aEZ,u∈s.outer->bd 1000000000 u)/\aE (D-lfR s.outer s.outer.length)/\(0=(0:Int)/\D-lfR s.outer s.outer.length=s.outer.length-lfR s.outer s.outer.length+lfS s 0/\(0:Nat)<=s.holes.length)/\
  (∀x:Nat,aA (x:Int) λA=>aA (aC s.holes x) λC=>x<=s.holes.length->(A<s.holes.length->ix A s.holes.length/\C.length<=1000/\(∀u:aEZ,u∈aC s.holes x->bd 1000000000 u)/\aE (D-lfR s.outer s.outer.length+lfS s x+lfR C C.length)/\aE (A+1)/\A+1=((x+1:Nat):Int)/\D-lfR s.outer s.outer.length+lfS s x+lfR C C.length=s.outer.length-lfR s.outer s.outer.length+lfS s (x+1)/\x+1<=s.holes.length/\s.holes.length-(x+1)<s.holes.length-x)/\
   (¬A<s.holes.length->D-lfR s.outer s.outer.length+lfS s x=nP s)))) (by kernel_rfl) (by
  change Fit s at hp;have V:(!aj s)=false->VS s:=λh=>vsR (nb h);have b0:∀r:aH,VR r->∀u:aEZ,u∈r->bd 1000000000 u:=λr hr u hu=>by obtain⟨i,hi,e⟩:=fD.1 hu;rw[e];exact lQ hr.near hi
  have o1:(!aj s)=false->∀u:aEZ,u∈s.outer->bd 1000000000 u:=λh=>b0 _ (V h).outer;have o2:s.outer.length<=1000:=hp.1;have o3:=Ga s.outer s.outer.length;have h1:∀x:Nat,(x:Int)<s.holes.length->(aC s.holes x).length<=1000:=λx h=>hp.hole (by omega);have h2:(!aj s)=false->∀x:Nat,(x:Int)<s.holes.length->∀u:aEZ,u∈aC s.holes x->bd 1000000000 u:=λh x hx=>b0 _ ((V h).hole x (by omega));have h3:s.holes.length<=900:=hp.2.1;have h4:∀x:Nat,x<=s.holes.length->lfS s x<=1000*x:=λx h=>Oz (λy hy=>hp.hole hy) x h;have e0:(!aj s)=true->0=nP s:=λh=>by unfold nP;grind
  have z0:lfS s 0=0:=rfl;have w1:aE ((s.outer.length:Int)-lfR s.outer s.outer.length):=bD (by omega);have w2:∀x:Nat,(x:Int)<s.holes.length->aE ((s.outer.length:Int)-lfR s.outer s.outer.length+lfS s x+lfR (aC s.holes x) (aC s.holes x).length):=λx h=>by have a1:=h4 x (by omega);have a2:=Ga (aC s.holes x) (aC s.holes x).length;have a3:=h1 x h;exact bD (by omega)
  have w3:∀x:Nat,(x:Int)<s.holes.length->aE ((x:Int)+1):=λx h=>bD (by omega);have s1:∀x:Nat,(x:Int)<s.holes.length->(s.outer.length:Int)-lfR s.outer s.outer.length+lfS s x+lfR (aC s.holes x) (aC s.holes x).length=s.outer.length-lfR s.outer s.outer.length+lfS s (x+1):=λx h=>by rw[<-E5 (by omega)];omega
  have s2:(!aj s)=false->∀x:Nat,¬(x:Int)<s.holes.length->x<=s.holes.length->(s.outer.length:Int)-lfR s.outer s.outer.length+lfS s x=nP s:=λh x h1 h2=>by unfold nP;grind
  with_reducible ((repeat' first|apply bl|intro);all_goals repeat cases‹_/\_›)
  all_goals first|rfl|with_reducible solve_by_elim|(with_reducible first|assumption|rfl|exact h2 ‹_› _ ‹_› _ ‹_› |exact s2 ‹_› _ ‹_› ‹_› |exact o1 ‹_› _ ‹_›)|grind)
noncomputable def t54:=RQ.adk k54
def gU(s:Shape)(K:List S)(k:Nat):List S:=aa s++K++(dOf s).drop k
def rF(l:List S)(d:S):Bool:= !jm l d.a d.b|| !jm l d.b d.a
def kpR(s:Shape):Nat->List S
 |0=>[]
 |k+1=>if rF (gU s (kpR s k) k) (aK (dOf s) k)=true then kpR s k++[aK (dOf s) k]else kpR s k
def stR(s:Shape):List S:=if eOf s=0 then kpR s (dOf s).length else []
def Ap(s:Shape):∀k,(kpR s k).length<=k
 |0=>bI _
 |k+1=>by
  have:=Ap s k;unfold kpR;grind
def xT(s:Shape):∀k,k<=(dOf s).length->∀e∈kpR s k,e∈dOf s
 |0,_,e,he=>by cases he
 |k+1,h,e,he=>by
  unfold kpR at he;split at he
  .rcases bg.1 he with he|he
   .exact xT s k (by omega) e he
   .rw[bi.1 he,eZ (by omega)];grind
  .exact xT s k (by omega) e he
def Yx{s:Shape}(V:VS s)(hd:(dOf s).length<=6400)(k:Nat):k<=(dOf s).length->(gU s (kpR s k) k).length<=20000:=λh=>by have h1:=zH V;have h2:=Ap s k;unfold gU;grind
def uR{s:Shape}(h:aj s=true):∀e∈dOf s,bd 500000000 e.a/\bd 500000000 e.b:=λe he=>by obtain⟨h1,h2⟩:=(po (s:=s) (by rw[ii];exact h)).2 e he;obtain⟨i,hi,e1⟩:=fD.1 h1;obtain⟨j,hj,e2⟩:=fD.1 h2;rw[e1,e2];exact⟨sf hi,sf hj⟩
def VN{s:Shape}(V:VS s):∀e∈aa s,bd 500000000 e.a/\bd 500000000 e.b:=λe he=>by have:=LH V e he;exact⟨qF this.1 (by decide),qF this.2 (by decide)⟩
def XD{s:Shape}(h:aj s=true)(V:VS s){k:Nat}(hk:k<=(dOf s).length):∀e∈gU s (kpR s k) k,bd 500000000 e.a/\bd 500000000 e.b:=λe he=>by
 unfold gU at he;rcases bg.1 he with he|he
 .rcases bg.1 he with he|he
  .exact VN V e he
  .exact uR h e (xT s k hk e he)
 .exact uR h e (List.mem_of_mem_drop he)
noncomputable def c52:Con:=con (a1 aSh) (λs=>[Fit s]) (λs=> .tup [.lst .S (stR s),.iqz (eOf s)])
def k52:c52.Okz 52:=ag t54 (λs=>[lp 7 8 (dOf s).length bW [900] (λk=>[(7,.own 900 .S (kpR s k).length)]) (λk=>[(900,.row 46 .S (kpR s k))])]
  ) (λ_=>⟨_,rfl⟩) λs hp=>aY (Fit s/\(¬eOf s=0->stR s=([] :List S)/\eOf s=eOf s)/\
 (¬(¬eOf s=0)->Fit s/\(0=(0:Int)/\(kpR s 0).length=0/\kpR s 0=([] :List S)/\(0:Nat)<=(dOf s).length)/\
  (∀x:Nat,x<=(dOf s).length->((x:Int)<(dOf s).length->([] :List S).length+(aa s).length<=1000000/\(([] :List S)++aa s).length=(([] :List S)++aa s).length/\(kpR s x).length=(kpR s x).length/\(([] :List S)++aa s).length+(kpR s x).length<=1000000/\(0<=(x:Int)/\(x:Int)<=(dOf s).length)/\(([] :List S)++aa s++kpR s x).length=(([] :List S)++aa s++kpR s x).length/\x+((dOf s).length-x)<=(dOf s).length/\(([] :List S)++aa s++kpR s x).length+(aP ((dOf s).length-x) (cY x (dOf s))).length<=1000000/\ix (x:Int) (dOf s).length/\x<(dOf s).length/\ix (x:Int) (dOf s).length/\x<(dOf s).length/\(([] :List S)++aa s++kpR s x++aP ((dOf s).length-x) (cY x (dOf s))).length=(([] :List S)++aa s++kpR s x++aP ((dOf s).length-x) (cY x (dOf s))).length/\(([] :List S)++aa s++kpR s x++aP ((dOf s).length-x) (cY x (dOf s))).length<=900000/\bd 500000000 (aK (dOf s) x).a/\bd 500000000 (aK (dOf s) x).b/\(∀e:S,e∈([] :List S)++aa s++kpR s x++aP ((dOf s).length-x) (cY x (dOf s))->bd 500000000 e.a/\bd 500000000 e.b)/\((!jm (([] :List S)++aa s++kpR s x++aP ((dOf s).length-x) (cY x (dOf s))) (aK (dOf s) x).a (aK (dOf s) x).b)=true->ix (x:Int) (dOf s).length/\x<(dOf s).length/\(kpR s x).length=(kpR s x).length/\(kpR s x).length+[(aK (dOf s) x)].length<=1000000/\aE ((x:Int)+1)/\(x:Int)+1=((x+1:Nat):Int)/\(kpR s x++[(aK (dOf s) x)]).length=(kpR s (x+1)).length/\kpR s x++[(aK (dOf s) x)] =kpR s (x+1)/\x+1<=(dOf s).length/\(dOf s).length-(x+1)<(dOf s).length-x)/\
    ((!jm (([] :List S)++aa s++kpR s x++aP ((dOf s).length-x) (cY x (dOf s))) (aK (dOf s) x).a (aK (dOf s) x).b)=false->ix (x:Int) (dOf s).length/\x<(dOf s).length/\ix (x:Int) (dOf s).length/\x<(dOf s).length/\(([] :List S)++aa s++kpR s x++aP ((dOf s).length-x) (cY x (dOf s))).length=(([] :List S)++aa s++kpR s x++aP ((dOf s).length-x) (cY x (dOf s))).length/\(([] :List S)++aa s++kpR s x++aP ((dOf s).length-x) (cY x (dOf s))).length<=900000/\bd 500000000 (aK (dOf s) x).b/\bd 500000000 (aK (dOf s) x).a/\(∀e:S,e∈([] :List S)++aa s++kpR s x++aP ((dOf s).length-x) (cY x (dOf s))->bd 500000000 e.a/\bd 500000000 e.b)/\((!jm (([] :List S)++aa s++kpR s x++aP ((dOf s).length-x) (cY x (dOf s))) (aK (dOf s) x).b (aK (dOf s) x).a)=true->ix (x:Int) (dOf s).length/\x<(dOf s).length/\(kpR s x).length=(kpR s x).length/\(kpR s x).length+[(aK (dOf s) x)].length<=1000000/\aE ((x:Int)+1)/\(x:Int)+1=((x+1:Nat):Int)/\(kpR s x++[(aK (dOf s) x)]).length=(kpR s (x+1)).length/\kpR s x++[(aK (dOf s) x)] =kpR s (x+1)/\x+1<=(dOf s).length/\(dOf s).length-(x+1)<(dOf s).length-x)/\
     ((!jm (([] :List S)++aa s++kpR s x++aP ((dOf s).length-x) (cY x (dOf s))) (aK (dOf s) x).b (aK (dOf s) x).a)=false->aE ((x:Int)+1)/\(x:Int)+1=((x+1:Nat):Int)/\(kpR s x).length=(kpR s (x+1)).length/\kpR s x=kpR s (x+1)/\x+1<=(dOf s).length/\(dOf s).length-(x+1)<(dOf s).length-x)))/\
   (¬(x:Int)<(dOf s).length->(kpR s x).length=(kpR s x).length/\kpR s x=stR s/\0=eOf s)))) (by kernel_rfl) (by
  change Fit s at hp;have R:¬¬eOf s=0->aj s=true:=λh=>uc h;have al:∀x:Nat,([] :List S)++aa s++kpR s x++aP ((dOf s).length-x) (cY x (dOf s))=gU s (kpR s x) x:=λx=>by rw[List.nil_append,fT (by grind)];rfl
  have e0:¬eOf s=0->stR s=([] :List S):=λh=>by unfold stR;rw[if_neg h]
  refine⟨hp,λh=>⟨e0 h,rfl⟩,λh=> ?_⟩;have V:=vsR (R h);have hd:=(po (s:=s) (by rw[ii];exact R h)).1;have he:=zH V;have l1:∀x:Nat,x<=(dOf s).length->(gU s (kpR s x) x).length<=900000:=λx hx=>cF (Yx V hd x hx) (by decide);have l2:∀x:Nat,x<=(dOf s).length->∀e:S,e∈gU s (kpR s x) x->bd 500000000 e.a/\bd 500000000 e.b:=λx hx=>XD (R h) V hx;have l3:∀(x:Nat) (e:S),e∈gU s (kpR s x) x->x<=(dOf s).length->bd 500000000 e.a:=λx e h1 h2=>(l2 x h2 e h1).1;have l4:∀(x:Nat) (e:S),e∈gU s (kpR s x) x->x<=(dOf s).length->bd 500000000 e.b:=λx e h1 h2=>(l2 x h2 e h1).2;have n1:∀x:Nat,(x:Int)<(dOf s).length->bd 500000000 (aK (dOf s) x).a:=λx hx=>(uR (R h) _ (by rw[eZ (show x<(dOf s).length by omega)];grind)).1;have n2:∀x:Nat,(x:Int)<(dOf s).length->bd 500000000 (aK (dOf s) x).b:=λx hx=>(uR (R h) _ (by rw[eZ (show x<(dOf s).length by omega)];grind)).2;have kl:=Ap s;have kp0:kpR s 0=[] :=rfl;have kp0':(kpR s 0).length=0:=rfl;have nl:([] :List S).length+(aa s).length<=1000000:=by simp only[List.length_nil];omega
  have nl2:∀x:Nat,x<=(dOf s).length->(([] :List S)++aa s).length+(kpR s x).length<=1000000:=λx hx=>by grind
  have nl3:∀x:Nat,x<=(dOf s).length->(([] :List S)++aa s++kpR s x).length+(aP ((dOf s).length-x) (cY x (dOf s))).length<=1000000:=λx hx=>by grind
  have nl4:∀x:Nat,∀z:S,x<=(dOf s).length->(kpR s x).length+[z].length<=1000000:=λx z hx=>by grind
  have w3:∀x:Nat,(x:Int)<(dOf s).length->aE ((x:Int)+1):=λx h=>bD (by omega);have k1:∀x:Nat,(!jm (gU s (kpR s x) x) (aK (dOf s) x).a (aK (dOf s) x).b)=true->kpR s x++[aK (dOf s) x] =kpR s (x+1):=λx h=>by show _=if _ then _ else _;rw[if_pos];unfold rF;rw[h];rfl
  have k2:∀x:Nat,(!jm (gU s (kpR s x) x) (aK (dOf s) x).b (aK (dOf s) x).a)=true->kpR s x++[aK (dOf s) x] =kpR s (x+1):=λx h=>by show _=if _ then _ else _;rw[if_pos];unfold rF;rw[h];simp
  have k3:∀x:Nat,(!jm (gU s (kpR s x) x) (aK (dOf s) x).a (aK (dOf s) x).b)=false->(!jm (gU s (kpR s x) x) (aK (dOf s) x).b (aK (dOf s) x).a)=false->kpR s x=kpR s (x+1):=λx h1 h2=>by show _=if _ then _ else _;rw[if_neg];unfold rF;grind
  have fin:∀x:Nat,¬(x:Int)<(dOf s).length->x<=(dOf s).length->kpR s x=stR s:=λx h1 h2=>by unfold stR;grind
  have e9:(0:Int)=eOf s:=by omega
  simp only[al]
  repeat' first|with_reducible apply bl|with_reducible intro
  all_goals repeat with_reducible cases‹_/\_›
  all_goals first|(with_reducible first|assumption|rfl)|exact trivial|exact kp0|exact kp0'|(with_reducible first|exact n1 _ ‹_› |exact n2 _ ‹_› |exact nl2 _ ‹_› |exact nl3 _ ‹_› |exact nl4 _ _ ‹_› |exact l1 _ ‹_› |exact l2 _ ‹_› |exact l2 _ ‹_› _ ‹_› |exact w3 _ ‹_› |exact k1 _ ‹_› |exact congrArg dA (k1 _ ‹_›)|exact k2 _ ‹_› |exact congrArg dA (k2 _ ‹_›)|exact k3 _ ‹_› ‹_› |exact congrArg dA (k3 _ ‹_› ‹_›)|exact fin _ ‹_› ‹_›)|omega|(unfold ix;omega)|exact trivial|exact l3 _ _ ‹_› ‹_› |exact l4 _ _ ‹_› ‹_› |exact rfl)
noncomputable def t52:=t54.adk k52
noncomputable def aBz:Con:=yQ (a1 (aL .V)) (λr=>[r.length<=100000]) 46 .S (λr=>aJ r) (λ_=>[])
def aBl:aBz.Okz 102:=A8 (mT t52.o) (raw:=rB) (λr=>[lp 5 4 r.length bW [900] (λk=>[(3,.own 900 .S (eg r k).length)]) (λk=>[(900,.row 46 .S (eg r k))])]
  ) (λ_=>⟨[],rfl⟩) λr hp=>aY (aA (r.length:Int) λG=>aA ([] :List aE0) λI=>(G<2->aJ r=I)/\
 (¬G<2->(0=(0:Int)/\(eg r 0).length=0/\eg r 0=I/\(0:Nat)<=r.length)/\
  (∀x:Nat,aA (x+1) λA=>aA (eg r x) λB=>aA (x:Int) λC=>aA (⟨(aEY r x),(aEY r (A % r.length))⟩:aE0) λH=>x<=r.length->(C<r.length->ix C r.length/\aE (C+1)/\G≠0/\ix ((A % r.length:Nat):Int) r.length/\B.length=B.length/\B.length+[H].length<=1000000/\aE (C+1)/\C+1=((x+1:Nat):Int)/\(eg r x++[H]).length=(eg r A).length/\eg r x++[H] =eg r A/\x+1<=r.length/\r.length-A<r.length-x)/\
   (¬C<r.length->eg r x=aJ r/\B.length=B.length)))) (by kernel_rfl) (by
  change r.length<=100000 at hp;have e0:eg r 0=[] :=rfl;have es:=OI r;have el:=O9 r;have ee:aJ r=if r.length<2 then []else eg r r.length:=rfl
  with_reducible ((repeat' first|apply bl|intro);all_goals repeat cases‹_/\_›)
  all_goals first|assumption|rfl|exact trivial|exact nb ‹_› |exact nb' ‹_› |omega|exact gH (by omega)|(unfold ix;omega)|(unfold aE;omega)|exact fz _|exact bz ‹_› ‹_› |(refine bz ‹_› ?_;simp_all;done)|grind)
noncomputable def x8:=t52.adk aBl
def hU(s:Shape)(k:Nat):List aE0:=aJ s.outer++(s.holes.take k).flatMap λr=>aJ r.reverse
def vH(d:aE0):List aE0:=[d,⟨d.b,d.a⟩]
def hUT(s:Shape)(k:Nat):List aE0:=hU s s.holes.length++((stR s).take k).flatMap vH
def hsR(s:Shape):List aE0:=hUT s (stR s).length
def adR(s:Shape):List aE0:=hU s s.holes.length++stR s
def nxQ(A:List aE0)(e:aE0):aEZ:=dX (cQ A e.b) e.b e.a true
def nxI(H:List aE0)(b q:aEZ)(k0:Nat):Nat->Nat
 |0=>k0
 |m+1=>if(aK H m).a=b/\(aK H m).b=q then m else nxI H b q k0 m
def nxB(H A:List aE0)(k:Nat):Nat:=nxI H (aK H k).b (nxQ A (aK H k)) k H.length
def trB(H A:List aE0):Nat->List Bool->Nat->List aEZ->List Bool×List aEZ
 |0,U,_,r=>(U,r)
 |f+1,U,k,r=>if iQ U k=true then(U,r)else trB H A f (U.set k true) (nxB H A k) (r++[(aK H k).a])
def pcB(H A:List aE0):Nat->List Bool×List aH
 |0=>(cS H.length false,[])
 |k+1=>((trB H A ((pcB H A k).1.count false) (pcB H A k).1 k []).1,if 0<(trB H A ((pcB H A k).1.count false) (pcB H A k).1 k []).2.length then fw (pcB H A k).2 (bo (c5 (trB H A ((pcB H A k).1.count false) (pcB H A k).1 k []).2))else(pcB H A k).2)
def pcT(s:Shape):List aH:=if eOf s=0 then(pcB (hsR s) (adR s) (hsR s).length).2 else []
abbrev TrB:=List Bool×Nat×List aEZ
structure TB(H A:List aE0)(U0:List Bool)(k0:Nat)(y:TrB):Prop where
 len:y.1.length=H.length
 lt:y.2.1<H.length
 run:trB H A (y.1.count false) y.1 y.2.1 y.2.2=trB H A (U0.count false) U0 k0 []
 cnt:y.2.2.length+y.1.count false<=H.length
 pts:∀u∈y.2.2,bd 1000000000 u
def A9:∀{l:List Bool} {i:Nat},i<l.length->iQ l i=false->l.count false=(l.set i true).count false+1
 |b::l,0,_,h=>by
  have:b=false:=h;grind
 |b::l,i+1,hi,h=>by
  have ih:=A9 (l:=l) (i:=i) (by grind) h;grind
def xp{H:List aE0}{b q:aEZ}{k0 n:Nat}(h:k0<n):∀m,m<=n->nxI H b q k0 m<n
 |0,_=>h
 |m+1,hm=>by
  unfold nxI;split
  .omega
  .exact xp h m (by omega)
def xg{H A:List aE0}{f:Nat}{U:List Bool}{k:Nat}{r:List aEZ}(h:iQ U k=true):trB H A f U k r=(U,r):=by
 cases f with
 |zero=>rfl
 |succ f=>exact if_pos h
def xL{H A:List aE0}{f:Nat}{U:List Bool}{k:Nat}{r:List aEZ}(h:iQ U k=false):trB H A (f+1) U k r=trB H A f (U.set k true) (nxB H A k) (r++[(aK H k).a]):=if_neg (by grind)
def M4{H A:List aE0}:∀(f:Nat) (U:List Bool) (k:Nat) (r:List aEZ),U.length=H.length->k<H.length->r.length+U.count false<=H.length->(trB H A f U k r).2.length<=H.length/\(trB H A f U k r).1.length=H.length
 |0,U,k,r,h1,_,h3=>⟨by show r.length<=_;omega,h1⟩
 |f+1,U,k,r,h1,h2,h3=>by
  cases h:iQ U k with
  |true=>rw[xg h];grind
  |false=>
   rw[xL h];refine M4 f _ _ _ (by grind) (xp h2 _ (bI _)) ?_;have:=A9 (by omega) h;grind
def TB.step{H A:List aE0}{U0:List Bool}{k0:Nat}{y:TrB}(T:TB H A U0 k0 y)(hb:∀e∈H,bd 1000000000 e.a)(h:iQ y.1 y.2.1=false):TB H A U0 k0 (y.1.set y.2.1 true,nxB H A y.2.1,y.2.2++[(aK H y.2.1).a])/\(y.1.set y.2.1 true).count false<y.1.count false:=by
 have hl:=T.len;have hlt:=T.lt;have c:=A9 (show y.2.1<y.1.length by omega) h;have hc:=T.cnt;refine⟨⟨by grind,xp hlt _ (bI _),?_,?_,?_⟩,by omega⟩
 .dsimp only;rw[<-T.run,c,xL h]
 .grind
 .intro u hu;rcases bg.1 hu with hu|hu
  .exact T.pts u hu
  .rw[bi.1 hu];refine hb _ ?_;rw[eZ hlt];grind
def xD(H A:List aE0)(k:Nat):pcB H A (k+1)=((trB H A ((pcB H A k).1.count false) (pcB H A k).1 k []).1,if 0<(trB H A ((pcB H A k).1.count false) (pcB H A k).1 k []).2.length then fw (pcB H A k).2 (bo (c5 (trB H A ((pcB H A k).1.count false) (pcB H A k).1 k []).2))else(pcB H A k).2):=rfl
def Mh(r:List aEZ):(c5 r).length<=r.length:=sT r r.length
def Fk(H A:List aE0):∀k,k<=H.length->(pcB H A k).1.length=H.length/\(pcB H A k).2.length<=k/\∀q∈(pcB H A k).2,q.length<=H.length
 |0,_=>⟨rZ,bI _,λq hq=>(cn hq).elim⟩
 |k+1,h=>by
  obtain⟨h1,h2,h3⟩:=Fk H A k (by omega);have c:(pcB H A k).1.count false<=H.length:=by rw[<-h1];exact List.count_le_length
  have t:=M4 (A:=A) ((pcB H A k).1.count false) (pcB H A k).1 k [] h1 (by omega) (by grind);rw[xD];refine⟨t.2,?_,?_⟩
  .dsimp only;split
   .rw[(AF _ _).length_eq,gk];omega
   .omega
  .dsimp only;split
   .intro q hq;rcases bT.1 ((AF _ _).mem_iff.1 hq)with e|hq
    .rw[e,j4];exact cF (Mh _) t.1
    grind
   .exact h3
def pbU(s:Shape)(k:Nat):List Bool:=(pcB (hsR s) (adR s) k).1
def pbR(s:Shape)(k:Nat):List aH:=(pcB (hsR s) (adR s) k).2
def TBs(s:Shape)(k:Nat)(y:TrB):Prop:=TB (hsR s) (adR s) (pbU s k) k y
def nxS(s:Shape)(k m:Nat):Nat:=nxI (hsR s) (aK (hsR s) k).b (nxQ (adR s) (aK (hsR s) k)) k m
def TBs.start{s:Shape}{k:Nat}(h:(pbU s k).length=(hsR s).length)(hk:k<(hsR s).length):TBs s k (pbU s k,(k,([] :List aEZ))) where
 len:=h
 lt:=hk
 run:=rfl
 cnt:=by grind
 pts:=λu hu=>(cn hu).elim
def TBs.stop{s:Shape}{k:Nat}{y:TrB}(T:TBs s k y)(h:iQ y.1 y.2.1=true):trB (hsR s) (adR s) ((pbU s k).count false) (pbU s k) k [] =(y.1,y.2.2):=by rw[<-T.run];exact xg h
def TBs.u{s:Shape}{k:Nat}{y:TrB}(T:TBs s k y)(h:iQ y.1 y.2.1=true):y.1=pbU s (k+1):=by have e:=T.stop h;unfold pbU at e|-;rw[xD,e]
def TBs.yes{s:Shape}{k:Nat}{y:TrB}(T:TBs s k y)(h:iQ y.1 y.2.1=true)(h0:0<(y.2.2.length:Int)):fw (pbR s k) (bo (c5 y.2.2))=pbR s (k+1):=by have e:=T.stop h;unfold pbU at e;unfold pbR;rw[xD,e];grind
def TBs.no{s:Shape}{k:Nat}{y:TrB}(T:TBs s k y)(h:iQ y.1 y.2.1=true)(h0:¬0<(y.2.2.length:Int)):pbR s k=pbR s (k+1):=by have e:=T.stop h;unfold pbU at e;unfold pbR;rw[xD,e];grind
def xR{r:aH}{e:aE0}(h:e∈aJ r):e.a∈r/\e.b∈r:=by
 unfold aJ at h;split at h
 .cases h
 .obtain⟨i,hi,rfl⟩:=bZ.1 h;have hi:=cG.1 hi;exact⟨dh hi,dh (bq _ (by omega))⟩
def NP{s:Shape}(V:VS s){r:aH}(hr:r∈aD s):∀u∈r,bd 500000000 u:=λu hu=>by obtain⟨i,hi,e⟩:=fD.1 hu;rw[e];exact lQ (V.ring hr).near hi
def OF{s:Shape}(V:VS s)(k:Nat):∀e∈hU s k,bd 500000000 e.a/\bd 500000000 e.b:=λe he=>by
 unfold hU at he;rcases bg.1 he with he|he
 .have h:=NP V (r:=s.outer) cI;exact⟨h _ (xR he).1,h _ (xR he).2⟩
 .obtain⟨r,hr,he⟩:=cZ.1 he;have h:=NP V (r:=r) (cE _ (Si hr));have:=xR he;grind
def NF{s:Shape}:∀e∈stR s,e∈dOf s:=λe he=>by
 unfold stR at he;split at he
 .exact xT s _ (bI _) e he
 .cases he
def FT(s:Shape):(stR s).length<=(dOf s).length:=by
 unfold stR;split
 .exact Ap s _
 grind
def Yy{s:Shape}(h:aj s=true):∀e∈adR s,bd 500000000 e.a/\bd 500000000 e.b:=λe he=>by
 unfold adR at he;rcases bg.1 he with he|he
 .exact OF (vsR h) _ e he
 .exact uR h e (NF e he)
def YS{s:Shape}(h:aj s=true)(k:Nat):∀e∈hUT s k,bd 500000000 e.a/\bd 500000000 e.b:=λe he=>by
 unfold hUT at he;rcases bg.1 he with he|he
 .exact OF (vsR h) _ e he
 .obtain⟨d,hd,he⟩:=cZ.1 he;have:=uR h d (NF d (Si hd));unfold vH at he;grind
def OE{s:Shape}{x:Nat}(h:x<s.holes.length):hU s x++aJ (ic (aC s.holes x))=hU s (x+1):=by unfold hU;rw[iR h,pH,je h,jw];simp
def MP{s:Shape}{x:Nat}(h:x<(stR s).length):hUT s x++[aK (stR s) x,⟨(aK (stR s) x).b,(aK (stR s) x).a⟩] =hUT s (x+1):=by unfold hUT;rw[iR h,pH,eZ h,jw];simp[vH]
def Gb{s:Shape}(hf:Fit s):∀k,k<=s.holes.length->(hU s k).length<=1000+1000*k
 |0,_=>by
  have:=sP s.outer;have:=hf.1;unfold hU;simp;omega
 |k+1,h=>by
  have h1:=Gb hf k (by omega);have h2:=sP (ic (aC s.holes k));have h3:=hf.hole (k:=k) (by omega);rw[Sj]at h2;rw[<-OE (by omega),eW];omega
def Ft{s:Shape}:∀k,k<=(stR s).length->(hUT s k).length=(hU s s.holes.length).length+2*k
 |0,_=>by unfold hUT;simp
 |k+1,h=>by
  have h1:=Ft (s:=s) k (by omega);rw[<-MP (by omega),eW,h1];grind
noncomputable def c50:Con:=con (a1 aSh) (λs=>[Fit s]) (λs=> .tup [.lst .R (pcT s),.iqz (eOf s)])
def k50:c50.Okz 50:=uo (mT x8.o) (raw:=λr i=>bH r 15&&bH i 0) (λs=>[lp 6 7 s.holes.length (λ_=>[]) [14] (λk=>[(6,.own 14 .S (hU s k).length)]) (λk=>[(14,.row 46 .S (hU s k))]),
  lp 11 9 (stR s).length (λ_=>[]) [14] (λk=>[(6,.own 14 .S (hUT s k).length)]) (λk=>[(14,.row 46 .S (hUT s k))]),
  lp 17 12 (hsR s).length (λk=>[(pbU s k).length=(hsR s).length]) [35] (λk=>[(10,.own 35 .B (hsR s).length),(11,.lst .R (pbR s k))]) (λk=>[(35,.row 4 .B (pbU s k))]) λk=>
  [(21,.mk TrB (λF L=>match F.at 14,F.at 10,F.at 13 with
  | .int _ i,.own u _ _,.own t _ _=>(match L.at u,L.at t with|some (.row _ .B b),some (.row _ .V r)=>some (b,i.toNat,r)|_,_=>none)
  | .int _ i,.own u _ _,.nil=>(match L.at u with|some (.row _ .B b)=>some (b,i.toNat,[])|_=>none)
  |_,_,_=>none) [902] (λy=>[TBs s k y]) (λy=>[(14,.int .i64 (y.2.1:Nat)),(13,.own 902 .V y.2.2.length)])
  (λy=>[(35,.row 4 .B y.1),(902,.row 44 .V y.2.2)]) (λy=>y.1.count false) λy=>[lp 27 17 (hsR s).length (λ_=>[]) [] (λm=>[(14,.int .i64 (nxS s y.2.1 m:Nat))]) (λ_=>[])])]]
  ) (λ_=>⟨_,rfl⟩) λs hp=>aY (aA (hsR s) λA=>aA (stR s) λB=>aA (0:Int) λG=>aA (0:Nat) λH=>aA ([] :List aE0) λX=>aA ([] :List aEZ) λZ=>aA ([] :List (List aEZ)) λj=>Fit s/\(¬eOf s=0->pcT s=j/\eOf s=eOf s)/\
 (¬(¬eOf s=0)->s.outer.length<=100000/\(0=G/\(aJ s.outer).length=(hU s 0).length/\aJ s.outer=hU s 0/\H<=s.holes.length)/\
  (∀x:Nat,aA (hU s x) λC=>aA (x:Int) λF=>aA (X++hU s x) λY=>aA (aC s.holes x) λb=>aA (ic b) λc=>aA (aJ c) λd=>aA (X++hU s x++stR s) λh=>x<=s.holes.length->(F<s.holes.length->ix F s.holes.length/\b.length<=1000/\c.length<=100000/\C.length=C.length/\d.length=d.length/\C.length+d.length<=1000000/\aE (F+1)/\F+1=((x+1:Nat):Int)/\(hU s x++aJ c).length=(hU s (x+1)).length/\hU s x++aJ c=hU s (x+1)/\x+1<=s.holes.length/\s.holes.length-(x+1)<s.holes.length-x)/\
   (¬F<s.holes.length->C.length=C.length/\X.length+C.length<=1000000/\Y.length=Y.length/\Y.length+B.length<=1000000/\(0=G/\C.length=(hUT s 0).length/\hU s x=hUT s 0/\H<=B.length)/\
    (∀x_1:Nat,aA (x_1+1) λI=>aA (hUT s x_1) λJ=>aA (x_1:Int) λL=>aA (aK B x_1) λN=>aA (J.length:Int) λV=>aA (⟨N.b,N.a⟩:aE0) λf=>x_1<=B.length->(L<B.length->ix L B.length/\ix L B.length/\ix L B.length/\J.length=J.length/\J.length+[N,f].length<=1000000/\aE (L+1)/\L+1=((x_1+1:Nat):Int)/\(hUT s x_1++[N,f]).length=(hUT s I).length/\hUT s x_1++[N,f] =hUT s I/\x_1+1<=B.length/\B.length-I<B.length-x_1)/\
     (¬L<B.length->0<=V/\V=J.length/\V<=1000000/\J.length*(GetElem.getElem (cx x8.t).P.toTables.types 4 (mA rfl)).bytes<=1000000000/\(0=G/\J.length=A.length/\pbR s 0=j/\cS J.length false=pbU s 0/\H<=A.length/\(pbU s 0).length=A.length)/\
      (∀x_2:Nat,aA (x_2+1) λD=>aA (x_2:Int) λM=>aA (x_2+1:Nat) λT=>aA (pbU s D).length λW=>x_2<=A.length/\(pbU s x_2).length=A.length->(M<J.length->(M=x_2/\Z.length=0/\pbU s x_2=pbU s x_2/\Z=Z/\TBs s x_2 (pbU s x_2,(x_2,Z)))/\
        (∀x_3:TrB,aA (x_3.2.1:Int) λP=>aA (c5 x_3.2.2) λS=>aA (aK J x_3.2.1) λU=>aA (x_3.2.2++[U.a]) λa=>aA (!iQ x_3.1 x_3.2.1) λg=>aA (x_3.2.2.length:Int) λi=>aA (dX (cQ h U.b) U.b U.a true) λl=>TBs s x_2 x_3->ix P A.length/\x_3.2.1<x_3.1.length/\(g=true->ix P A.length/\x_3.2.1<x_3.1.length/\ix P J.length/\x_3.2.1<J.length/\x_3.2.2.length=x_3.2.2.length/\x_3.2.2.length+[U.a].length<=1000000/\h.length=h.length/\h.length<=900000/\bd 500000000 U.b/\bd 500000000 U.a/\(∀e:aE0,e∈X++hU s x++stR s->bd 500000000 e.a/\bd 500000000 e.b)/\(0=G/\P=nxS s x_3.2.1 0/\H<=A.length)/\
          (∀x_4:Nat,aA (x_4+1) λE=>aA (x_4:Int) λK=>aA (aK J x_4) λO=>aA ((x_4+1:Nat):Int) λR=>aA (nxS s x_3.2.1 x_4:Int) λk=>x_4<=A.length->(K<J.length->ix K J.length/\x_4<J.length/\(O.a=U.b->ix K J.length/\x_4<J.length/\(O.b=l->aE (K+1)/\K+1=R/\K=nxS s x_3.2.1 E/\x_4+1<=A.length/\A.length-E<A.length-x_4)/\
             (¬O.b=l->aE (K+1)/\K+1=R/\k=nxS s x_3.2.1 E/\x_4+1<=A.length/\A.length-E<A.length-x_4))/\
            (¬O.a=U.b->aE (K+1)/\K+1=R/\k=nxS s x_3.2.1 E/\x_4+1<=A.length/\A.length-E<A.length-x_4))/\
           (¬K<J.length->k=nxS s x_3.2.1 x_4/\a.length=a.length/\kO x_3.1 x_3.2.1 true=kO x_3.1 x_3.2.1 true/\x_3.2.2++[U.a] =x_3.2.2++[U.a]/\TBs s x_2 (kO x_3.1 x_3.2.1 true,(nxS s x_3.2.1 x_4,x_3.2.2++[U.a]))/\List.count false (kO x_3.1 x_3.2.1 true)<List.count false x_3.1)))/\
         (g=false->(0<i->x_3.2.2.length=x_3.2.2.length/\x_3.2.2.length<=100000/\(∀u:aEZ,u∈x_3.2.2->bd 1000000000 u)/\(pbR s x_2).length<=999999/\(bo S).length<=100000/\(∀q:aH,q∈pbR s x_2->q.length<=100000)/\aE (M+1)/\M+1=(T:Int)/\A.length=A.length/\fw (pbR s x_2) (bo S)=pbR s D/\x_3.1=pbU s D/\x_2+1<=A.length/\W=A.length/\A.length-D<A.length-x_2)/\
          (¬0<i->aE (M+1)/\M+1=(T:Int)/\A.length=A.length/\pbR s x_2=pbR s D/\x_3.1=pbU s D/\x_2+1<=A.length/\W=A.length/\A.length-D<A.length-x_2))))/\
       (¬M<J.length->pbR s x_2=pcT s/\0=eOf s)))))))) (by kernel_rfl) (by
  change Fit s at hp;have R:¬¬eOf s=0->aj s=true:=λh=>uc h;have e0:¬eOf s=0->pcT s=([] :List aH):=λh=>by unfold pcT;rw[if_neg h]
  refine⟨hp,λh=>⟨e0 h,rfl⟩,λh=> ?_⟩;have hR:=R h;have V:=vsR hR;have hf:=V.few;have hd:=F5 s;have hs:=FT s;have o1:s.outer.length<=1000:=hp.1;have u0:aJ s.outer=hU s 0:=by unfold hU;simp
  have ul:∀x:Nat,x<=s.holes.length->(hU s x).length<=7000:=λx hx=>by have:=Gb hp x hx;omega
  have tl:∀x:Nat,x<=(stR s).length->(hUT s x).length<=20000:=λx hx=>by have:=Ft x hx;grind
  refine⟨by omega,⟨rfl,congrArg dA u0,u0,iY _⟩,λx hx=>⟨λhx2=> ?_,λhx2=> ?_⟩⟩
  .have h1:(aC s.holes x).length<=1000:=hp.hole (by omega);have h2:=ul (x+1) (by omega);have h3:=OE (s:=s) (x:=x) (by omega);have h4:(hU s x).length+(aJ (ic (aC s.holes x))).length<=1000000:=by rw[<-eW,h3];omega
   exact⟨dQ (by omega),h1,by grind,rfl,rfl,h4,bD (by omega),rfl,congrArg dA h3,h3,by omega,by omega⟩
  .obtain rfl:x=s.holes.length:=by omega
   have u1:=ul s.holes.length (bI _);have z0:hU s s.holes.length=hUT s 0:=by unfold hUT;simp
   refine⟨rfl,by grind,rfl,by grind,⟨rfl,congrArg dA z0,z0,iY _⟩,λy hy=>⟨λhy2=> ?_,λhy2=> ?_⟩⟩
   .have h2:=tl (y+1) (by omega);have h3:=MP (s:=s) (x:=y) (by omega);have h4:=tl y hy;exact⟨dQ (by omega),dQ (by omega),dQ (by omega),rfl,by grind,bD (by omega),rfl,congrArg dA h3,h3,by omega,by omega⟩
   .obtain rfl:y=(stR s).length:=by omega
    have hl:(hsR s).length<=20000:=tl _ (bI _);have hb:∀e∈hsR s,bd 500000000 e.a/\bd 500000000 e.b:=YS hR _;have hb9:∀e∈hsR s,bd 1000000000 e.a:=λe he=>(hb e he).1.mono;have ab:=Yy hR;have al:(adR s).length<=900000:=by unfold adR;rw[eW];omega
    rw[show hUT s (stR s).length=hsR s from rfl,show([] :List aE0)++hU s s.holes.length++stR s=adR s from rfl];clear tl ul u0 e0 R;have by1:(hsR s).length*(GetElem.getElem (cx x8.t).P.toTables.types 4 (mA rfl)).bytes<=1000000000:=cF (Nat.mul_le_mul_left _ (Nat.le_of_eq (show(GetElem.getElem (cx x8.t).P.toTables.types 4 (mA rfl)).bytes=1 from by kernel_rfl))) (by omega);refine⟨by omega,rfl,by omega,by1,⟨rfl,rfl,rfl,rfl,iY _,rZ⟩,λk hk=> ?_⟩;have inv:=Fk (hsR s) (adR s);have w:∀x:Nat,(x:Int)<(hsR s).length->aE ((x:Int)+1):=λx h=>bD (by omega);have f1:∀x:Nat,(x:Int)<(hsR s).length->(pbU s (x+1)).length=(hsR s).length:=λx h=>(inv (x+1) (by omega)).1;have f2:∀x:Nat,x<=(hsR s).length->(pbR s x).length<=999999:=λx h=>by have h1:(pbR s x).length<=x:=(inv x h).2.1;omega
    have f3:∀x:Nat,x<=(hsR s).length->∀q∈pbR s x,q.length<=100000:=λx h q hq=>cF ((inv x h).2.2 q hq) (by omega);have f4:∀(x:Nat) (y:TrB),TBs s x y->y.2.1<(hsR s).length:=λx y T=>T.lt;have f5:∀(x:Nat) (y:TrB),TBs s x y->y.2.1<y.1.length:=λx y T=>by rw[T.len];exact T.lt
    have f6:∀(x:Nat) (y:TrB),TBs s x y->y.2.2.length<=100000:=λx y T=>by have:=T.cnt;omega
    have f7:∀(x:Nat) (y:TrB),TBs s x y->(bo (c5 y.2.2)).length<=100000:=λx y T=>by have:=T.cnt;have:=Mh y.2.2;rw[j4];omega
    have f8:∀(x:Nat) (y:TrB) (z:aEZ),TBs s x y->y.2.2.length+[z].length<=1000000:=λx y z T=>by grind
    have f9:∀(u:aEZ) (y:TrB) (x:Nat),u∈y.2.2->TBs s x y->bd 1000000000 u:=λu y x h T=>T.pts u h;have g1:∀x:Nat,x<(hsR s).length->bd 500000000 (aK (hsR s) x).a/\bd 500000000 (aK (hsR s) x).b:=λx h=>hb _ (by rw[eZ h];grind);have n1:∀k x:Nat,(aK (hsR s) x).a=(aK (hsR s) k).b->(aK (hsR s) x).b=dX (cQ (adR s) (aK (hsR s) k).b) (aK (hsR s) k).b (aK (hsR s) k).a true->(x:Int)=nxS s k (x+1):=λk x h1 h2=>by unfold nxS nxI;rw[if_pos ⟨h1,h2⟩]
    have n2:∀k x:Nat,¬(aK (hsR s) x).b=dX (cQ (adR s) (aK (hsR s) k).b) (aK (hsR s) k).b (aK (hsR s) k).a true->(nxS s k x:Int)=nxS s k (x+1):=λk x h2=>by
     show _=((nxS s k (x+1):Nat):Int)
     conv=>rhs;unfold nxS nxI
     rw[if_neg λh=>h2 h.2];rfl
    have n3:∀k x:Nat,¬(aK (hsR s) x).a=(aK (hsR s) k).b->(nxS s k x:Int)=nxS s k (x+1):=λk x h2=>by
     conv=>rhs;unfold nxS nxI
     rw[if_neg λh=>h2 h.1];rfl
    have b1:∀(x:Nat) (y:TrB) (m:Nat),TBs s x y->¬(m:Int)<(hsR s).length->m<=(hsR s).length->(!iQ y.1 y.2.1)=true->TBs s x (y.1.set y.2.1 true,(nxS s y.2.1 m,y.2.2++[(aK (hsR s) y.2.1).a]))/\(y.1.set y.2.1 true).count false<y.1.count false:=λx y m T h1 h2 h3=>by rw[show m=(hsR s).length by omega];exact TB.step T hb9 (nb' h3)
    have st:∀x:Nat,(pbU s x).length=(hsR s).length->(x:Int)<(hsR s).length->TBs s x (pbU s x,(x,([] :List aEZ))):=λx h1 h2=>TBs.start h1 (by omega);have i4:∀(x:Nat) (y:TrB),TBs s x y->ix (y.2.1:Int) (hsR s).length:=λx y T=>dQ T.lt;have fin:∀x:Nat,¬(x:Int)<(hsR s).length->x<=(hsR s).length->pbR s x=pcT s:=λx h1 h2=>by unfold pcT pbR;grind
    have e9:(0:Int)=eOf s:=by omega
    clear inv
    repeat' first|with_reducible apply bl|with_reducible intro
    all_goals repeat with_reducible cases‹_/\_›
    all_goals first|rfl|with_reducible solve_by_elim|(with_reducible first|assumption|rfl|exact f3 _ ‹_› _ ‹_› |exact(g1 _ (f4 _ _ ‹_›)).1|exact(g1 _ (f4 _ _ ‹_›)).2|exact(ab _ ‹_›).1|exact(ab _ ‹_›).2)|exact(b1 _ _ _ ‹_› ‹_› ‹_› ‹_›).1|exact(b1 _ _ _ ‹_› ‹_› ‹_› ‹_›).2|(with_reducible first|exact TBs.yes ‹_› (nb ‹_›) ‹_› |exact TBs.no ‹_› (nb ‹_›) ‹_› |exact TBs.u ‹_› (nb ‹_›))|omega|grind)
noncomputable def t50:=x8.adk k50
noncomputable def tLP:=((((((t50.adk k16).adk k24).adk k25).adk k53).adk k51).adk k48).adk k41
def Hx(s:Shape):Prop:=(ak s=true->GOk s/\SOk s/\o9 s)/\pcG s=pcT s/\sdG s=stR s/\(lm s:Int)=nP s
def aBr(s:Shape):eV s=eOf s:=by unfold eV eOf;rw[ii]
noncomputable def c14:Con:=con (a1 aSh) (λs=>[qG s,(k8 s=true->Hx s)]) (λ_=> .bool true
 )
def k14:c14.Okz 14:=ag tLP bW (λ_=>⟨_,rfl⟩) λs hp=>aY (aA (pcG s==pcT s) λA=>aA (sdG s==stR s) λB=>((!true)=true->false=true)/\
 ((!true)=false->qG s/\((!k8 s)=true->true=true)/\
  ((!k8 s)=false->Fit s/\(ak s=true->GOk s/\SOk s/\o9 s)/\Fit s/\Fit s/\(ak s=true->GOk s/\SOk s)/\Fit s/\(eV s=eOf s->(eV s=eOf s->(pcG s).length<=1000000/\(∀r:aH,r∈pcG s->r.length<=100000)/\(A=true->(sdG s).length<=1000000/\(B=true->Fit s/\Fit s/\decide ((lm s:Int)=nP s)=true)/\
      (B=false->false=true))/\
     (A=false->false=true))/\
    (¬eV s=eOf s->false=true))/\
   (¬eV s=eOf s->false=true)))) (by kernel_rfl) (by
  change qG s/\((k8 s=true->Hx s))at hp;obtain⟨hb,hl⟩:=hp;have hf:(!k8 s)=false->Fit s:=λh=>YX hb (nb h);refine⟨λh=>(by cases h),λ_=>⟨hb,λ_=>rfl,λf=> ?_⟩⟩;have F:=hf f;obtain⟨l1,l2,l3,l4⟩:=hl (nb f);have e:=aBr s;have p0:(pcT s).length<=100000/\∀r∈pcT s,r.length<=100000:=by
   unfold pcT;split
   .rename_i h0;have hR:aj s=true:=uc (λh=>h h0);have hd:=F5 s;have hs:=FT s;have hh:=Ft (s:=s) (stR s).length (bI _);have hu:=Gb F s.holes.length (bI _);have hk:=(vsR hR).few;have hH:(hsR s).length<=20000:=by unfold hsR;omega
    have inv:=Fk (hsR s) (adR s) (hsR s).length (bI _);exact⟨by omega,λr hr=>cF (inv.2.2 r hr) (by omega)⟩
   .exact⟨iY _,λr hr=>(cn hr).elim⟩
  have d0:(sdG s).length<=1000000:=by have:=FT s;have:=F5 s;rw[l3];omega
  rw[l2]at*;exact⟨F,l1,F,F,λh=>⟨(l1 h).1,(l1 h).2.1⟩,F,λ_=>⟨λ_=>⟨by omega,p0.2,λ_=>⟨d0,λ_=>⟨F,F,decide_eq_true l4⟩,λh=>absurd h (by rw[l3];simp)⟩,λh=>absurd h (by simp)⟩,λh=>absurd e h⟩,λh=>absurd e h⟩)
noncomputable def t14:=tLP.adk k14
def AJ{p q:Nat->Bool}:∀n:Nat,(∀i,i<n->p i= !q i)->((bQ n).filter p).length+((bQ n).filter q).length=n
 |0,_=>rfl
 |n+1,h=>by
  have ih:=AJ n λi hi=>h i (by omega);have h1:=h n (by omega);rw[qS,pI,pI,eW,eW];grind
def V8{r:aH}(h:VR r):rfR 0 r r.length+lfR r r.length=r.length:=by unfold rfR lfR;refine AJ _ λi hi=> ?_;have ht:=h.turn i hi;unfold prv nxt at ht;unfold rfP lfP;grind
def Xm{k:Nat}(hk:0<k)(r:aH)(n:Nat):rfR k r n=lfR r n:=by
 unfold rfR lfR
 congr 2
 funext i
 unfold rfP lfP;grind
def Oj(s:Shape):∀m,m<=s.holes.length->rfS (aD s) (m+1)=rfR 0 s.outer s.outer.length+lfS s m
 |0,_=>by
  show 0+rfR 0 s.outer s.outer.length=_;unfold lfS;simp
 |m+1,h=>by
  have ih:=Oj s m (by omega);show rfS (aD s) (m+1)+rfR (m+1) (aC (aD s) (m+1)) (aC (aD s) (m+1)).length=_;rw[ih,Xm (Nat.succ_pos m),show aC (aD s) (m+1)=aC s.holes m from rfl,<-E5 (s:=s) (k:=m) (by omega)];omega
def U1(s:Shape):(lm s:Int)=nP s:=by
 unfold lm nP;rw[ii];by_cases h:aj s=true
 .rw[if_pos h,if_pos h];have V:=vsR h;have e:=V8 V.outer;have e2:=Oj s s.holes.length (bI _);rw[show(aD s).length=s.holes.length+1 from rfl,e2];omega
 grind
def nK(A:List (Nat×Nat))(L:List (List Int)):List (List Int):=A.foldl (λL p=>both L p.1 p.2) L
def zE(A B:List (Nat×Nat))(L:List (List Int)):nK (A++B) L=nK B (nK A L):=List.foldl_append
def Jg(p:Nat×Nat)(A:List (Nat×Nat))(L:List (List Int)):nK (p::A) L=nK A (both L p.1 p.2):=rfl
def Bo(base m:Nat):List (Nat×Nat):=(bQ m).map λt=>(base+t,base+(t+1) % m)
def sh(R:List aH):Nat->List (Nat×Nat)
 |0=>[]
 |k+1=>sh R k++Bo (bs R k) (aC R k).length
def Ln(base m:Nat)(L:List (List Int)):∀i,rgO base m i L=nK ((bQ i).map λt=>(base+t,base+(t+1) % m)) L
 |0=>rfl
 |i+1=>by
  unfold rgO;rw[Ln base m L i,qS,dM,zE];rfl
def Lk(R:List aH)(L:List (List Int)):∀k,rsO R k L=nK (sh R k) L
 |0=>rfl
 |k+1=>by
  unfold rsO sh;rw[Lk R L k,zE,Ln];rfl
def Mf(v:List V)(D:List S)(L:List (List Int)):∀k,k<=D.length->dgO v D k L=nK ((dgP v D).take k) L
 |0,_=>rfl
 |k+1,h=>by
  have hk:k<(dgP v D).length:=by unfold dgP;rw[da];omega
  have hD:k<D.length:=by omega
  have e:(dgP v D)[k] =(c6 v D[k].a,c6 v D[k].b):=by simp only[dgP,jG]
  unfold dgO;rw[Mf v D L k (by omega),iR hk,zE,e,eZ hD];rfl
def m8(s:Shape):List (Nat×Nat):=sh (aD (aO s)) (aD (aO s)).length++dgP (vOf s) (dOf s)
def No(s:Shape):oD s=nK (m8 s) (cS (vOf s).length []):=by unfold oD oB m8;rw[Mf _ _ _ _ (bI _),Lk,zE,fT (by unfold dgP;grind)]
def E1{L:List (List Int)}{a b c:Nat}{x:Int}(h:a<L.length):x∈ai (iW L a b) c↔x∈ai L c\/(c=a/\x=b):=by unfold iW;rw[uN];grind
def E0{L:List (List Int)}{a b c:Nat}{x:Int}(h1:a<L.length)(h2:b<L.length):x∈ai (both L a b) c↔x∈ai L c\/(c=a/\x=b)\/(c=b/\x=a):=by unfold both;rw[E1 (by rw[xK];exact h2),E1 h1,or_assoc]
def MG:∀(A:List (Nat×Nat)) {L:List (List Int)} {c:Nat} {x:Int},(∀p∈A,p.1<L.length/\p.2<L.length)->(x∈ai (nK A L) c↔x∈ai L c\/∃j:Nat,x=j/\((c,j)∈A\/(j,c)∈A))
 |[],L,c,x,_=>by
  show x∈ai L c↔_;simp
 |p::A,L,c,x,h=>by
  obtain⟨h1,h2⟩:=h p cI;rw[Jg,MG A (λq hq=>by rw[Ag];grind),E0 h1 h2];grind
def J3{L:List (List Int)}{a b:Nat}(h:∀c,(ai L c).Nodup)(hb:(b:Int)∉ai L a):∀c,(ai (iW L a b) c).Nodup:=λc=>by unfold iW;rw[uN];grind
def Jf:∀(A:List (Nat×Nat)) {L:List (List Int)},(∀p∈A,p.1<L.length/\p.2<L.length/\p.1≠p.2)->(∀c,(ai L c).Nodup)->(∀p∈A,(p.2:Int)∉ai L p.1/\(p.1:Int)∉ai L p.2)->A.Pairwise (λp q=>p≠q/\p≠(q.2,q.1))->∀c,(ai (nK A L) c).Nodup
 |[],L,_,hn,_,_=>hn
 |p::A,L,h,hn,hm,hp=>by
  obtain⟨h1,h2,h3⟩:=h p cI;obtain⟨m1,m2⟩:=hm p cI;obtain⟨q1,q2⟩:=List.pairwise_cons.1 hp;rw[Jg];refine Jf A (λq hq=>by rw[Ag];grind) ?_ (λq hq=> ?_) q2
  .unfold both;refine J3 (J3 hn m1) λg=> ?_;rcases(E1 h1).1 g with g|⟨g,_⟩
   .exact m2 g
   omega
  .have hq2:=hm q (cE _ hq);have hne:=q1 q hq;obtain⟨a,b⟩:=p;obtain⟨c,d⟩:=q;rw[E0 h1 h2,E0 h1 h2];grind
section
def phi(v:List aEZ)(p:Nat×Nat):S:=⟨aEY v p.1,aEY v p.2⟩
def D9{a b:List aEZ}{i:Nat}(h:i<a.length):aEY (a++b) i=aEY a i:=by unfold aEY;grind
def KW{a b:List aEZ}(i:Nat):aEY (a++b) (a.length+i)=aEY b i:=by unfold aEY;grind
def xG:∀(R:List aH) (k t:Nat),k<R.length->t<(aC R k).length->aEY R.flatten (bs R k+t)=aEY (aC R k) t
 |r::R,0,t,_,ht=>by
  have e:bs (r::R) 0=0:=rfl;rw[e,jy,mc];exact D9 ht
 |r::R,k+1,t,hk,ht=>by
  have e:bs (r::R) (k+1)=r.length+bs R k:=by unfold bs;rw[List.take_succ_cons,mc,eW]
  rw[e,Nat.add_assoc,mc,KW];exact xG R k t (by grind) ht
def Xl{R:List aH}{k:Nat}(hk:k<R.length){p:Nat×Nat}(h:p∈Bo (bs R k) (aC R k).length):p.1<R.flatten.length/\p.2<R.flatten.length:=by have h1:=qu hk;have h2:=vC R (k+1);obtain⟨t,ht,rfl⟩:=bZ.1 h;have ht:=cG.1 ht;have:=bq (t+1) (show 0<(aC R k).length by omega);omega
def KJ{R:List aH}:∀k,k<=R.length->∀p∈sh R k,p.1<R.flatten.length/\p.2<R.flatten.length
 |0,_,p,h=>by cases h
 |k+1,hk,p,h=>by
  rcases bg.1 h with h|h
  .exact KJ k (by omega) p h
  .exact Xl (by omega) h
def V7{R:List aH}{k:Nat}(hk:k<R.length)(h2:2<=(aC R k).length):(Bo (bs R k) (aC R k).length).map (phi R.flatten)=aJ (aC R k):=by unfold Bo aJ;rw[if_neg (by omega),dq];refine nZ λt ht=> ?_;have ht:=cG.1 ht;have e1:=xG R k t hk ht;have e2:=xG R k ((t+1) % (aC R k).length) hk (bq _ (by omega));show phi R.flatten (bs R k+t,bs R k+(t+1) % (aC R k).length)=bP (aC R k) t;unfold phi;dsimp only;rw[e1,e2];rfl
def JS{R:List aH}(h2:∀r∈R,2<=r.length):∀k,k<=R.length->(sh R k).map (phi R.flatten)=(R.take k).flatMap aJ
 |0,_=>rfl
 |k+1,hk=>by
  unfold sh;rw[dM,JS h2 k (by omega),V7 (by omega) (h2 _ (gD (by omega))),iR (by omega),pH,je (by omega)];simp
def ql{v:List aEZ}{u:aEZ}(h:u∈v):aEY v (c6 v u)=u:=by have hl:=mK h;have:=List.findIdx_getElem (xs:=v) (p:=λx=>decide (u=x)) (w:=hl);unfold aEY;rw[du,List.getElem?_eq_getElem hl];exact(of_decide_eq_true this).symm
def Z1{v:List aEZ}{D:List S}(h:∀d∈D,d.a∈v/\d.b∈v):(dgP v D).map (phi v)=D:=by
 unfold dgP;rw[dq];have:∀d∈D,(phi v∘λd:S=>(c6 v d.a,c6 v d.b)) d=d:=λd hd=>by show phi v (c6 v d.a,c6 v d.b)=d;unfold phi;dsimp only;rw[ql (h d hd).1,ql (h d hd).2]
 rw[nZ this,List.map_id']
section
variable {s:Shape}
def pZ(h:aj s=true):aO s=c7 s:=by unfold aO;rw[if_pos (by rw[ii];exact h)]
def oA(h:aj s=true):vOf s=(aD (aO s)).flatten:=by rw[uV h,pZ h];rfl
def AS(h:aj s=true):∀r∈aD (aO s),2<=r.length:=by
 intro r hr;rw[pZ h]at hr;have V:=vsR h;have key:∀q∈aD s,2<=q.length:=λq hq=>by have:=(V.ring hq).three;omega
 unfold aD c7 at hr;rcases bT.1 hr with e|hr
 .rw[e,j4];exact key _ cI
 .have hr2:=(mB _).mem_iff.1 hr;obtain⟨q,hq,rfl⟩:=bZ.1 hr2;rw[j4];exact key _ (cE _ hq)
def Je(h:aj s=true):(m8 s).map (phi (vOf s))=aa (c7 s)++dOf s:=by
 unfold m8;rw[dM,Z1 λd hd=>(po (by rw[ii];exact h)).2 d hd]
 congr 1
 rw[oA h,JS (AS h) _ (bI _),ke,pZ h];rfl
def wq(h:aj s=true):∀p∈m8 s,p.1<(vOf s).length/\p.2<(vOf s).length:=by
 intro p hp;unfold m8 at hp;rcases bg.1 hp with hp|hp
 .rw[oA h];exact KJ _ (bI _) p hp
 .exact Bq (by rw[ii];exact h) hp
end
end
section
section
variable {s:Shape}
def wY(h:aj s=true):(vOf s).Perm (cT s):=by rw[uV h];exact rq s
def Du(h:aj s=true):(vOf s).Nodup:=(wY h).nodup_iff.2 (vsR h).nodup
def tgR(h:aj s=true):Tg s (dOf s):=by rw[F4 h];exact PU (vsR h) (λx=>(wY h).mem_iff) (Du h)
def JD{D:List S}(T:Tg s D){e:S}(he:e∈aa s):swp e∉aa s:=λhf=>by
 unfold aa at he hf;obtain⟨r,hr,her⟩:=cZ.1 he;obtain⟨q,hq,heq⟩:=cZ.1 hf;by_cases hrq:r=q
 .subst hrq;unfold aD at hr;rcases bT.1 hr with g|g
  .subst g;exact(zU T her).2 (zU T heq).1
  .exact(AG T g her).2 (AG T g heq).1
 .exact(wT T hr hq hrq (v:=e.a) (xR her).1 heq).2 rfl
def Kw{r:aH}(h:2<=r.length):(aJ r).map S.a=r:=by unfold aJ;rw[if_neg (by omega),dq];refine List.ext_getElem (by simp) λi h1 h2=> ?_;rw[jG,List.getElem_range];exact nth_eq h2
def E8:∀{l:List aH},(∀r∈l,2<=r.length)->(l.flatMap aJ).map S.a=l.flatten
 |[],_=>rfl
 |r::l,h=>by
  rw[fM,dM,Kw (h r cI),E8 λq hq=>h q (cE _ hq),mc]
def S6(h:aj s=true):(aa (c7 s)).Nodup:=by
 have e:(aa (c7 s)).map S.a=vOf s:=by rw[oA h,<-E8 (AS h),pZ h];rfl
 have hn:=Du h;rw[<-e]at hn;exact Cb (λ{a b} hne (e:a=b)=>hne (by rw[e])) (kK.1 hn)
def Uz(h:aj s=true):(m8 s).Pairwise λp q=>p≠q/\p≠(q.2,q.1):=by
 have T:=tgR h;have key:((m8 s).map (phi (vOf s))).Pairwise λe f=>e≠f/\e≠swp f:=by
  rw[Je h,List.pairwise_append];refine⟨?_,?_,?_⟩
  .refine CZ (λ{e f} he hf hne=>⟨hne,λg=> ?_⟩) (S6 h);rw[y7]at he hf;rw[g]at he;exact JD T hf he
  .exact T.once.imp λ{a b} h=>h
  .intro e he d hd;rw[y7]at he;exact n7 T hd he
 rw[kK]at key;exact key.imp λ{p q} h=>⟨λe=>h.1 (by rw[e]),λe=>h.2 (by rw[e];rfl)⟩
def pV(h:aj s=true){i j:Nat}(hi:i<(vOf s).length)(hj:j<(vOf s).length)(e:aEY (vOf s) i=aEY (vOf s) j):i=j:=mI (Du h) hi hj e
def ED(h:aj s=true){i j:Nat}(hi:i<(vOf s).length)(hj:j<(vOf s).length):((i,j)∈m8 s\/(j,i)∈m8 s)↔sides s (dOf s) (aEY (vOf s) i) (aEY (vOf s) j):=by
 have m:∀{a b:Nat},a<(vOf s).length->b<(vOf s).length->((a,b)∈m8 s↔(⟨aEY (vOf s) a,aEY (vOf s) b⟩:S)∈aa s++dOf s):=λ{a b} ha hb=>by
  rw[bg,<-y7,<-bg,<-Je h,bZ];constructor
  .intro g;exact⟨_,g,rfl⟩
  .rintro⟨⟨c,d⟩,g,e⟩;obtain⟨g1,g2⟩:=wq h _ g;have e1:aEY (vOf s) c=aEY (vOf s) a:=congrArg S.a e;have e2:aEY (vOf s) d=aEY (vOf s) b:=congrArg S.b e;have e1:=pV h g1 ha e1;have e2:=pV h g2 hb e2;grind
 rw[m hi hj,m hj hi];rfl
def BU(n c:Nat):ai (cS n ([] :List Int)) c=[] :=by unfold ai;grind
def ui(h:aj s=true){i:Nat}(hi:i<(vOf s).length){x:Int}:x∈ai (oD s) i↔∃j:Nat,x=j/\j<(vOf s).length/\sides s (dOf s) (aEY (vOf s) i) (aEY (vOf s) j):=by
 rw[No,MG _ (λp hp=>by rw[rZ];exact wq h p hp),BU];constructor
 .rintro(g|⟨j,rfl,g⟩)
  .cases g
  .have hj:j<(vOf s).length:=by
    rcases g with g|g
    .exact(wq h _ g).2
    .exact(wq h _ g).1
   exact⟨j,rfl,hj,(ED h hi hj).1 g⟩
 .rintro⟨j,rfl,hj,g⟩;exact .inr ⟨j,rfl,(ED h hi hj).2 g⟩
def xO(h:aj s=true){a b:V}(g:sides s (dOf s) a b):a≠b:=(tgR h).segs.ne g
def Xz(h:aj s=true)(c:Nat):(ai (oD s) c).Nodup:=by rw[No];refine Jf _ (λp hp=> ?_) (λc=>by rw[BU];grind) (λp hp=>by rw[BU,BU];grind) (Uz h) c;rw[rZ];obtain⟨h1,h2⟩:=wq h p hp;refine⟨h1,h2,λe=> ?_⟩;have:=(ED h h1 h2).1 (.inl hp);rw[e]at this;exact xO h this rfl
def xb(v:List V)(p x y:Nat):ls v p x y<0↔alt (aE1 (aEY v x) (aEY v p)) (aE1 (aEY v y) (aEY v p)):=by
 unfold ls;dsimp only;generalize aE1 (aEY v x) (aEY v p)=a;generalize aE1 (aEY v y) (aEY v p)=b;have ht:0<turn ⟨0,0⟩ a b↔0<cross a b:=by
  have e:cross (aE1 a ⟨0,0⟩) (aE1 b ⟨0,0⟩)=cross a b:=by unfold cross aE1;simp
  unfold turn sgn;rw[e];split
  .omega
  .omega
 have hh:∀u:V,iM u=if gg u then 0 else 1:=λu=>by unfold iM gg;omega
 rw[hh,hh];unfold alt;grind
end
end
section
def vtx(v:List V)(x:Int):V:=aEY v x.toNat
def fE(v:List V)(L:List (List Int))(i:Nat):List V:=(ai L i).map (vtx v)
section
variable {s:Shape}
def rN(h:aj s=true):Net (cT s) (sides s (dOf s)):=(tgR h).segs.net
def Lz(h:aj s=true){i:Nat}(hi:i<(vOf s).length):∃j,j<(vOf s).length/\(⟨aEY (vOf s) i,aEY (vOf s) j⟩:S)∈aa s:=by
 have hm:aEY (vOf s) i∈(aa (c7 s)).map S.a:=by
  have e:(aa (c7 s)).map S.a=vOf s:=by rw[oA h,<-E8 (AS h),pZ h];rfl
  rw[e];exact dh hi
 obtain⟨⟨a,b⟩,he,e⟩:=bZ.1 hm;have e:a=aEY (vOf s) i:=e;subst e;have hb:b∈vOf s:=by unfold aa at he;obtain⟨r,hr,her⟩:=cZ.1 he;rw[uV h];exact k9.2 ⟨r,hr,(xR her).2⟩
 obtain⟨j,hj,e⟩:=fD.1 hb;rw[y7,e]at he;grind
def gok(h:aj s=true):GOk s:=λk hk=>by
 have N:=rN h;have cell:∀x∈ai (oD s) k,∃j:Nat,x=j/\j<(vOf s).length/\sides s (dOf s) (aEY (vOf s) k) (aEY (vOf s) j):=λx hx=>(ui h hk).1 hx;have nzz:∀{j:Nat},sides s (dOf s) (aEY (vOf s) k) (aEY (vOf s) j)->nz (aE1 (aEY (vOf s) j) (aEY (vOf s) k)):=λg=>lW (N.ne g).symm;refine⟨?_,λx hx=> ?_,⟨?_,?_,?_⟩⟩
 .obtain⟨j,hj,he⟩:=Lz h hk;exact List.length_pos_of_mem ((ui h hk).2 ⟨j,rfl,hj,.inl (iC _ he)⟩)
 .grind
 .intro x hx y hy z hz h1 h2;obtain⟨a,rfl,ha,ga⟩:=cell x hx;obtain⟨b,rfl,hb,gb⟩:=cell y hy;obtain⟨c,rfl,hc,gc⟩:=cell z hz;unfold ltA at*;rw[decide_eq_true_eq,xb,iF,iF]at*;exact XB (nzz ga) (nzz gb) (nzz gc) h1 h2
 .intro x hx y hy h1;obtain⟨a,rfl,ha,ga⟩:=cell x hx;obtain⟨b,rfl,hb,gb⟩:=cell y hy;unfold ltA at*;rw[decide_eq_true_eq,xb]at h1;rw[decide_eq_false_iff_not,xb];exact FL h1
 .intro x hx y hy h1 h2;obtain⟨a,rfl,ha,ga⟩:=cell x hx;obtain⟨b,rfl,hb,gb⟩:=cell y hy;unfold ltA at*;rw[decide_eq_false_iff_not,xb,iF,iF]at h1 h2;by_cases e:a=b
  .rw[e]
  .exfalso;have hne:aEY (vOf s) a≠aEY (vOf s) b:=λg=>e (pV h ha hb g);exact h2 (aAl (nzz ga) (nzz gb) (N.fanApart ga gb hne) h1)
def Fo(h:aj s=true){i:Nat}(hi:i<(vOf s).length):(ai (oG s) i).Perm (ai (oD s) i):=by unfold oG;rw[xh _ _ _ _ (by rw[xo];exact hi),if_pos hi];exact tq _ _
def aDn(h:aj s=true){i:Nat}(hi:i<(vOf s).length):aE9 (aEY (vOf s) i) (fE (vOf s) (oG s) i):=by
 have N:=rN h;have P:=Fo h hi;have g:=(gok h i hi).2.2;refine aAX N (λx hx=> ?_) ?_
 .obtain⟨y,hy,rfl⟩:=bZ.1 hx;obtain⟨j,rfl,_,gj⟩:=(ui h hi).1 (P.mem_iff.1 hy);unfold vtx;grind
 .unfold fE;rw[kK];have hs:(ai (oG s) i).Pairwise λa b=>ltA (vOf s) i b a=false:=by unfold oG;rw[xh _ _ _ _ (by rw[xo];exact hi),if_pos hi];exact C8 g _ λ_ h=>h
  have hn:(ai (oG s) i).Nodup:=P.nodup_iff.2 (Xz h i);refine CZ (λ{a b} ha hb q=> ?_) (List.Pairwise.and hs hn);have ha:=P.mem_iff.1 ha;have hb:=P.mem_iff.1 hb;cases e:ltA (vOf s) i a b with
  |true=>
   unfold ltA at e;rw[decide_eq_true_eq,xb]at e;exact e
  |false=>exact absurd (g.tot a ha b hb e q.1) q.2
def YY(h:aj s=true){i:Nat}(hi:i<(vOf s).length){x:V}:x∈fE (vOf s) (oG s) i↔sides s (dOf s) (aEY (vOf s) i) x:=by
 have P:=Fo h hi;unfold fE;rw[bZ];constructor
 .rintro⟨y,hy,rfl⟩;obtain⟨j,rfl,_,gj⟩:=(ui h hi).1 (P.mem_iff.1 hy);unfold vtx;grind
 .intro g;have hx:x∈vOf s:=(wY h).mem_iff.2 ((rN h).mem ((rN h).symm g));obtain⟨j,hj,rfl⟩:=fD.1 hx;exact⟨j,P.mem_iff.2 ((ui h hi).2 ⟨j,rfl,hj,g⟩),by unfold vtx;grind⟩
end
end
section
def Kv{l:List S}{p x:V}(h:∀e∈l,e.a≠e.b):x∈cQ l p↔eM l p x:=by
 unfold cQ eM;rw[cZ];constructor
 .rintro⟨⟨a,b⟩,he,hx⟩;unfold nR at hx;grind
 .rintro(g|g)
  .exact⟨_,g,by unfold nR;grind⟩
  .refine⟨_,g,?_⟩;have:=h _ g;unfold nR;grind
def OB{l:List Int}{x:Int}(h:x∈l):∃ha:fS l x<l.length,l[fS l x] =x:=by have ha:=OA h;refine⟨ha,?_⟩;have:=List.findIdx_getElem (xs:=l) (p:=λu=>decide (x=u)) (w:=ha);exact(of_decide_eq_true this).symm
def JH{v:List V}{L:List (List Int)}{i j:Nat}{p:V}{l:List V}(F:aE9 p (fE v L i))(hl:∀x,x∈l↔x∈fE v L i)(hm:(j:Int)∈ai L i):aEY v (iS L i j (-1))=dX l p (aEY v j) true:=by
 obtain⟨ha,e⟩:=OB hm;have hlen:(fE v L i).length=(ai L i).length:=da ..;have ha2:fS (ai L i) (j:Int)<(fE v L i).length:=by omega
 have e2:(fE v L i)[fS (ai L i) (j:Int)] =aEY v j:=by simp only[fE,jG,e,vtx,iF]
 have hk:(fS (ai L i) (j:Int)+(fE v L i).length-1) % (fE v L i).length<(fE v L i).length:=bq _ (by omega);have:=F.prev hl ha2 hk rfl;rw[e2]at this;rw[this];unfold iS;dsimp only;have e3:((fS (ai L i) (j:Int):Int)+ -1+(ai L i).length).toNat=fS (ai L i) (j:Int)+(ai L i).length-1:=by omega
 rw[e3];simp only[fE,jG,da,vtx]
 congr 2
 exact oO (by grind)
def UQ{v:List V}{L:List (List Int)}{i j:Nat}{p:V}{l:List V}(F:aE9 p (fE v L i))(hl:∀x,x∈l↔x∈fE v L i)(hm:(j:Int)∈ai L i):aEY v (iS L i j 1)=dX l p (aEY v j) false:=by
 obtain⟨ha,e⟩:=OB hm;have hlen:(fE v L i).length=(ai L i).length:=da ..;have ha2:fS (ai L i) (j:Int)<(fE v L i).length:=by omega
 have e2:(fE v L i)[fS (ai L i) (j:Int)] =aEY v j:=by simp only[fE,jG,e,vtx,iF]
 have hk:(fS (ai L i) (j:Int)+1) % (fE v L i).length<(fE v L i).length:=bq _ (by omega);have:=F.next hl ha2 hk rfl;rw[e2]at this;rw[this];unfold iS;dsimp only;have e3:((fS (ai L i) (j:Int):Int)+1+(ai L i).length).toNat % (ai L i).length=(fS (ai L i) (j:Int)+1) % (ai L i).length:=by rw[show((fS (ai L i) (j:Int):Int)+1+(ai L i).length).toNat=fS (ai L i) (j:Int)+1+(ai L i).length by omega,pB]
 rw[e3];simp only[fE,jG,da,vtx]
 congr 2
 exact oO (by grind)
def Zd{v:List V}{L:List (List Int)}{i j:Nat}{A:List S}(F:aE9 (aEY v i) (fE v L i))(hl:∀x,x∈cQ A (aEY v i)↔x∈fE v L i)(hm:(j:Int)∈ai L i):gv v L i j=jm A (aEY v i) (aEY v j):=by unfold gv jm;rw[JH F hl hm,UQ F hl hm]
section
variable {s:Shape}
def Zr(h:aj s=true){i:Nat}(hi:i<(vOf s).length):∃u,(⟨u,aEY (vOf s) i⟩:S)∈aa s:=by
 have hm:aEY (vOf s) i∈cT s:=(wY h).mem_iff.1 (dh hi);unfold cT at hm;obtain⟨r,hr,hx⟩:=k9.1 hm;obtain⟨t,ht,e⟩:=fD.1 hx;have h3:=((vsR h).ring hr).three;refine⟨aEY r ((t+r.length-1) % r.length),cZ.2 ⟨r,hr,?_⟩⟩;unfold aJ;rw[if_neg (by omega)];refine bZ.2 ⟨(t+r.length-1) % r.length,cG.2 (bq _ (by omega)),?_⟩;have e2:((t+r.length-1) % r.length+1) % r.length=t:=by rw[kc,show t+r.length-1+1=t+r.length by omega,pB,dZ ht]
 show bP r ((t+r.length-1) % r.length)=_;unfold bP nxt;rw[e2,e]
end
end
section
abbrev AK(s:Shape)(k:Nat):List aE0:=gU s (kpR s k) k
def HK(s:Shape)(k:Nat)(e:aE0):Prop:=e∈kH (iV s) (kpR s k++(dOf s).drop k)
def nxK(s:Shape)(k:Nat)(e:aE0):V:=dX (cQ (AK s k) e.b) e.b e.a true
structure Stg(s:Shape)(k:Nat):Prop where
 fan:∀i,i<(vOf s).length->aE9 (aEY (vOf s) i) (fE (vOf s) (sG s k).1 i)
 rng:∀i,i<(vOf s).length->∀x∈ai (sG s k).1 i,∃j:Nat,x=j/\j<(vOf s).length
 mem:∀i,i<(vOf s).length->∀x,eM (AK s k) (aEY (vOf s) i) x↔x∈fE (vOf s) (sG s k).1 i
 kept:(sG s k).2.map (phi (vOf s))=kpR s k
 face:∃F,aFa (nxK s k) (HK s k) F
def Fan.sub{p:V}{L M:List V}(F:aE9 p L)(h:M.Sublist L):aE9 p M where
 nz:=λx hx=>F.nz x (h.subset hx)
 apart:=λx hx y hy=>F.apart x (h.subset hx) y (h.subset hy)
 sorted:=F.sorted.sublist h
def Fan.nil(p:V):aE9 p [] :=⟨λ_ h=>(cn h).elim,λ_ h=>(cn h).elim,tT⟩
def Faces.congr{nx:aE0->V}{H G:aE0->Prop}{F:List (List V)}(Fc:aFa nx H F)(h:∀e,H e↔G e):aFa nx G F:=⟨Fc.cx,Fc.once,λe=>(Fc.all e).trans (h e),Fc.next⟩
section
variable {s:Shape}
def MI(s:Shape):∀k,k<=(dOf s).length->∀e∈kpR s k,∃m,∃hm:m<(dOf s).length,m<k/\(dOf s)[m] =e
 |0,_,e,he=>by cases he
 |k+1,h,e,he=>by
  unfold kpR at he;have up:∀e∈kpR s k,∃m,∃hm:m<(dOf s).length,m<k+1/\(dOf s)[m] =e:=λe he=>by obtain⟨m,hm,h1,h2⟩:=MI s k (by omega) e he;grind
  split at he
  .rcases bg.1 he with he|he
   .exact up e he
   .rw[bi.1 he,eZ (by omega)];grind
  grind
def PQ{k:Nat}(hk:k<=(dOf s).length):∀e∈AK s k,e∈aa s++dOf s:=λe he=>by
 unfold AK gU at he;rcases bg.1 he with he|he
 .rcases bg.1 he with he|he
  .grind
  .exact fb _ (xT s k hk e he)
 grind
def se{k:Nat}(hk:k<=(dOf s).length){a b:V}(h:eM (AK s k) a b):sides s (dOf s) a b:=h.imp (PQ hk _) (PQ hk _)
def aBE(h:aj s=true){k:Nat}(hk:k<=(dOf s).length):∀e∈AK s k,e.a≠e.b:=λe he=>xO h (se hk (.inl he))
def Nk(h:aj s=true){m k:Nat}(hm:m<(dOf s).length)(hk:k<(dOf s).length)(hne:m≠k):(dOf s)[m]≠(dOf s)[k]/\(dOf s)[m]≠swp (dOf s)[k] :=by
 have T:=(tgR h).once;rw[nU]at T;rcases Nat.lt_or_gt_of_ne hne with g|g
 .exact T m k hm hk g
 .have:=T k m hk hm g;exact⟨this.1.symm,λe=>this.2 (by rw[e];rfl)⟩
def xe(h:aj s=true){k:Nat}(hk:k<=(dOf s).length){e:aE0}(he:HK s k e):eM (AK s k) e.a e.b:=by
 unfold HK kH at he;rw[bg,bg,jf,xH (tgR h)]at he;unfold AK gU eM;rw[jw];rcases he with⟨g,_⟩|g|g
 .exact g.imp (iC _) (iC _)
 .simp_all
 .exact .inr (fb _ g)
def uQ(h:aj s=true){k:Nat}(hk:k<=(dOf s).length){p x:V}:x∈cQ (AK s k) p↔eM (AK s k) p x:=Kv (aBE h hk)
def LI(h:aj s=true){a b:V}(g:sides s (dOf s) a b):a∈vOf s:=(wY h).mem_iff.2 ((rN h).mem g)
def Stg.start(h:aj s=true):Stg s 0:=by
 have T:=tgR h;have N:=rN h;have e0:AK s 0=aa s++dOf s:=by unfold AK gU kpR;simp
 refine⟨λi hi=>aDn h hi,λi hi x hx=> ?_,λi hi x=> ?_,rfl,?_⟩
 .obtain⟨j,e,hj,_⟩:=(ui h hi).1 ((Fo h hi).mem_iff.1 hx);grind
 .rw[e0];exact(YY h hi).symm
 .obtain⟨TL,A⟩:=LD N (fR s) (vsR h).nodup;have eD:kpR s 0++(dOf s).drop 0=dOf s:=by unfold kpR;simp
  refine⟨_,Faces.congr (aAY T.filled A (DS:=kH (iV s) (dOf s)) ?_ (Mc T (xH T)) ?_) λe=>by unfold HK;rw[eD]⟩
  .refine Dk T (Jz T) λe he=> ?_;rcases((xH T e).1 he).1 with g|g
   .exact .inl g
   .exact .inr g
  .intro a b c t;exact Tri.next N t λx=>by rw[uQ h (iY _),e0];rfl
def Stg.ar(h:aj s=true){k:Nat}(S:Stg s k){i j:Nat}(hi:i<(vOf s).length)(hj:j<(vOf s).length)(g:eM (AK s k) (aEY (vOf s) i) (aEY (vOf s) j)):ArOk (vOf s) (sG s k).1 i j:=by
 refine⟨by rw[xm];exact hi,?_,λx hx=> ?_,?_⟩
 .obtain⟨y,hy,e⟩:=bZ.1 ((S.mem i hi _).1 g);obtain⟨m,rfl,hm⟩:=S.rng i hi y hy;unfold vtx at e;rw[iF]at e;rw[<-pV h hm hj e];exact hy
 .obtain⟨m,rfl,hm⟩:=S.rng i hi x hx;omega
 .have hn:=(S.fan i hi).nodup;have e:fE (vOf s) (sG s k).1 i=((ai (sG s k).1 i).map Int.toNat).map (aEY (vOf s)):=by unfold fE;rw[dq];rfl
  rw[e]at hn;have hn2:((ai (sG s k).1 i).map Int.toNat).Nodup:=Cb (λ{a b} hne (e:a=b)=>hne (by rw[e])) (kK.1 hn);have:=AW (vOf s).length _ hn2 λx hx=>by obtain⟨y,hy,rfl⟩:=bZ.1 hx;obtain⟨m,rfl,hm⟩:=S.rng i hi y hy;omega
  rw[da]at this;have:=m7 s;omega
def Nf(h:aj s=true){k:Nat}(hk:k<(dOf s).length):(aZ (pG s) k).1<(vOf s).length/\(aZ (pG s) k).2<(vOf s).length/\aEY (vOf s) (aZ (pG s) k).1=(dOf s)[k].a/\aEY (vOf s) (aZ (pG s) k).2=(dOf s)[k].b:=by
 have hd:=(po (s:=s) (by rw[ii];exact h)).2 _ (lI hk);have hp:k<(pG s).length:=by rw[qx];exact hk
 have e:aZ (pG s) k=(c6 (vOf s) (dOf s)[k].a,c6 (vOf s) (dOf s)[k].b):=by rw[mJ hp];simp only[pG,dgP,jG]
 rw[e];exact⟨mK hd.1,mK hd.2,ql hd.1,ql hd.2⟩
def Stg.need(h:aj s=true){k:Nat}(hk:k<=(dOf s).length)(S:Stg s k){i j:Nat}(hi:i<(vOf s).length)(hj:j<(vOf s).length)(g:eM (AK s k) (aEY (vOf s) i) (aEY (vOf s) j)):gv (vOf s) (sG s k).1 i j=jm (AK s k) (aEY (vOf s) i) (aEY (vOf s) j):=
 Zd (S.fan i hi) (λx=>by rw[uQ h hk,S.mem i hi]) (S.ar h hi hj g).mem
end
end
section
def XK{α:Type}{l:List α}{a b c:α}(ha:a∈l)(hb:b∈l)(hc:c∈l)(h1:a≠b)(h2:b≠c)(h3:a≠c):3<=l.length:=by obtain⟨i,hi,rfl⟩:=iZ.1 ha;obtain⟨j,hj,rfl⟩:=iZ.1 hb;obtain⟨k,hk,rfl⟩:=iZ.1 hc;grind
def Iy{l:List Int}{q x:Int}:x∈uU l q↔x∈l/\x≠q:=by unfold uU;grind
open Classical in
noncomputable def vL(v:List V)(L:List (List Int))(p:V):List V:=if p∈v then fE v L (c6 v p)else []
section
variable {s:Shape}
def pY(h:aj s=true){k:Nat}(hk:k<=(dOf s).length)(S:Stg s k)(p x:V):eM (AK s k) p x↔x∈vL (vOf s) (sG s k).1 p:=by
 unfold vL;by_cases hp:p∈vOf s
 .rw[if_pos hp,<-S.mem _ (mK hp),ql hp]
 .rw[if_neg hp];exact⟨λg=>(hp (LI h (se hk g))).elim,λg=>(cn g).elim⟩
def MU{k:Nat}(S:Stg s k)(p:V):aE9 p (vL (vOf s) (sG s k).1 p):=by
 unfold vL;by_cases hp:p∈vOf s
 .rw[if_pos hp];have:=S.fan _ (mK hp);rw[ql hp]at this;exact this
 .rw[if_neg hp];exact Fan.nil p
def LQ(h:aj s=true){k:Nat}(hk:k<=(dOf s).length)(S:Stg s k){i:Nat}(hi:i<(vOf s).length){x:V}{d:aE0}(hd:d∈dOf s)(hx:eM (AK s k) (aEY (vOf s) i) x)(he:d=⟨aEY (vOf s) i,x⟩\/d=⟨x,aEY (vOf s) i⟩):3<=(vL (vOf s) (sG s k).1 (aEY (vOf s) i)).length:=by
 have T:=tgR h;obtain⟨j,hj,e1⟩:=Lz h hi;obtain⟨u,e2⟩:=Zr h hi;have up:∀e∈aa s,e∈AK s k:=λe he=>by unfold AK gU;grind
 have m1:=(pY h hk S _ _).1 (.inl (up _ e1));have m2:=(pY h hk S _ _).1 (.inr (up _ e2));have m3:=(pY h hk S _ _).1 hx;refine XK m1 m2 m3 (λe=> ?_) (λe=> ?_) (λe=> ?_)
 .rw[<-e]at e2;exact JD T e1 e2
 .subst e;have g:=n7 T hd e2;rcases he with he|he
  .exact g.2 (by rw[he];rfl)
  grind
 .have g:=n7 T hd e1;rw[e]at g;rcases he with he|he
  .grind
  .exact g.2 (by rw[he];rfl)
def sX{k:Nat}(hk:k<(dOf s).length):(dOf s).drop k=(dOf s)[k] ::(dOf s).drop (k+1):=(List.drop_eq_getElem_cons hk)
def aA7(h:aj s=true){k:Nat}(hk:k<(dOf s).length):∀e∈aa s++(kpR s k++(dOf s).drop (k+1)),e≠(dOf s)[k]/\e≠swp (dOf s)[k] :=λe he=>by
 rcases bg.1 he with he|he
 .exact n7 (tgR h) (lI hk) he
 .rcases bg.1 he with he|he
  .obtain⟨m,hm,h1,rfl⟩:=MI s k (by omega) e he;exact Nk h hm hk (by omega)
  .obtain⟨m,hm,rfl⟩:=iZ.1 he;rw[List.getElem_drop];rw[List.length_drop]at hm;exact Nk h (by omega) hk (by omega)
def Stg.step(h:aj s=true){k:Nat}(hk:k<(dOf s).length)(S:Stg s k):Stg s (k+1):=by
 obtain⟨hi,hj,ea,eb⟩:=Nf h hk;have hd:=lI hk;have eN:aK (dOf s) k=(dOf s)[k] :=eZ hk;have gd:eM (AK s k) (dOf s)[k].a (dOf s)[k].b:= .inl (by unfold AK gU;rw[sX hk];grind);have gd':eM (AK s k) (dOf s)[k].b (dOf s)[k].a:=gd.symm;have n1:=S.need h (by omega) hi hj (by grind);have n2:=S.need h (by omega) hj hi (by grind);rw[ea,eb]at n1 n2;have kd:kpR s (k+1)=if rF (AK s k) (dOf s)[k] =true then kpR s k++[(dOf s)[k]]else kpR s k:=by rw[<-eN];rfl
 by_cases hkeep:rF (AK s k) (dOf s)[k] =true
 .rw[if_pos hkeep]at kd;have eA:AK s (k+1)=AK s k:=by unfold AK gU;rw[kd,sX hk];simp
  have eH:kpR s (k+1)++(dOf s).drop (k+1)=kpR s k++(dOf s).drop k:=by rw[kd,sX hk];simp
  have eG:=x9 (s:=s) (k:=k) (by rw[n1,n2];unfold rF at hkeep;grind)
  refine⟨λi hi=>by rw[eG];exact S.fan i hi,λi hi=>by rw[eG];exact S.rng i hi,λi hi x=>by rw[eG,eA];exact S.mem i hi x,?_,?_⟩
  .rw[eG,kd,dM,S.kept]
   congr 1
   show [phi (vOf s) (aZ (pG s) k)] =_;unfold phi;rw[ea,eb]
  .obtain⟨F,Fc⟩:=S.face;have e1:nxK s (k+1)=nxK s k:=by unfold nxK;rw[eA]
   rw[e1];exact⟨F,Faces.congr Fc λe=>by unfold HK;rw[eH]⟩
 .rw[if_neg hkeep]at kd;have hn:jm (AK s k) (dOf s)[k].a (dOf s)[k].b=true/\jm (AK s k) (dOf s)[k].b (dOf s)[k].a=true:=by unfold rF at hkeep;rw[Bool.or_eq_true,CY,CY,not_or,Bool.not_eq_false,Bool.not_eq_false]at hkeep;exact hkeep
  have eG:=GS (s:=s) (k:=k) (by grind) (by grind);have hneV:=xO h (se (by omega) gd);have hij:(aZ (pG s) k).1≠(aZ (pG s) k).2:=λe=>hneV (by grind);have off:=aA7 h hk;have eA:AK s (k+1)=aa s++(kpR s k++(dOf s).drop (k+1)):=by unfold AK gU;rw[kd,jw]
  have eA0:∀e,e∈AK s k↔e∈AK s (k+1)\/e=(dOf s)[k] :=λe=>by rw[eA];unfold AK gU;rw[sX hk];grind
  have sd:∀p x,eM (AK s (k+1)) p x↔eM (AK s k) p x/\¬((p=(dOf s)[k].a/\x=(dOf s)[k].b)\/(p=(dOf s)[k].b/\x=(dOf s)[k].a)):=λp x=>by
   unfold eM;rw[eA0,eA0];rw[<-eA]at off;constructor
   .intro g;refine⟨g.imp .inl .inl,?_⟩;rintro(⟨rfl,rfl⟩|⟨rfl,rfl⟩)
    .rcases g with g|g
     .grind
     .exact(off _ g).2 rfl
    .rcases g with g|g
     .exact(off _ g).2 rfl
     grind
   grind
  have lenG:=xm s k;have at':∀c,ai (sG s (k+1)).1 c=if c=(aZ (pG s) k).1 then uU (ai (sG s k).1 (aZ (pG s) k).1) (aZ (pG s) k).2 else if c=(aZ (pG s) k).2 then uU (ai (sG s k).1 (aZ (pG s) k).2) (aZ (pG s) k).1 else ai (sG s k).1 c:=λc=>by
   rw[eG];unfold Bw;dsimp only;rw[uN];by_cases h1:c=(aZ (pG s) k).1
   .grind
   .rw[if_neg λg=>h1 g.1,if_neg h1,uN];grind
  have sub':∀c,(ai (sG s (k+1)).1 c).Sublist (ai (sG s k).1 c):=λc=>by
   rw[at'];split
   .rename_i e;rw[e];exact List.filter_sublist
   .split
    .rename_i e;rw[e];exact List.filter_sublist
    grind
  have vin:∀{c m:Nat},c<(vOf s).length->m<(vOf s).length->∀x∈ai (sG s k).1 c,(vtx (vOf s) x=aEY (vOf s) m↔x=(m:Int)):=λ{c m} hc hm x hx=>by obtain⟨t,rfl,ht⟩:=S.rng c hc x hx;unfold vtx;rw[iF];exact⟨λe=>by rw[pV h ht hm e],λe=>by grind⟩
  have S':∀c,c<(vOf s).length->∀x,eM (AK s (k+1)) (aEY (vOf s) c) x↔x∈fE (vOf s) (sG s (k+1)).1 c:=λc hc x=>by
   rw[sd,S.mem c hc,<-ea,<-eb];unfold fE;rw[at'];by_cases h1:c=(aZ (pG s) k).1
   .subst h1;rw[if_pos rfl];simp only[bZ,Iy];grind
   .rw[if_neg h1];by_cases h2:c=(aZ (pG s) k).2
    .subst h2;rw[if_pos rfl];simp only[bZ,Iy];grind
    .rw[if_neg h2];constructor
     .grind
     .refine λg=>⟨g,?_⟩;rintro(⟨g,_⟩|⟨g,_⟩)
      .exact h1 (pV h hc hi g)
      .exact h2 (pV h hc hj g)
  refine⟨λc hc=>Fan.sub (S.fan c hc) ((sub' c).map _),λc hc x hx=>S.rng c hc x ((sub' c).subset hx),S',?_,?_⟩
  .rw[eG,kd];exact S.kept
  .obtain⟨F,Fc⟩:=S.face;have hs:∀e,HK s k e->sides s (dOf s) e.a e.b:=λe he=>se (by omega) (xe h (by omega) he);have inD:(dOf s)[k]∈kpR s k++(dOf s).drop k:=by rw[sX hk];exact fb _ cI
   have h1:HK s k ⟨(dOf s)[k].a,(dOf s)[k].b⟩:=by unfold HK kH;exact fb _ (iC _ inD)
   have h2:HK s k ⟨(dOf s)[k].b,(dOf s)[k].a⟩:=by unfold HK kH;refine fb _ (fb _ (jf.2 inD))
   have t1:=LQ h (by omega) S hi hd (by rw[ea];exact gd) (.inl (by rw[ea]));have t2:=LQ h (by omega) S hj hd (by rw[eb];exact gd') (.inr (by rw[eb]));rw[ea]at t1;rw[eb]at t2;obtain⟨F',Fc'⟩:=aFa.dropR (rN h) (l:=cQ (AK s k)) (l':=cQ (AK s (k+1))) (L:=vL (vOf s) (sG s k).1) Fc (MU S) (λp x=>by rw[uQ h (by omega),pY h (by omega) S]) hs
    (λe he=>(pY h (by omega) S _ _).1 (xe h (by omega) he).symm) (λp x=>by rw[uQ h (by omega),sd,pY h (by omega) S]) h1 h2 t1 t2 (of_decide_eq_true hn.1) (of_decide_eq_true hn.2)
   refine⟨F',Faces.congr Fc' λe=> ?_⟩;unfold HK kH;rw[kd,sX hk];simp only[bg,bT,jf];have o1:e∈iV s->e≠(dOf s)[k]/\e≠swp (dOf s)[k] :=λg=>by
    rcases((xH (tgR h) e).1 g).1 with q|q
    .simp_all
    .have:=off _ (iC _ q);exact⟨λe'=>this.2 (by rw[e'];rfl),λe'=>this.1 (by rw[e'];rfl)⟩
   have o2:e∈kpR s k\/e∈(dOf s).drop (k+1)->e≠(dOf s)[k]/\e≠swp (dOf s)[k] :=λg=>off _ (fb _ (bg.2 g));have o3:swp e∈kpR s k\/swp e∈(dOf s).drop (k+1)->e≠(dOf s)[k]/\e≠swp (dOf s)[k] :=λg=>by have:=off _ (fb _ (bg.2 g));exact⟨λe'=>this.2 (by rw[e']),λe'=>this.1 (by rw[e'];rfl)⟩
   constructor
   .rintro⟨g|(g|g|g)|(g|g|g),q1,q2⟩
    .exact .inl g
    .grind
    .simp_all
    .grind
    .grind
    .exact absurd (show e=⟨(dOf s)[k].b,(dOf s)[k].a⟩ by rw[<-g];rfl) q2
    grind
   .rintro(g|(g|g)|(g|g))
    .exact⟨.inl g,o1 g⟩
    .exact⟨.inr (.inl (.inl g)),o2 (.inl g)⟩
    .exact⟨.inr (.inl (.inr (.inr g))),o2 (.inr g)⟩
    .exact⟨.inr (.inr (.inl g)),o3 (.inl g)⟩
    .exact⟨.inr (.inr (.inr (.inr g))),o3 (.inr g)⟩
end
end
section
section
variable {s:Shape}
def oJ(h:aj s=true):∀k,k<=(dOf s).length->Stg s k
 |0,_=>Stg.start h
 |k+1,hk=>Stg.step h (by omega) (oJ h k (by omega))
def sok(h:aj s=true):SOk s:=λk hk=>by rw[qx]at hk;have S:=oJ h k (by omega);obtain⟨hi,hj,ea,eb⟩:=Nf h hk;have gd:eM (AK s k) (dOf s)[k].a (dOf s)[k].b:= .inl (by unfold AK gU;rw[sX hk];grind);refine⟨S.ar h hi hj (by grind),S.ar h hj hi (by rw[ea,eb];exact gd.symm),λe=> ?_⟩;exact xO h (se (by omega) gd) (by grind)
def WQ(s:Shape):sdG s=stR s:=by
 unfold sdG stR;rw[ii];by_cases h:aj s=true
 .rw[if_pos h,if_pos (by unfold eOf;rw[if_pos h])];have S:=(oJ h _ (bI _)).kept;unfold spG;rw[qx];exact S
 .rw[if_neg h,if_neg (by unfold eOf;grind)]
end
end
section
def AU(l:List Int)(a c:Nat)(x:Int):cv (l.set a x) c=if c=a/\a<l.length then x else cv l c:=by unfold cv;grind
def Fe(n base m:Nat)(N:List Int):∀i,i<=m->∀c,¬(base<=c/\c<base+m)->cv (rgN n base m i N) c=cv N c
 |0,_,c,_=>rfl
 |i+1,hi,c,hc=>by
  have ih:=Fe n base m N i (by omega) c hc;have:=bq (i+1) (show 0<m by omega);unfold rgN;split
  .rw[AU,if_neg (by omega)];exact ih
  .rw[AU,if_neg (by omega)];exact ih
def Lo(base m:Nat)(N:List Int)(hN:base+m<=N.length):∀i,i<=m->∀t,t<i->cv (rgN 0 base m i N) (base+t)=((base+(t+1) % m:Nat):Int)
 |0,_,t,ht=>by omega
 |i+1,hi,t,ht=>by
  unfold rgN;rw[if_pos rfl,AU];by_cases e:t=i
  .subst e;rw[if_pos ⟨rfl,by rw[xQ];omega⟩]
  .rw[if_neg (by omega)];exact Lo base m N hN i (by omega) t (by omega)
def aAM{m t i:Nat}(h:t<i)(hi:i<m):(t+1) % m≠(i+1) % m:=by
 rw[dZ (show t+1<m by omega)];by_cases e:i+1=m
 .simp_all
 .rw[dZ (by omega)];omega
def NQ{n:Nat}(hn:n≠0)(base m:Nat)(N:List Int)(hN:base+m<=N.length):∀i,i<=m->∀t,t<i->cv (rgN n base m i N) (base+(t+1) % m)=((base+t:Nat):Int)
 |0,_,t,ht=>by omega
 |i+1,hi,t,ht=>by
  have:=bq (i+1) (show 0<m by omega);unfold rgN;rw[if_neg hn,AU];by_cases e:t=i
  .subst e;rw[if_pos ⟨rfl,by rw[xQ];omega⟩]
  .have:=aAM (m:=m) (show t<i by omega) (by omega);rw[if_neg (by omega)];exact NQ hn base m N hN i (by omega) t (by omega)
def aAf{R:List aH}{a b:Nat}(h:a<b)(hb:b<=R.length):bs R a+(aC R a).length<=bs R b:=by
 rw[qu (by omega)];obtain⟨d,rfl⟩:∃d,b=a+1+d:=⟨b-(a+1),by omega⟩;clear h hb;induction d with
 |zero=>grind
 |succ d ih=>
  refine cF ih ?_;unfold bs;rw[show a+1+(d+1)=a+1+d+1 by omega,List.take_add_one,List.flatten_append,eW];omega
def Oi{R:List aH}{N:List Int}(hN:R.flatten.length<=N.length):∀k,k<=R.length->∀a,a<k->∀t,t<(aC R a).length->
  (a=0->cv (rsN R k N) (bs R a+t)=((bs R a+(t+1) % (aC R a).length:Nat):Int))/\(a≠0->cv (rsN R k N) (bs R a+(t+1) % (aC R a).length)=((bs R a+t:Nat):Int))
 |0,_,a,ha,t,ht=>by omega
 |k+1,hk,a,ha,t,ht=>by
  have hl:bs R k+(aC R k).length<=(rsN R k N).length:=by rw[Fa];have h1:=qu (R:=R) (k:=k) (by omega);have h2:=vC R (k+1);omega
  have hm:=bq (t+1) (show 0<(aC R a).length by omega);unfold rsN;by_cases e:a=k
  .subst e;refine⟨λh0=> ?_,λh0=>NQ h0 _ _ _ hl _ (bI _) t ht⟩;subst h0;exact Lo _ _ _ hl _ (bI _) t ht
  .have ih:=Oi hN k (by omega) a (by omega) t ht;have hb:=aAf (R:=R) (a:=a) (b:=k) (by omega) (by omega);exact⟨λh0=>by rw[Fe _ _ _ _ _ (bI _) _ (by omega)];exact ih.1 h0,λh0=>by rw[Fe _ _ _ _ _ (bI _) _ (by omega)];exact ih.2 h0⟩
def Jr:∀(R:List aH) (i:Nat),i<R.flatten.length->∃k,k<R.length/\∃t,t<(aC R k).length/\i=bs R k+t
 |[],i,h=>by simp at h
 |r::R,i,h=>by
  by_cases h1:i<r.length
  .exact⟨0,by simp,i,h1,by show i=0+i;omega⟩
  .rw[mc,eW]at h;obtain⟨k,hk,t,ht,e⟩:=Jr R (i-r.length) (by omega);refine⟨k+1,by grind,t,ht,?_⟩;have e2:bs (r::R) (k+1)=r.length+bs R k:=by unfold bs;rw[List.take_succ_cons,mc,eW]
   omega
section
variable {s:Shape}
def Bs(h:aj s=true){a t:Nat}(ha:a<(aD (aO s)).length)(ht:t<(aC (aD (aO s)) a).length):
  (a=0->cv (nG s) (bs (aD (aO s)) a+t)=((bs (aD (aO s)) a+(t+1) % (aC (aD (aO s)) a).length:Nat):Int))/\(a≠0->cv (nG s) (bs (aD (aO s)) a+(t+1) % (aC (aD (aO s)) a).length)=((bs (aD (aO s)) a+t:Nat):Int)):=
 Oi (by rw[rZ,oA h];omega) _ (bI _) a ha t ht
def TE(h:aj s=true){a:Nat}(ha:a<(aD (aO s)).length)(h0:a≠0):∃q∈s.holes,aC (aD (aO s)) a=bo q:=by
 rw[pZ h]at ha|-;obtain⟨b,rfl⟩:∃b,a=b+1:=⟨a-1,by omega⟩;have hb:b<(c7 s).holes.length:=by unfold aD at ha;simpa using ha
 have hm:aC (c7 s).holes b∈(c7 s).holes:=gD hb;obtain⟨q,hq,e⟩:=bZ.1 ((mB _).mem_iff.1 hm);exact⟨q,hq,e.symm⟩
def KK(h:aj s=true):aC (aD (aO s)) 0=bo s.outer:=by rw[pZ h];rfl
def Fx{r:aH}{e:S}(he:e∈aJ r):∃t,t<r.length/\e=⟨aEY r t,aEY r ((t+1) % r.length)⟩:=by
 unfold aJ at he;split at he
 .cases he
 .obtain⟨t,ht,rfl⟩:=bZ.1 he;exact⟨t,cG.1 ht,rfl⟩
def Aq{r:aH}(h2:2<=r.length){t:Nat}(ht:t<r.length):(⟨aEY r t,aEY r ((t+1) % r.length)⟩:S)∈aJ r:=by unfold aJ;rw[if_neg (by omega)];exact bZ.2 ⟨t,cG.2 ht,rfl⟩
def GX(h:aj s=true){i:Nat}(hi:i<(vOf s).length):∃j:Nat,cv (nG s) i=j/\j<(vOf s).length/\(⟨aEY (vOf s) i,aEY (vOf s) j⟩:S)∈iV s:=by
 have hi2:=hi;rw[oA h]at hi2;obtain⟨k,hk,t,ht,e⟩:=Jr _ i hi2;have h2:=AS h _ (gD hk);have hl:bs (aD (aO s)) k+(aC (aD (aO s)) k).length<=(vOf s).length:=by have h1:=qu hk;have h3:=vC (aD (aO s)) (k+1);rw[oA h];omega
 have fl:∀u,u<(aC (aD (aO s)) k).length->aEY (vOf s) (bs (aD (aO s)) k+u)=aEY (aC (aD (aO s)) k) u:=λu hu=>by rw[oA h];exact xG _ k u hk hu
 have hm:∀u,u % (aC (aD (aO s)) k).length<(aC (aD (aO s)) k).length:=λu=>bq _ (by omega);by_cases h0:k=0
 .refine⟨_,by rw[e];exact(Bs h hk ht).1 h0,by have:=hm (t+1);omega,?_⟩;rw[e,fl t ht,fl _ (hm _)];have g:=Aq h2 ht;unfold iV;refine iC _ ((ri s.outer _).1 ?_);subst h0;rw[KK h]at g|-;exact g
 .have ht0:=hm (t+(aC (aD (aO s)) k).length-1);have et:((t+(aC (aD (aO s)) k).length-1) % (aC (aD (aO s)) k).length+1) % (aC (aD (aO s)) k).length=t:=by rw[kc,show t+(aC (aD (aO s)) k).length-1+1=t+(aC (aD (aO s)) k).length by omega,pB,dZ ht]
  have g:=(Bs h hk ht0).2 h0;have g2:=Aq h2 ht0;rw[et]at g g2;refine⟨_,by rw[e];exact g,by omega,?_⟩;rw[e,fl t ht,fl _ ht0];obtain⟨q,hq,eq⟩:=TE h hk h0;unfold iV;refine fb _ (jf.2 (cZ.2 ⟨q,hq,(ri q _).1 ?_⟩));rw[<-eq];exact g2
end
end
section
section
variable {s:Shape}
def aAK(h:aj s=true){e:aE0}(he:e∈iV s):∃i j:Nat,i<(vOf s).length/\cv (nG s) i=j/\e=⟨aEY (vOf s) i,aEY (vOf s) j⟩:=by
 have fl:∀{k:Nat},k<(aD (aO s)).length->∀u,u<(aC (aD (aO s)) k).length->aEY (vOf s) (bs (aD (aO s)) k+u)=aEY (aC (aD (aO s)) k) u:=λ{k} hk u hu=>by rw[oA h];exact xG _ k u hk hu
 have hl:∀{k:Nat},k<(aD (aO s)).length->bs (aD (aO s)) k+(aC (aD (aO s)) k).length<=(vOf s).length:=λ{k} hk=>by have h1:=qu hk;have h3:=vC (aD (aO s)) (k+1);rw[oA h];omega
 unfold iV at he;rcases bg.1 he with he|he
 .have he2:=(ri s.outer e).2 he;rw[<-KK h]at he2;obtain⟨t,ht,e1⟩:=Fx he2;have hk:0<(aD (aO s)).length:=by unfold aD;simp
  have hm:=bq (t+1) (show 0<(aC (aD (aO s)) 0).length by omega);refine⟨bs (aD (aO s)) 0+t,_,by grind,(Bs h hk ht).1 rfl,?_⟩;grind
 .rw[jf]at he;obtain⟨q,hq,heq⟩:=cZ.1 he;have hb:bo q∈(c7 s).holes:=(mB _).mem_iff.2 (bZ.2 ⟨q,hq,rfl⟩);obtain⟨a,ha,ea⟩:∃a,a<(c7 s).holes.length/\aC (c7 s).holes a=bo q:=by obtain⟨a,ha,e⟩:=iZ.1 hb;exact⟨a,ha,by rw[je ha];exact e⟩
  have hk:a+1<(aD (aO s)).length:=by rw[pZ h];unfold aD;rw[gk];omega
  have er:aC (aD (aO s)) (a+1)=bo q:=by rw[pZ h];exact ea
  have he2:=(ri q _).2 heq;rw[<-er]at he2;obtain⟨t,ht,e1⟩:=Fx he2;have hm:=bq (t+1) (show 0<(aC (aD (aO s)) (a+1)).length by omega);refine⟨bs (aD (aO s)) (a+1)+(t+1) % (aC (aD (aO s)) (a+1)).length,_,by grind,(Bs h hk ht).2 (by omega),?_⟩;rw[fl hk t ht,fl hk _ hm];have e2:e=swp (swp e):=rfl;rw[e2,e1];rfl
def HL(s:Shape):aE0->Prop:=HK s (dOf s).length
def PP{e:aE0}:HL s e↔e∈iV s\/e∈kpR s (dOf s).length\/swp e∈kpR s (dOf s).length:=by unfold HL HK kH;rw[List.drop_length,yg,bg,bg,jf]
def Y8(h:aj s=true):(spG s).map (phi (vOf s))=kpR s (dOf s).length:=by have S:=(oJ h _ (bI _)).kept;unfold spG;rw[qx];exact S
def xV(h:aj s=true){e:aE0}:e∈(hsG s).map (phi (vOf s))↔HL s e:=by
 rw[PP];unfold hsG;rw[dM,bg];refine or_congr ?_ ?_
 .unfold nxP;rw[dq];constructor
  .intro g;obtain⟨i,hi,rfl⟩:=bZ.1 g;have hi:=cG.1 hi;obtain⟨j,ej,hj,he⟩:=GX h hi;show phi (vOf s) (i,(cv (nG s) i).toNat)∈_;rw[ej,iF];exact he
  .intro g;obtain⟨i,j,hi,ej,e1⟩:=aAK h g;refine bZ.2 ⟨i,cG.2 hi,?_⟩;show phi (vOf s) (i,(cv (nG s) i).toNat)=e;rw[ej,iF,e1];rfl
 .rw[<-Y8 h,bZ,bZ,bZ];constructor
  .rintro⟨p,hp,rfl⟩;obtain⟨q,hq,hpq⟩:=cZ.1 hp;unfold iu at hpq;rcases bT.1 hpq with e1|hpq
   .grind
   .rw[bi.1 hpq];exact .inr ⟨q,hq,rfl⟩
  .rintro(⟨p,hp,rfl⟩|⟨p,hp,e1⟩)
   .exact⟨p,cZ.2 ⟨p,hp,cI⟩,rfl⟩
   .refine⟨(p.2,p.1),cZ.2 ⟨p,hp,cE _ cI⟩,?_⟩;have:e=swp (phi (vOf s) p):=by rw[e1];rfl
    rw[this];rfl
def EU{r:aH}{e:aE0}:e∈aJ r.reverse↔swp e∈aJ r:=by
 have key:∀{r:aH} {e:aE0},e∈aJ r.reverse->swp e∈aJ r:=λ{r e} he=>by
  have h2:2<=r.length:=by
   unfold aJ at he;rw[Sj]at he;split at he
   .cases he
   .omega
  obtain⟨t,ht,rfl⟩:=Fx he;rw[Sj]at ht|-;have rv:∀u,u<r.length->aEY r.reverse u=aEY r (r.length-1-u):=λu hu=>by unfold aEY;grind
  rw[rv t ht,rv _ (bq _ (by omega))];by_cases e1:t+1<r.length
  .rw[dZ e1];have g:=Aq h2 (t:=r.length-1-(t+1)) (by omega);rw[dZ (show r.length-1-(t+1)+1<r.length by omega),show r.length-1-(t+1)+1=r.length-1-t by omega]at g;exact g
  .have e2:t+1=r.length:=by omega
   rw[e2,ju,show r.length-1-t=0 by omega,show r.length-1-0=r.length-1 by omega];have g:=Aq h2 (t:=r.length-1) (by omega);rw[show r.length-1+1=r.length by omega,ju]at g;exact g
 constructor
 .exact key
 .intro g;have:swp e∈aJ r.reverse.reverse:=by rw[List.reverse_reverse];exact g
  exact key this
def xU(h:aj s=true){e:aE0}:e∈hsR s↔HL s e:=by
 have e0:stR s=kpR s (dOf s).length:=by unfold stR;rw[if_pos (by unfold eOf;rw[if_pos h])]
 rw[PP];unfold hsR hUT hU iV;rw[ke,ke,bg,bg,bg,jf,cZ,cZ,cZ,e0];simp only[EU];refine or_congr Iff.rfl ?_;constructor
 .rintro⟨d,hd,he⟩;unfold vH at he;rcases bT.1 he with e1|he
  .grind
  .rw[bi.1 he];exact .inr hd
 .rintro(g|g)
  .exact⟨e,g,cI⟩
  .exact⟨_,g,cE _ cI⟩
end
end
section
def Lu:∀(a:V) (l:List V),cu a l=(bQ l.length).map λi=>(⟨aEY (a::l) i,aEY (a::l) (i+1)⟩:aE0)
 |a,[] =>rfl
 |a,x::l=>by
  have ih:=Lu x l;show(⟨a,x⟩:aE0)::cu x l=_;rw[ih,gk,List.range_succ_eq_map,dB,dq];rfl
def Z4{r:List V}(h:0<r.length):cyc r=(bQ r.length).map λi=>(⟨aEY r i,aEY r ((i+1) % r.length)⟩:aE0):=by
 cases r with
 |nil=>simp at h
 |cons a l=>
  show cu a (l++[a])=_;rw[Lu,eW,List.length_singleton,gk];refine nZ λi hi=> ?_;have hi:=cG.1 hi;have e1:aEY (a::(l++[a])) i=aEY (a::l) i:=D9 (a:=a::l) (b:=[a]) (by omega);rw[e1];by_cases h2:i+1<l.length+1
  .have e2:aEY (a::(l++[a])) (i+1)=aEY (a::l) (i+1):=D9 (a:=a::l) (b:=[a]) (by omega);rw[e2,dZ h2]
  .have e3:i+1=l.length+1:=by omega
   have e2:aEY (a::(l++[a])) ((a::l).length+0)=aEY [a] 0:=KW (a:=a::l) (b:=[a]) 0;rw[e3,ju];rw[show l.length+1=(a::l).length+0 from rfl,e2];rfl
def UY{r:List V}(hn:r.Nodup){k:Nat}(hk:k<r.length):rA r k=o6 r (aEY r k):=by
 have c:=Z4 (r:=r) (by omega);have m1:(⟨aEY r ((k+r.length-1) % r.length),aEY r k⟩:aE0)∈cyc r:=by rw[c];refine bZ.2 ⟨(k+r.length-1) % r.length,cG.2 (bq _ (by omega)),?_⟩;rw[kc,show k+r.length-1+1=k+r.length by omega,pB,dZ hk]
 have m2:(⟨aEY r k,aEY r ((k+1) % r.length)⟩:aE0)∈cyc r:=by rw[c];exact bZ.2 ⟨k,cG.2 hk,rfl⟩
 rw[Bool.eq_iff_iff,Af];unfold rA;rw[decide_eq_true_eq];constructor
 .grind
 .rintro⟨a,b,ha,hb,h⟩;have e2:=A6 hn hb m2 rfl;have e1:a=aEY r ((k+r.length-1) % r.length):=by
   rw[c]at ha;obtain⟨t,ht,e⟩:=bZ.1 ha;have ht:=cG.1 ht;have ea:aEY r t=a:=congrArg aE0.a e;have eb:aEY r ((t+1) % r.length)=aEY r k:=congrArg aE0.b e;have:=mI hn (bq _ (by omega)) hk eb;rw[<-ea,<-this];by_cases h3:t+1<r.length
   .rw[dZ h3,show t+1+r.length-1=t+r.length by omega,pB,dZ ht]
   .rw[show t+1=r.length by omega,ju,jy,dZ (by omega),show t=r.length-1 by omega]
  grind
def Iw{r:List V}(hn:r.Nodup):∀k,k<=r.length->dL r k=(r.take k).filter (o6 r)
 |0,_=>rfl
 |k+1,h=>by
  have hk:k<r.length:=by omega
  rw[tu,Iw hn k (by omega),iR hk,pI,UY hn hk,nth_eq hk];grind
def DD{r:List V}(hn:r.Nodup):c5 r=r.filter (o6 r):=by unfold c5;rw[Iw hn _ (bI _),ke]
def gC(r:List V):List V:=bo (c5 r)
def Zx{r:List V}(hn:r.Nodup){k l:List V}(e:r=k++l):gC (l++k)=gC r:=by subst e;have hn2:(l++k).Nodup:=List.perm_append_comm.nodup_iff.1 hn;unfold gC;rw[DD hn,DD hn2];exact Ws hn
section
variable {s:Shape}
def xj(s:Shape):soG s=(sG s (dOf s).length).1:=by unfold soG;rw[qx]
def HB(h:aj s=true):∀p∈hsG s,p.1<(vOf s).length/\p.2<(vOf s).length:=λp hp=>by
 unfold hsG at hp;rcases bg.1 hp with hp|hp
 .unfold nxP at hp;obtain⟨i,hi,rfl⟩:=bZ.1 hp;have hi:=cG.1 hi;obtain⟨j,ej,hj,_⟩:=GX h hi;omega
 .obtain⟨q,hq,hpq⟩:=cZ.1 hp;have hq2:q∈pG s:=FS _ _ _ _ (bI _) q hq;have:=Bq (by rw[ii];exact h) hq2;unfold iu at hpq;grind
def Fr(h:aj s=true){p:Nat×Nat}(hp:p∈hsG s):eM (AK s (dOf s).length) (aEY (vOf s) p.1) (aEY (vOf s) p.2):=
 xe h (bI _) ((xV h).1 (bZ.2 ⟨p,hp,rfl⟩))
def pc1(h:aj s=true)(i j:Nat)(hm:(j:Int)∈ai (soG s) i):ArOk (vOf s) (soG s) i j/\ArOk (vOf s) (soG s) j i:=by
 have S:=oJ h _ (bI _);rw[xj]at hm|-;have hi:i<(vOf s).length:=by
  by_cases hi:i<(vOf s).length
  .exact hi
  .have:ai (sG s (dOf s).length).1 i=[] :=by unfold ai;rw[du,List.getElem?_eq_none (by rw[xm];omega)];rfl
   grind
 obtain⟨m,e,hm2⟩:=S.rng i hi _ hm;have hj:j<(vOf s).length:=by have:=Int.ofNat.inj e;omega
 have g:eM (AK s (dOf s).length) (aEY (vOf s) i) (aEY (vOf s) j):=(S.mem i hi _).2 (bZ.2 ⟨_,hm,by unfold vtx;grind⟩);exact⟨S.ar h hi hj g,S.ar h hj hi g.symm⟩
def pc2(h:aj s=true):∀p∈hsG s,ArOk (vOf s) (soG s) p.2 p.1:=λp hp=>by have S:=oJ h _ (bI _);obtain⟨h1,h2⟩:=HB h p hp;rw[xj];exact S.ar h h2 h1 (Fr h hp).symm
def pc3(h:aj s=true):∀i,i<(vOf s).length->0<=cv (nG s) i:=λi hi=>by obtain⟨j,ej,_,_⟩:=GX h hi;omega
def ZS(h:aj s=true){p q:Nat×Nat}(hp:p.1<(vOf s).length/\p.2<(vOf s).length)(hq:q.1<(vOf s).length/\q.2<(vOf s).length)(e:phi (vOf s) p=phi (vOf s) q):p=q:=
 Prod.ext (pV h hp.1 hq.1 (congrArg aE0.a e)) (pV h hp.2 hq.2 (congrArg aE0.b e))
def FQ(h:aj s=true):∀(f:Nat) (U:List (Nat×Nat)) (p:Nat×Nat) (r:List V),(∀q∈U,q.1<(vOf s).length/\q.2<(vOf s).length)->p.1<(vOf s).length->p.2<(vOf s).length->
  eM (AK s (dOf s).length) (aEY (vOf s) p.1) (aEY (vOf s) p.2)->
  tr (nxK s (dOf s).length) f (U.map (phi (vOf s))) (phi (vOf s) p) r=((trc (vOf s) (soG s) f U p r).1.map (phi (vOf s)),(trc (vOf s) (soG s) f U p r).2)/\∀q∈(trc (vOf s) (soG s) f U p r).1,q.1<(vOf s).length/\q.2<(vOf s).length
 |0,U,p,r,hU,_,_,_=>⟨rfl,hU⟩
 |f+1,U,p,r,hU,h1,h2,hs=>by
  have S:=oJ h _ (bI _);have hin:phi (vOf s) p∈U.map (phi (vOf s))↔p∈U:=by
   constructor
   .intro g;obtain⟨q,hq,e⟩:=bZ.1 g;rw[<-ZS h (hU q hq) ⟨h1,h2⟩ e];exact hq
   .grind
  by_cases hp:p∈U
  .rw[OY hp,x7 (hin.2 hp)];grind
  .rw[My hp,BG λg=>hp (hin.1 g)];have A:=S.ar h h2 h1 hs.symm;have ar:=A.around (-1);obtain⟨ar1,ar2⟩:=ar;have e1:nxK s (dOf s).length (phi (vOf s) p)=aEY (vOf s) (iS (soG s) p.2 p.1 (-1)):=by rw[xj];exact(JH (S.fan _ h2) (λx=>(uQ h (bI _)).trans (S.mem _ h2 x)) A.mem).symm
   have e2:(⟨(phi (vOf s) p).b,nxK s (dOf s).length (phi (vOf s) p)⟩:aE0)=phi (vOf s) (nxH (soG s) p):=by rw[e1];rfl
   have hU2:∀q∈U++[p],q.1<(vOf s).length/\q.2<(vOf s).length:=λq hq=>by grind
   have hs2:eM (AK s (dOf s).length) (aEY (vOf s) (nxH (soG s) p).1) (aEY (vOf s) (nxH (soG s) p).2):=by rw[xj];refine(S.mem _ h2 _).2 (bZ.2 ⟨_,ar1,?_⟩);unfold vtx;rw[iF];rfl
   have ih:=FQ h f (U++[p]) (nxH (soG s) p) (r++[aEY (vOf s) p.1]) hU2 h2 (by rw[xj];exact ar2) hs2;rw[dM]at ih;rw[e2];exact ih
end
end
section
section
variable {s:Shape}
def Kr(h:aj s=true){F:List (List V)}(Fc:aFa (nxK s (dOf s).length) (HL s) F){r:List V}(hr:r∈F):∀e∈cyc r,sides s (dOf s) e.a e.b:=λe he=>
 se (bI _) (xe h (bI _) ((Fc.all e).1 (cZ.2 ⟨r,hr,he⟩)))
def MW(h:aj s=true){F:List (List V)}(Fc:aFa (nxK s (dOf s).length) (HL s) F){r:List V}(hr:r∈F):r.length<=(vOf s).length:=by
 have c:=Fc.cx r hr;have hv:∀u∈r,u∈vOf s:=λu hu=>by
  have hu2:u∈(cyc r).map S.a:=by rw[sQ];exact hu
  obtain⟨e,he,rfl⟩:=bZ.1 hu2;exact LI h (Kr h Fc hr e he)
 have hn:(r.map (c6 (vOf s))).Nodup:=by unfold List.Nodup;rw[kK];refine CZ (λ{a b} ha hb hne e=>hne ?_) c.nodup;have e1:=ql (hv a ha);rw[e,ql (hv b hb)]at e1;exact e1.symm
 have:=AW (vOf s).length _ hn λx hx=>by obtain⟨u,hu,rfl⟩:=bZ.1 hx;exact mK (hv u hu)
 grind
def AH(h:aj s=true){F:List (List V)}(Fc:aFa (nxK s (dOf s).length) (HL s) F):∀r∈F,r.length<=trU (vOf s):=λr hr=>by have h1:=MW h Fc hr;have h2:=(Fc.cx r hr).three;unfold trU;have:(vOf s).length*1<=(vOf s).length*(vOf s).length:=Nat.mul_le_mul_left _ (by omega);omega
def Kq{F:List (List V)}(Fc:aFa (nxK s (dOf s).length) (HL s) F):∀r∈F,∀k l,r=k++l->gC (l++k)=gC r:=λr hr _ _ e=>Zx (Fc.cx r hr).nodup e
def Et(h:aj s=true):∀k,k<=(hsG s).length->lr (nxK s (dOf s).length) (trU (vOf s)) gC (((hsG s).take k).map (phi (vOf s))) ([],[])=((pcK s k).1.map (phi (vOf s)),(pcK s k).2)/\∀q∈(pcK s k).1,q.1<(vOf s).length/\q.2<(vOf s).length
 |0,_=>⟨rfl,λq hq=>(cn hq).elim⟩
 |k+1,hk=>by
  obtain⟨ih,hr⟩:=Et h k (by omega);have hkl:k<(hsG s).length:=by omega
  have hm:(hsG s)[k]∈hsG s:=lI hkl;obtain⟨l1,l2⟩:=HB h _ hm;obtain⟨sim,hr2⟩:=FQ h (trU (vOf s)) (pcK s k).1 (hsG s)[k] [] hr l1 l2 (Fr h hm);rw[iR hkl,dM,List.map_singleton,DM,ih];dsimp only;rw[sim,uL,mJ hkl];exact⟨rfl,hr2⟩
def XJ(h:aj s=true){F:List (List V)}(Fc:aFa (nxK s (dOf s).length) (HL s) F){k:Nat}(hk:k<(hsG s).length)(h0:0<(trc (vOf s) (soG s) (trU (vOf s)) (pcK s k).1 (aZ (hsG s) k) []).2.length):
  ∃r∈F,∃a b,r=a++b/\(trc (vOf s) (soG s) (trU (vOf s)) (pcK s k).1 (aZ (hsG s) k) []).2=b++a:=by
 obtain⟨ih,hr⟩:=Et h k (by omega);have hm:(hsG s)[k]∈hsG s:=lI hk;obtain⟨l1,l2⟩:=HB h _ hm;obtain⟨sim,_⟩:=FQ h (trU (vOf s)) (pcK s k).1 (hsG s)[k] [] hr l1 l2 (Fr h hm);have I:=Ly Fc (AH h Fc) (g:=gC) (((hsG s).take k).map (phi (vOf s))) ([],[]) (tR.nil F) λe he=>by obtain⟨p,hp,rfl⟩:=bZ.1 he;exact(xV h).1 (bZ.2 ⟨p,Si hp,rfl⟩)
 rw[ih]at I;rw[mJ hk]at h0|-;rcases M2 Fc (AH h Fc) I (e:=phi (vOf s) (hsG s)[k]) ((xV h).1 (bZ.2 ⟨_,hm,rfl⟩))with t|⟨r,hrF,a,b,e,t,_⟩
 .grind
 grind
def aBM(h:aj s=true):o9 s:=by
 refine⟨pc1 h,pc2 h,pc3 h,λk hk h0=> ?_⟩;obtain⟨F,Fc⟩:=(oJ h _ (bI _)).face;obtain⟨r,hr,a,b,e,et⟩:=XJ h Fc hk h0;have c:=Fc.cx r hr;have hl:=MW h Fc hr;have hv:=m7 s;have c2:CX (b++a):=by rw[e]at c;exact c.swap
 have hp:(cyc (b++a)).Perm (cyc r):=by rw[e];exact mG a b
 rw[et];refine⟨?_,?_⟩
 .grind
 .rw[DD c2.nodup];exact List.length_pos_iff.2 (c2.corner (rN h) λq hq=>Kr h Fc hr q (hp.mem_iff.1 hq))
def Xt(h:aj s=true){F:List (List V)}(Fc:aFa (nxK s (dOf s).length) (HL s) F):(pcK s (hsG s).length).2.Perm (F.map gC):=by have g:=zt Fc (AH h Fc) (Kq Fc) ((hsG s).map (phi (vOf s))) ([],[]) [] F (λe he=>(xV h).1 he) (.refl _) (λe=>by simp) (.refl _) λr hr e he=>(xV h).2 ((Fc.all e).1 (cZ.2 ⟨r,hr,he⟩));have e:=(Et h (hsG s).length (bI _)).1;grind
end
end
def N6(s:Shape):∀k,k<=(dOf s).length->(kpR s k).Sublist ((dOf s).take k)
 |0,_=>List.nil_sublist _
 |k+1,h=>by
  have ih:=N6 s k (by omega);have hk:k<(dOf s).length:=by omega
  rw[iR hk];unfold kpR;split
  .rw[eZ hk];grind
  grind
def J6:∀l:List S,(l.flatMap vH).Perm (l++l.map swp)
 |[] => .refl _
 |d::l=>by
  rw[fM,dB];show(d::swp d::l.flatMap vH).Perm (d::(l++swp d::l.map swp));exact((List.perm_middle.trans ((J6 l).symm.cons _)).symm).cons _
def rp{r:aH}(hn:r.Nodup):(aJ r).Nodup:=by
 by_cases h2:r.length<2
 .unfold aJ;grind
 .rw[<-Kw (r:=r) (by omega)]at hn;exact Cb (λ{a b} hne (e:a=b)=>hne (by rw[e])) (kK.1 hn)
def Xn{r:aH}(hn:r.Nodup):(aJ r.reverse).Perm ((aJ r).map swp):=
 (List.perm_ext_iff_of_nodup (rp ((List.reverse_perm r).nodup_iff.2 hn)) (Am (rp hn))).2 λe=>by rw[EU,jf]
def KL:∀{l:List aH},(∀r∈l,r.Nodup)->(l.flatMap λr=>aJ r.reverse).Perm ((l.flatMap aJ).map swp)
 |[],_=> .refl _
 |r::l,h=>by
  rw[fM,fM,dM];exact(Xn (h r cI)).append (KL λq hq=>h q (cE _ hq))
def L8{H:List S}{b q:V}{k0:Nat}:∀n,n<=H.length->(∃m,m<n/\aK H m=⟨b,q⟩)->aK H (nxI H b q k0 n)=⟨b,q⟩
 |0,_,⟨m,hm,_⟩=>by omega
 |n+1,hn,⟨m,hm,e⟩=>by
  unfold nxI;by_cases g:(aK H n).a=b/\(aK H n).b=q
  .rw[if_pos g];obtain⟨g1,g2⟩:=g;cases e2:aK H n;grind
  .rw[if_neg g];refine L8 n (by omega) ⟨m,?_,e⟩;grind
def LO{H A:List S}:∀(f:Nat) (U:List Bool) (k:Nat) (r:List V),U.length=H.length->k<H.length->U.count false<=f->trB H A f U k r=trB H A (U.count false) U k r
 |0,U,k,r,_,_,h=>by grind
 |f+1,U,k,r,hU,hk,h=>by
  cases g:iQ U k with
  |true=>rw[xg g,xg g]
  |false=>
   have c:=A9 (show k<U.length by omega) g;rw[c,xL g,xL g];exact LO f _ _ _ (by grind) (xp hk _ (bI _)) (by omega)
def X6{U:List Bool}{k m:Nat}(hk:k<U.length):iQ (U.set k true) m=if m=k then true else iQ U m:=by unfold iQ;grind
def Mk(H:List S)(U:List Bool)(Us:List S):Prop:=U.length=H.length/\∀m,m<H.length->(iQ U m=true↔aK H m∈Us)
def X0{H:List S}(hn:H.Nodup){i j:Nat}(hi:i<H.length)(hj:j<H.length)(e:aK H i=aK H j):i=j:=by rw[eZ hi,eZ hj]at e;have P:=nU.1 hn;grind
def M3{H A:List S}{nx:S->V}(hn:H.Nodup)(hx:∀e∈H,nxQ A e=nx e)(hc:∀e∈H,(⟨e.b,nx e⟩:S)∈H):∀(f:Nat) (U:List Bool) (Us:List S) (k:Nat) (r:List V),Mk H U Us->k<H.length->
  (trB H A f U k r).2=(tr nx f Us (aK H k) r).2/\Mk H (trB H A f U k r).1 (tr nx f Us (aK H k) r).1
 |0,U,Us,k,r,M,_=>⟨rfl,M⟩
 |f+1,U,Us,k,r,M,hk=>by
  have hm:aK H k∈H:=by rw[eZ hk];exact lI _
  cases g:iQ U k with
  |true=>rw[xg g,x7 ((M.2 k hk).1 g)];grind
  |false=>
   have hnot:aK H k∉Us:=λq=>by rw[(M.2 k hk).2 q]at g;cases g
   rw[xL g,BG hnot];have en:aK H (nxB H A k)=⟨(aK H k).b,nx (aK H k)⟩:=by unfold nxB;rw[hx _ hm];obtain⟨m,hm2,e⟩:=iZ.1 (hc _ hm);exact L8 _ (bI _) ⟨m,hm2,by rw[eZ hm2];exact e⟩
   have hk2:nxB H A k<H.length:=xp hk _ (bI _);rw[<-en];refine M3 hn hx hc f _ _ _ _ ⟨by rw[List.length_set];exact M.1,λm hm3=> ?_⟩ hk2;rw[X6 (by rw[M.1];exact hk),bg,bi];by_cases e:m=k
   .grind
   .rw[if_neg e,M.2 m hm3];exact⟨.inl,λq=>q.elim id λq=>absurd (X0 hn hm3 hk q) e⟩
section
section
variable {s:Shape}
def Od(h:aj s=true):stR s=kpR s (dOf s).length:=by unfold stR;rw[if_pos (by unfold eOf;rw[if_pos h])]
def WW(h:aj s=true):(hsR s).Nodup:=by
 have T:=tgR h;have V:=vsR h;have P:(hsR s).Perm (kH (iV s) (kpR s (dOf s).length)):=by unfold hsR hUT hU kH iV;rw[ke,ke,Od h];refine List.Perm.append (List.Perm.append_left _ (KL λr hr=> ?_)) (J6 _);exact(V.ring (cE _ hr)).nodup
 have K:(kpR s (dOf s).length).Sublist (dOf s):=by have:=N6 s _ (bI (dOf s).length);rw[ke]at this;exact this
 have N:=Dk T (Jz T) λe he=>by
  rcases((xH T e).1 he).1 with g|g
  .exact .inl g
  .exact .inr g
 refine P.nodup_iff.2 (N.sublist ?_);unfold kH;grind
def Ms(h:aj s=true)(p x:aEZ):eM (adR s) p x↔eM (AK s (dOf s).length) p x:=by
 have hU1:∀e:aE0,e∈hU s s.holes.length↔e∈iV s:=λe=>by unfold hU iV;rw[ke,bg,bg,jf,cZ,cZ];simp only[EU]
 have dE:∀e:aE0,(e∈iV s\/swp e∈iV s)↔(e∈aa s\/swp e∈aa s):=λe=>by unfold iV;rw[EV,bg,bg,bg,bg,jf,jf,show swp (swp e)=e from rfl];grind
 have:=dE ⟨p,x⟩;unfold eM adR AK gU;rw[List.drop_length,yg,bg,bg,bg,bg,hU1,hU1,Od h];show(_\/_)\/(swp ⟨p,x⟩∈_\/_)↔(_\/_)\/(swp ⟨p,x⟩∈_\/_);grind
def aAJ(h:aj s=true){e:aE0}(he:HL s e):nxQ (adR s) e=nxK s (dOf s).length e:=by have S:=oJ h _ (bI _);have hne:∀q∈adR s,q.a≠q.b:=λq hq=>xO h (se (bI _) ((Ms h q.a q.b).1 (.inl hq)));unfold nxQ nxK;refine(MU S e.b).KR (λx=>by rw[uQ h (bI _),pY h (bI _) S]) (λx=>by rw[Kv hne,Ms h,pY h (bI _) S]) ?_;exact(pY h (bI _) S _ _).1 (xe h (bI _) he).symm
def We{F:List (List aEZ)}(Fc:aFa (nxK s (dOf s).length) (HL s) F){e:aE0}(he:HL s e):HL s ⟨e.b,nxK s (dOf s).length e⟩:=by
 obtain⟨r,hr,hm⟩:=cZ.1 ((Fc.all e).2 he);have hb:e.b∈(cyc r).map aE0.a:=by rw[sQ];exact tH hm
 obtain⟨f,hf,ef⟩:=bZ.1 hb;have:=Fc.next r hr e hm f hf ef.symm;rw[this,<-ef];exact(Fc.all _).1 (cZ.2 ⟨r,hr,hf⟩)
def fuR(s:Shape):Nat:=(hsR s).length+trU (vOf s)
def Lt(h:aj s=true){F:List (List aEZ)}(Fc:aFa (nxK s (dOf s).length) (HL s) F):∀k,k<=(hsR s).length->
  Mk (hsR s) (pcB (hsR s) (adR s) k).1 (lr (nxK s (dOf s).length) (fuR s) gC ((hsR s).take k) ([],[])).1/\(pcB (hsR s) (adR s) k).2=kq (lr (nxK s (dOf s).length) (fuR s) gC ((hsR s).take k) ([],[])).2
 |0,_=>by
  refine⟨⟨rZ,λm hm=> ?_⟩,rfl⟩;have e:iQ (pcB (hsR s) (adR s) 0).1 m=false:=by show iQ (cS (hsR s).length false) m=false;unfold iQ;rw[du,List.getElem?_replicate];split<;>rfl
  rw[e];exact⟨λg=>absurd g (by decide),λg=>(cn g).elim⟩
 |k+1,hk=>by
  obtain⟨M,e2⟩:=Lt h Fc k (by omega);have hkl:k<(hsR s).length:=by omega
  have c:(pcB (hsR s) (adR s) k).1.count false<=(pcB (hsR s) (adR s) k).1.length:=List.count_le_length;have mo:=LO (A:=adR s) (fuR s) _ k [] M.1 hkl (by unfold fuR;have:=M.1;omega);obtain⟨s1,s2⟩:=M3 (A:=adR s) (WW h) (λe he=>aAJ h ((xU h).1 he)) (λe he=>(xU h).2 (We Fc ((xU h).1 he))) (fuR s) _ _ k [] M hkl;rw[mo]at s1 s2;rw[eZ hkl]at s1 s2;rw[xD,iR hkl,DM,s1];refine⟨s2,?_⟩;dsimp only;split
  .rw[e2,Ue];rfl
  .exact e2
def Xu(h:aj s=true){F:List (List aEZ)}(Fc:aFa (nxK s (dOf s).length) (HL s) F):∃O:List aH,(pcB (hsR s) (adR s) (hsR s).length).2=kq O/\O.Perm (F.map gC):=by
 have hf:∀r∈F,r.length<=fuR s:=λr hr=>by have:=AH h Fc r hr;unfold fuR;omega
 have g:=zt Fc hf (Kq Fc) (hsR s) ([],[]) [] F (λe he=>(xU h).1 he) (.refl _) (λe=>by simp) (.refl _) λr hr e he=>(xU h).2 ((Fc.all e).1 (cZ.2 ⟨r,hr,he⟩));have e:=(Lt h Fc (hsR s).length (bI _)).2;grind
end
end
def Uf{l m:List aH}(h:l.Perm m):kq l=kq m:=
 Io ((zS l).trans h) (Ia l [] tT)
def U2(s:Shape):pcG s=pcT s:=by
 unfold pcG pcT;rw[ii];by_cases h:aj s=true
 .rw[if_pos h,if_pos (by unfold eOf;rw[if_pos h])];obtain⟨F,Fc⟩:=(oJ h _ (bI _)).face;obtain⟨O,e,p⟩:=Xu h Fc;rw[e];exact Uf ((Xt h Fc).trans p.symm)
 .rw[if_neg h,if_neg (by unfold eOf;grind)]
def aBN(s:Shape):Hx s:=⟨λh=>by rw[ii]at h;exact⟨gok h,sok h,aBM h⟩,U2 s,WQ s,U1 s⟩
end Go.Proofs.YtdaeofhdgabhjaaGreat
