/- Part 6 of what the statement stands on -/
import Derived.Test.YtdnhebjljnfjaaaGreatOO5
set_option linter.all false
set_option maxRecDepth 100000
set_option maxHeartbeats 8000000
open Go.Proofs.Tryz renaming prog->aH
open List renaming mem_cons->bh,not_mem_nil->dg,length_append->dh,getD_eq_getElem?_getD->bq,length_set->fA,getElem?_set->gZ,mem_append->eK,mem_singleton->bM,mem_cons_self->eG,length_singleton->eD,length_nil->iI,mem_iff_getElem->ki,getElem_mem->eR,getElem?_eq_none->eQ,mem_map->cF,mem_range->dY,mem_cons_of_mem->dK,Nodup->oZ,pairwise_map->qE,getElem?_eq_getElem->dA,length_drop->mh,length_take->ew,getElem?_append_right->iU,getElem?_append_left->iL,any_eq_true->li,drop->bT,take->ai,set->cR
open Bool renaming and_eq_true->cD,false_and->ll
open Nat renaming le_refl->az,zero_le->cO,mod_lt->eO
open Int renaming mul_pos->mv,mul_zero->lW,mul_eq_zero->mY
open Decidable renaming not_not->mr
open Go.RowKit
open Go.Proofs.YtdnhebjljnfjaaaGreat.Geo
open Go.Proofs.YtdnhebjljnfjaaaGreat.Geo renaming S->aDc,V->aDb,cross->aDe,sub->aDd
namespace Go.Proofs.YtdnhebjljnfjaaaGreat
noncomputable section
def awX:Cx:=cxW xi
def J2:awX.Ok:=lI (λf c h=>by cases h)
abbrev awG(l:List (Nat×EC)):eJ:=xg awX (xF l) (xO aH) 100 9
def awR(l:List (Nat×EC))(f:Nat)(a:List SV):Option SV:=ub awX (awG l) (xO aH) 100 f a
def ro(l:List (Nat×EC)):Prop:=∀q∈l,q.2.c.Ok aH q.1
def ro.cons{l:List (Nat×EC)}{f:Nat}{e:EC}(h:e.c.Ok aH f)(hl:ro l):ro ((f,e)::l):=λq hq=>by
 rcases bh.1 hq with rfl|hq
 .exact h
 .exact hl q hq
def lN{l:List (Nat×EC)}(hl:ro l){f:Nat}{α:Type}{A:Arl α}(x0:α){t:α->Bool}{v:SV}(ht:∀x,t x=true->x=x0)(hv:isP v=true)(h:awR l f (A.enc x0)=some v):(EC.at A.dec t false v).c.Ok aH f:=
 ZB J2 (HF J2 (Fr hl) (GN _) 9) (GN _) x0 ht hv h
def awQ(n d:Int):SV:= .agg [.int .i64 n,.int .i64 d]
def awK(v:SV):SV:= .tup [v,.int .i64 0]
def NA:EC:=EC.at (a1 aPl).dec (λp=>decide (p=awP)) false (.lit true)
def XN:NA.c.Ok aH 70:=lN (l:=[]) (λq hq=>by cases hq) awP (λx h=>of_decide_eq_true h) rfl (by kernel_rfl)
def yC:Arl (Int×Int×Unit):=ac aI (ac aI a0)
def uk(a b:Int)(x:Int×Int×Unit):Bool:=decide (x.1=a)&&decide (x.2.1=b)
def BB{a b:Int}(x:Int×Int×Unit)(h:uk a b x=true):x=(a,b,()):=by obtain⟨c,d,u⟩:=x;unfold uk at h;simp only[cD,decide_eq_true_eq]at h;obtain⟨rfl,rfl⟩:=h;rfl
def aA7:awR [] 142 (yC.enc (0,2,()))=some (awK (awQ 0 1)):=by kernel_rfl
def aA6:awR [] 142 (yC.enc (-4,-2,()))=some (awK (awQ 2 1)):=by kernel_rfl
def aA5:awR [] 142 (yC.enc (0,-2,()))=some (awK (awQ 0 1)):=by kernel_rfl
def J4:EC:=EC.pts yC.dec [(uk 0 2,awK (awQ 0 1)),(uk (-4) (-2),awK (awQ 2 1)),(uk 0 (-2),awK (awQ 0 1))]
def Vi:J4.c.Ok aH 142:=ZD λq hq=>by
 simp only[bh,dg,or_false]at hq;rcases hq with rfl|rfl|rfl
 .exact lN (l:=[]) (λq hq=>by cases hq) (0,2,()) BB rfl aA7
 .exact lN (l:=[]) (λq hq=>by cases hq) (-4,-2,()) BB rfl aA6
 .exact lN (l:=[]) (λq hq=>by cases hq) (0,-2,()) BB rfl aA5
def NC:EC:=EC.at (a1 (aL .V)).dec (λl=>decide (l=[⟨0,1⟩,⟨0,1⟩,⟨2,1⟩,⟨0,1⟩,⟨0,1⟩,⟨0,1⟩])) false (awK (awQ 2 1))
def XP:NC.c.Ok aH 28:=lN (l:=[]) (λq hq=>by cases hq) [⟨0,1⟩,⟨0,1⟩,⟨2,1⟩,⟨0,1⟩,⟨0,1⟩,⟨0,1⟩] (λx h=>of_decide_eq_true h) rfl (by kernel_rfl)
def awB:List (Nat×EC):=[(70,NA),(142,J4),(28,NC),(92,M9),(97,M8),(163,J3)]
def xA:ro awB:= .cons XN (.cons Vi (.cons XP (.cons XM (.cons XL (.cons Vh λq hq=>by cases hq)))))
def RX:Arl (Pl×Int×Unit):=ac aPl (ac aI a0)
def yA(n:Int)(x:Pl×Int×Unit):Bool:=decide (x.1=awP)&&decide (x.2.1=n)
def Ib{n:Int}(x:Pl×Int×Unit)(h:yA n x=true):x=(awP,n,()):=by obtain⟨c,d,u⟩:=x;unfold yA at h;simp only[cD,decide_eq_true_eq]at h;obtain⟨rfl,rfl⟩:=h;rfl
def ND:EC:=EC.at RX.dec (yA 1) false (awK (awQ 2 1))
def XQ:ND.c.Ok aH 27:=lN xA (awP,1,()) Ib rfl (by kernel_rfl)
def NB:EC:=EC.at RX.dec (yA 1) false (awK (.agg [.lst .V awS.outer,.sl 0 []]))
def XO:NB.c.Ok aH 30:=lN xA (awP,1,()) Ib rfl (by kernel_rfl)
def aC3:Arl (Pl×V×Unit):=ac aPl (ac aV a0)
def NE:EC:=EC.at aC3.dec (λx=>decide (x.1=awP)&&decide (x.2.1=⟨1,1⟩)) false (.tup [.int .i64 1,.int .i64 2])
def XR:NE.c.Ok aH 22:=lN xA (awP,⟨1,1⟩,()) (λx h=>by obtain⟨c,d,u⟩:=x;simp only[cD,decide_eq_true_eq]at h;obtain⟨rfl,rfl⟩:=h;rfl) rfl (by kernel_rfl)
def aC4:Arl (Pl×Pl×Unit):=ac aPl (ac aPl a0)
def NF:EC:=EC.at aC4.dec (λx=>decide (x.1=awP)&&decide (x.2.1=awP)) false (.lit true)
def XS:NF.c.Ok aH 17:=lN xA (awP,awP,()) (λx h=>by obtain⟨c,d,u⟩:=x;simp only[cD,decide_eq_true_eq]at h;obtain⟨rfl,rfl⟩:=h;rfl) rfl (by kernel_rfl)
def awC:List (Nat×EC):=[(13,NG),(27,ND),(30,NB),(22,NE),(17,NF)]
def Zv:ro awC:= .cons XT (.cons XQ (.cons XO (.cons XR (.cons XS λq hq=>by cases hq))))
def aC5:awR awC 11 [] =some (.lit true):=by kernel_rfl
def RI:Con:=con a0 (λ_=>[]) (λ_=> .bool true)
def aCO:RI.Ok aH 11:=by
 intro xs u hd _;have e:=lN Zv (f:=11) (A:=a0) () (t:=λ_=>true) (λ_ _=>rfl) rfl aC5 xs () (by have:a0.dec xs=some u:=hd;unfold EC.at;dsimp only;rw[this]) (λp hp=>(dg hp).elim)
 exact e
end
def gY(p:Pl)(j:Nat):Bool:=inP p (aO (cyP p aC) j) (lvP p aC)
def niC(p:Pl):Nat->Nat
 |0=>0
 |k+1=>if gY p k=true then niC p k else niC p k+1
def bgF(p:Pl):Nat->List (List (List Int))
 |0=>[[]]
 |k+1=>if gY p k=true then bgF p k else bgF p k++[[aO (cyP p aC) k]]
def nY(p:Pl):∀k,(bgF p k).length=niC p k+1
 |0=>rfl
 |k+1=>by
  unfold bgF niC;split
  .exact nY p k
  .rw[dh,nY p k];rfl
def Wa(p:Pl){j k:Nat}(h:j<=k):niC p j<=niC p k:=by
 induction k with
 |zero=>have:j=0:=by omega
        subst this;exact az _
 |succ k ih=>
  by_cases e:j=k+1
  .subst e;exact az _
  .have:=ih (by omega);show _<=(if gY p k=true then niC p k else niC p k+1);split<;>omega
def JS(p:Pl){j k:Nat}(h:j<k)(hj:gY p j=false):niC p j<niC p k:=by
 have h1:=Wa p (show j+1<=k by omega);have h2:niC p (j+1)=niC p j+1:=by show(if gY p j=true then _ else _)=_;rw[hj];rfl
 omega
def zu{l r:List (List (List Int))}{i:Nat}:bl (l++r) i=if i<l.length then bl l i else bl r (i-l.length):=by unfold bl;rw[bq,bq,bq,List.getElem?_append];split<;>rfl
def J1(p:Pl):∀k j,j<k->gY p j=false->bl (bgF p k) (niC p j+1)=[aO (cyP p aC) j]
 |0,j,h,_=>by omega
 |k+1,j,h,hj=>by
  unfold bgF;by_cases e:j=k
  .subst e;rw[hj,if_neg (by decide),zu,nY,if_neg (by omega)];rw[show niC p j+1-(niC p j+1)=0 by omega];rfl
  .have ih:=J1 p k j (by omega) hj;split
   .exact ih
   .rw[zu,nY,if_pos (by have:=JS p (show j<k by omega) hj;omega)];exact ih
def qe(p:Pl):∀k,k<=nC p->(ph1 p k).2.2=bgF p k/\∀j,j<k->aM (ph1 p k).1 j=if gY p j=true then-1 else((niC p j+1:Nat):Int)
 |0,_=>⟨rfl,λj h=>by omega⟩
 |k+1,hk=>by
  obtain⟨h1,h2⟩:=qe p k (by omega);have hl:=(nK p k).1;unfold ph1 bgF;by_cases e:gY p k=true
  .rw[if_pos e,if_pos (show inP p _ _=true from e)];refine⟨h1,λj hj=> ?_⟩;dsimp only;rw[fQ];by_cases ej:j=k
   .subst ej;rw[if_pos ⟨rfl,by omega⟩,if_pos e]
   .rw[if_neg (λh=>ej h.1.symm)];exact h2 j (by omega)
  .rw[if_neg e,if_neg (show¬inP p _ _=true from e)];refine⟨by dsimp only;rw[h1],λj hj=> ?_⟩;dsimp only;rw[fQ];by_cases ej:j=k
   .subst ej;rw[if_pos ⟨rfl,by rw[fA];omega⟩,if_neg e,h1,nY]
   .rw[if_neg (λh=>ej h.1.symm),fQ,if_neg (λh=>ej h.1.symm)];exact h2 j (by omega)
def WX{L:List (List (List Int))}{i j:Nat}{v:List (List Int)}(h:i<L.length):bl (L.set i v) j=if i=j then v else bl L j:=by
 unfold bl;rw[bq,bq,gZ];by_cases e:i=j
 .rw[if_pos e,if_pos h,if_pos e];rfl
 .rw[if_neg e,if_neg e]
def fcC(p:Pl)(k:Nat):Int:=aM (ph2 p (nC p)).1 k
def inF(p:Pl)(i:Nat):Nat->List (List Int)
 |0=>[]
 |k+1=>if gY p k=true/\fcC p k=i then inF p i k++[aO (cyP p aC) k]else inF p i k
def Zf{p:Pl}{o fa c:List Int}{k j:Nat}(h:j≠k):aM (fdP p o fa c k) j=aM fa j:=by
 unfold fdP;split
 .split
  .rw[fQ,if_neg (λe=>h e.1.symm),fQ,if_neg (λe=>h e.1.symm)]
  .rw[fQ,if_neg (λe=>h e.1.symm)]
 .rfl
def wq(p:Pl)(k:Nat):(ph2 p (k+1)).1=fdP p (ph1 p (nC p)).2.1 (ph2 p k).1 (aO (cyP p aC) k) k:=by show(if _ then _ else _:PhB).1=_;split<;>rfl
def GF(p:Pl){j k:Nat}(h:j<k):∀n,aM (ph2 p (k+n)).1 j=aM (ph2 p k).1 j
 |0=>rfl
 |n+1=>by
  rw[<-Nat.add_assoc,wq,Zf (by omega)];exact GF p h n
def w7(p:Pl){j k:Nat}(h:j<k)(hk:k<=nC p):aM (ph2 p k).1 j=fcC p j:=by have:=GF p h (nC p-k);rw[show k+(nC p-k)=nC p by omega]at this;exact this.symm
section
variable {l:List aDc} (B:BdOk l)
include B
theorem Ba{k:Nat}(hk:k<nC (aA l))(h:gY (aA l) k=false):fcC (aA l) k=((niC (aA l) k+1:Nat):Int):=by
 have I:=pH B k (by omega);have h1:=(qe (aA l) (nC (aA l)) (az _)).2 k hk;rw[h,if_neg (by decide)]at h1;have h2:aM (ph2 (aA l) k).1 k=((niC (aA l) k+1:Nat):Int):=by rw[I.v2 k (az _),h1]
 rw[<-w7 (aA l) (show k<k+1 by omega) (by omega),wq];unfold fdP;rw[if_neg (by omega)];exact h2
theorem Zg{k:Nat}(hk:k<nC (aA l))(h:gY (aA l) k=true):aM (ph2 (aA l) k).1 k= -1/\
  fcC (aA l) k=if 0<=bwQ (aA l) (aO (cyP (aA l) aC) k)then fcC (aA l) (aM (ph1 (aA l) (nC (aA l))).2.1 (bwQ (aA l) (aO (cyP (aA l) aC) k)).toNat).toNat else 0:=by
 have I:=pH B k (by omega);have h1:=(qe (aA l) (nC (aA l)) (az _)).2 k hk;rw[h,if_pos rfl]at h1;have h2:aM (ph2 (aA l) k).1 k= -1:=by rw[I.v2 k (az _),h1]
 have hl:k<(ph2 (aA l) k).1.length:=by rw[I.l1];exact hk
 refine⟨h2,?_⟩;rw[<-w7 (aA l) (show k<k+1 by omega) (by omega),wq];unfold fdP;rw[if_pos (by omega)];by_cases hb:0<=bwQ (aA l) (aO (cyP (aA l) aC) k)
 .rw[if_pos hb,if_pos hb];have S:=zq B hk I (by omega) hb;have hbel:=B.bel k hk h hb;have hj:=S.j;rw[fQ,if_pos ⟨rfl,by rw[fA];exact hl⟩,fQ,if_neg (λe=>by omega)];exact w7 (aA l) (by omega) (by omega)
 .rw[if_neg hb,if_neg hb,fQ,if_pos ⟨rfl,hl⟩]
theorem Mb{k:Nat}(hk:k<nC (aA l)):0<=fcC (aA l) k/\fcC (aA l) k<niC (aA l) (nC (aA l))+1:=by have I:=pH B (nC (aA l)) (az _);have:=I.v1 k hk;rw[(qe (aA l) (nC (aA l)) (az _)).1,nY]at this;exact this
theorem vi:∀k,k<=nC (aA l)->(ph2 (aA l) k).2.length=niC (aA l) (nC (aA l))+1/\∀i,bl (ph2 (aA l) k).2 i=bl (bgF (aA l) (nC (aA l))) i++inF (aA l) i k
 |0,_=>by
  have e:(ph2 (aA l) 0).2=bgF (aA l) (nC (aA l)):=(qe (aA l) (nC (aA l)) (az _)).1;rw[e];exact⟨nY _ _,λi=>by show _=_++[];rw[List.append_nil]⟩
 |k+1,hk=>by
  obtain⟨h1,h2⟩:=vi k (by omega);have hfin:=Mb B (k:=k) (by omega);have efa:=wq (aA l) k;have efk:=w7 (aA l) (show k<k+1 by omega) hk;rw[efa]at efk;by_cases hi:gY (aA l) k=true
  .obtain⟨n1,n2⟩:=Zg B (k:=k) (by omega) hi;have ho:ouP (ph2 (aA l) k).1 (ph2 (aA l) k).2 (aO (cyP (aA l) aC) k) k=false:=by unfold ouP;rw[n1];rfl
   have e2:(ph2 (aA l) (k+1)).2=(ph2 (aA l) k).2.set (fcC (aA l) k).toNat (bl (ph2 (aA l) k).2 (fcC (aA l) k).toNat++[aO (cyP (aA l) aC) k]):=by show(if _ then _ else _:PhB).2=_;rw[ho,if_neg (by decide)];dsimp only;rw[show fdP (aA l) (ph1 (aA l) (cyP (aA l) aC).length).2.1 (ph2 (aA l) k).1 (aO (cyP (aA l) aC) k) k=fdP (aA l) (ph1 (aA l) (nC (aA l))).2.1 (ph2 (aA l) k).1 (aO (cyP (aA l) aC) k) k from rfl,efk]
   rw[e2];refine⟨by rw[fA];exact h1,λi=> ?_⟩;rw[WX (by omega)];unfold inF;by_cases e:(fcC (aA l) k).toNat=i
   .rw[if_pos e,if_pos ⟨hi,by omega⟩,e,h2,List.append_assoc]
   .rw[if_neg e,if_neg (λh=>e (by omega)),h2]
  .have hi:gY (aA l) k=false:=by cases h:gY (aA l) k<;>simp_all
   have hf:=Ba B (k:=k) (by omega) hi;have I:=pH B k (by omega);have g1:=(qe (aA l) (nC (aA l)) (az _)).2 k (by omega);rw[hi,if_neg (by decide)]at g1;have g2:aM (ph2 (aA l) k).1 k=((niC (aA l) k+1:Nat):Int):=by rw[I.v2 k (az _),g1]
   have hb:=J1 (aA l) (nC (aA l)) k (by omega) hi;have ho:ouP (ph2 (aA l) k).1 (ph2 (aA l) k).2 (aO (cyP (aA l) aC) k) k=true:=by unfold ouP;rw[g2,Int.toNat_natCast,h2,hb];have:aO ([aO (cyP (aA l) aC) k] ++inF (aA l) (niC (aA l) k+1) k) 0=aO (cyP (aA l) aC) k:=rfl;rw[this];simp
   have e2:(ph2 (aA l) (k+1)).2=(ph2 (aA l) k).2:=by show(if _ then _ else _:PhB).2=_;rw[ho,if_pos rfl]
   rw[e2];refine⟨h1,λi=> ?_⟩;unfold inF;rw[hi,if_neg (λh=>by cases h.1)];exact h2 i
end
def wo(p:Pl)(o fa:List Int){k:Nat}(hk:k<p.es.length):∀e,aP (ph3 p o fa e) k=if k<e then{aP p.es k with lf:=aM fa (aM o (2*k)).toNat,rt:=aM fa (aM o (2*k+1)).toNat}else aP p.es k
 |0=>by rw[if_neg (by omega)];rfl
 |e+1=>by
  have ih:=wo p o fa hk e;have hl:=pG p o fa e;have e1:aP (ph3 p o fa (e+1)) k=if e=k then{aP (ph3 p o fa e) e with lf:=aM fa (aM o (2*e)).toNat,rt:=aM fa (aM o (2*e+1)).toNat}else aP (ph3 p o fa e) k:=by
   show aP ((ph3 p o fa e).set e _) k=_;unfold aP;rw[bq,gZ];by_cases h:e=k
   .rw[if_pos h,if_pos (by omega),if_pos h];rfl
   .rw[if_neg h,if_neg h,bq]
  rw[e1];by_cases h:e=k
  .subst h;rw[if_pos rfl,if_pos (by omega),ih,if_neg (by omega)]
  .rw[if_neg h,ih];by_cases h2:k<e
   .rw[if_pos h2,if_pos (by omega)]
   .rw[if_neg h2,if_neg (by omega)]
def cyN(p:Pl)(h:Int):Nat:=(aM (ph1 p (nC p)).2.1 h.toNat).toNat
section
variable {l:List S} (B:BdOk l)
include B
theorem Zm{h:Int}{j:Nat}(hj:j<nC (aA l))(hh:h∈aO (cyP (aA l) aC) j):cyN (aA l) h=j:=by have:=CJ B.pl B.ord (nC (aA l)) (az _) j hj h hh;unfold cyN;omega
theorem Zl{h:Int}(hh:HIn (aA l) h):cyN (aA l) h<nC (aA l)/\h∈aO (cyP (aA l) aC) (cyN (aA l) h):=by obtain⟨j,hj,hm⟩:=MP B.pl B.ord hh;rw[Zm B hj hm];exact⟨hj,hm⟩
def fcH(p:Pl)(h:Int):Int:=fcC p (cyN p h)
omit B in
theorem Be{k:Nat}(hk:k<(esP l).length):aP (dR (aA l)).es k={aP (esP l) k with lf:=fcH (aA l) (2*k:Nat),rt:=fcH (aA l) (2*k+1:Nat)}:=by have h:=wo (aA l) (ph1 (aA l) (nC (aA l))).2.1 (ph2 (aA l) (nC (aA l))).1 (k:=k) hk (aA l).es.length;rw[if_pos (show k<(aA l).es.length from hk)]at h;exact h
theorem H6:(dR (aA l)).es.length=(esP l).length/\(dR (aA l)).vs=vsP l/\(dR (aA l)).sg=l/\(dR (aA l)).fs.length=niC (aA l) (nC (aA l))+1:=
 ⟨pG _ _ _ _,rfl,rfl,(vi B (nC (aA l)) (az _)).1⟩
omit B in
theorem IC{i:Nat}{c:List Int}:∀{k},k<=nC (aA l)->(c∈inF (aA l) i k↔∃j,j<k/\gY (aA l) j=true/\fcC (aA l) j=i/\c=aO (cyP (aA l) aC) j)
 |0,_=>by unfold inF;simp
 |k+1,hk=>by
  have ih:=IC (i:=i) (c:=c) (k:=k) (by omega);unfold inF;split
  .rename_i h;rw[eK,ih,bM];constructor
   .rintro(⟨j,h1,h2⟩|rfl)
    .exact⟨j,by omega,h2⟩
    .exact⟨k,by omega,h.1,h.2,rfl⟩
   .rintro⟨j,h1,h2,h3,h4⟩;by_cases e:j=k
    .subst e;exact .inr h4
    .exact .inl ⟨j,by omega,h2,h3,h4⟩
  .rename_i h;rw[ih];constructor
   .rintro⟨j,h1,h2⟩;exact⟨j,by omega,h2⟩
   .rintro⟨j,h1,h2,h3,h4⟩;by_cases e:j=k
    .subst e;exact absurd ⟨h2,h3⟩ h
    .exact⟨j,by omega,h2,h3,h4⟩
omit B in
theorem Ia{i:Nat}{c:List Int}:∀{k},k<=nC (aA l)->(c∈bl (bgF (aA l) k) i↔∃j,j<k/\gY (aA l) j=false/\niC (aA l) j+1=i/\c=aO (cyP (aA l) aC) j)
 |0,_=>by
  constructor
  .intro h;exfalso;unfold bgF bl at h;rw[bq]at h;rcases i with _|i
   .cases h
   .simp at h
  .rintro⟨j,h,_⟩;omega
 |k+1,hk=>by
  have ih:=Ia (i:=i) (c:=c) (k:=k) (by omega);unfold bgF;split
  .rename_i h;rw[ih];constructor
   .rintro⟨j,h1,h2⟩;exact⟨j,by omega,h2⟩
   .rintro⟨j,h1,h2,h3⟩;by_cases e:j=k
    .subst e;rw[h]at h2;cases h2
    .exact⟨j,by omega,h2,h3⟩
  .rename_i h;have h:gY (aA l) k=false:=by cases h2:gY (aA l) k<;>simp_all
   rw[zu,nY];split
   .rename_i hi;rw[ih];constructor
    .rintro⟨j,h1,h2⟩;exact⟨j,by omega,h2⟩
    .rintro⟨j,h1,h2,h3⟩;by_cases e:j=k
     .subst e;omega
     .exact⟨j,by omega,h2,h3⟩
   .rename_i hi;constructor
    .intro hc;have h0:i-(niC (aA l) k+1)=0:=by
      rcases h0:i-(niC (aA l) k+1)with _|n
      .rfl
      .rw[h0]at hc;unfold bl at hc;rw[bq]at hc;simp at hc
     rw[h0]at hc;exact⟨k,by omega,h,by omega,bM.1 hc⟩
    .rintro⟨j,h1,h2,h3,rfl⟩;by_cases e:j=k
     .subst e;rw[show i-(niC (aA l) j+1)=0 by omega];exact eG
     .have:=JS (aA l) (show j<k by omega) h2;omega
theorem Ww{i:Nat}{c:List Int}:c∈bl (dR (aA l)).fs i↔∃j,j<nC (aA l)/\fcC (aA l) j=i/\c=aO (cyP (aA l) aC) j:=by
 have e:bl (dR (aA l)).fs i=_:=(vi B (nC (aA l)) (az _)).2 i;rw[e,eK,Ia (az _),IC (az _)];constructor
 .rintro(⟨j,h1,h2,h3,h4⟩|⟨j,h1,h2,h3,h4⟩)
  .exact⟨j,h1,by rw[Ba B h1 h2,h3],h4⟩
  .exact⟨j,h1,h3,h4⟩
 .rintro⟨j,h1,h2,h3⟩;cases hi:gY (aA l) j with
  |true=>exact .inr ⟨j,h1,hi,h2,h3⟩
  |false=>exact .inl ⟨j,h1,hi,by have:=Ba B h1 hi;omega,h3⟩
end
def rs(n:Nat)(f:Nat->Nat):Nat:=((List.range n).map f).sum
def cf(h:Int)(f:List (List Int)):Nat:=(f.map (List.count h)).sum
def JT(p:Pl):∀k,niC p k<=k
 |0=>az _
 |k+1=>by
  have:=JT p k;unfold niC;split<;>omega
def ID(p:Pl)(i:Nat):∀k,(inF p i k).length<=k
 |0=>az _
 |k+1=>by
  have:=ID p i k;unfold inF;split
  .rw[dh,eD];omega
  .omega
def Bp(p:Pl):∀k,∀f∈bgF p k,f.length<=1
 |0,f,h=>by rw[bM.1 h];exact cO _
 |k+1,f,h=>by
  unfold bgF at h;split at h
  .exact Bp p k f h
  .rcases eK.1 h with h|h
   .exact Bp p k f h
   .rw[bM.1 h];exact az _
def Fs(l:List S)(a b:Nat):∀k,(eA l a b k).length<=k
 |0=>az _
 |k+1=>by
  have:=Fs l a b k;unfold eA;rw[dh];split
  .rw[eD];omega
  .rw[iI];omega
section
variable {l:List S} (B:BdOk l)
include B
theorem Hf(H:Sgs l):PlS (dR (aA l)):=by
 obtain⟨e1,e2,e3,e4⟩:=H6 B;have P:=B.pl;have hle:=P.le;have hes:(aA l).es.length=(esP l).length:=rfl;have he:∀e∈(dR (aA l)).es,∃k,k<(esP l).length/\e={aP (esP l) k with lf:=fcH (aA l) (2*k:Nat),rt:=fcH (aA l) (2*k+1:Nat)}/\aP (esP l) k∈(aA l).es:=λe hm=>by
  obtain⟨k,hk,rfl⟩:=ki.1 hm;rw[e1]at hk;refine⟨k,hk,?_,?_⟩
  .rw[<-Be hk,show aP (dR (aA l)).es k=_ from cS (by rw[e1];exact hk)]
  .rw[show aP (esP l) k=(esP l)[k]from cS hk];exact eR hk
 have hn:niC (aA l) (nC (aA l))<=nC (aA l):=JT _ _;have hcy:=rY P;have hc:nC (aA l)<=800000:=Nat.le_trans hcy.1 (by omega);have hf:∀h,HIn (aA l) h->0<=fcH (aA l) h/\fcH (aA l) h<(dR (aA l)).fs.length:=λh hh=>by have:=Mb B (Zl B hh).1;rw[e4];exact this
 refine⟨⟨P.ls,P.lv,by rw[e1];exact hle,λe hm=> ?_,λe hm=> ?_,P.bd,P.pt⟩,⟨λe hm=> ?_,by rw[e4];omega,λf hm=> ?_⟩⟩
 .obtain⟨k,hk,rfl,h2⟩:=he e hm;exact P.fr (aP (esP l) k) h2
 .obtain⟨k,hk,rfl,h2⟩:=he e hm;exact P.src (aP (esP l) k) h2
 .obtain⟨k,hk,rfl,h2⟩:=he e hm;have f1:=hf (2*k:Nat) ⟨by omega,by omega⟩;have f2:=hf (2*k+1:Nat) ⟨by omega,by omega⟩;refine⟨f1.1,f1.2,f2.1,f2.2,?_⟩;obtain⟨a,b,_,e5⟩:=(qj H).1 h2;show(aP (esP l) k).src.length<=1000000;rw[e5];have h5:=Fs l a b l.length;have h6:=B.len;show(eA l a b l.length).length<=1000000;omega
 .obtain⟨i,hi,rfl⟩:=ki.1 hm;rw[<-show bl (dR (aA l)).fs i=(dR (aA l)).fs[i]from cS hi];refine⟨?_,λc hc=> ?_⟩
  .rw[show bl (dR (aA l)).fs i=_ from(vi B (nC (aA l)) (az _)).2 i,dh];have h1:=ID (aA l) i (nC (aA l));have h2:(bl (bgF (aA l) (nC (aA l))) i).length<=1:=by
    by_cases hi2:i<(bgF (aA l) (nC (aA l))).length
    .rw[show bl (bgF (aA l) (nC (aA l))) i=(bgF (aA l) (nC (aA l)))[i]from cS hi2];exact Bp _ _ _ (eR hi2)
    .unfold bl;rw[bq,eQ (by omega)];exact cO _
   omega
  obtain⟨j,h1,_,rfl⟩:=(Ww B).1 hc;have C:=((qz B.pl B.ord).cyc _ (pp B.pl B.ord h1)).1;refine⟨by have:=(hcy.2 _ (pp P B.ord h1)).2.1;omega,λh hh=> ?_⟩;have:=(C.mem h hh).1;exact⟨this.1,by have:=this.2;rw[e1];omega⟩
end
def Hj{a b t:Rat}(h0:0<=t)(h1:t<=1):(a<=b->a<=a+t*(b-a)/\a+t*(b-a)<=b)/\(b<=a->b<=a+t*(b-a)/\a+t*(b-a)<=a):=by
 have k:∀{x y:Rat},0<=x->0<=y->0<=x*y:=λhx hy=>Rat.mul_nonneg hx hy;constructor
 .intro h;have e1:=k h0 (show 0<=b-a by grind);have e2:=k (show 0<=1-t by grind) (show 0<=b-a by grind);constructor<;>grind
 .intro h;have e1:=k h0 (show 0<=a-b by grind);have e2:=k (show 0<=1-t by grind) (show 0<=a-b by grind);constructor<;>grind
def VB{s:S}{v:V}:fE s v=true↔((s.a.x<=v.x/\v.x<=s.b.x)\/(s.b.x<=v.x/\v.x<=s.a.x))/\((s.a.y<=v.y/\v.y<=s.b.y)\/(s.b.y<=v.y/\v.y<=s.a.y)):=by unfold fE;simp only[cD,decide_eq_true_eq];omega
def gh{s:S}(h:SgOk s){v:V}:onS s v=true↔onG s (rv v):=by
 unfold onS;rw[sf h,Bool.true_and,cD,VB,beq_iff_eq,AZ];have cx:∀a b:Int,a<=b↔(a:Rat)<=b:=λa b=>by exact_mod_cast Iff.rfl
 constructor
 .rintro⟨⟨hx,hy⟩,hc⟩;rw[iz h.ne];refine⟨(ku s _).2 hc,?_⟩;have hl:=xR h.ne;have hc2:=(ku s (rv v)).2 hc;rw[cx,cx,cx,cx]at hx hy;have ex:((rv s.a).x=(s.a.x:Rat)/\(rv s.a).y=(s.a.y:Rat))/\((rv s.b).x=(s.b.x:Rat)/\(rv s.b).y=(s.b.y:Rat))/\(rv v).x=(v.x:Rat)/\(rv v).y=(v.y:Rat):=⟨⟨rfl,rfl⟩,⟨rfl,rfl⟩,rfl,rfl⟩;generalize (s.a.x:Rat)=ax at*;generalize (s.a.y:Rat)=ay at*;generalize (s.b.x:Rat)=bx at*;generalize (s.b.y:Rat)=b_y at*;generalize (v.x:Rat)=vx at*;generalize (v.y:Rat)=vy at*;have key:∀p q c:Q2,ltQ p q->cr p q c=0->((p.x<=c.x/\c.x<=q.x)\/(q.x<=c.x/\c.x<=p.x))->p.y<=c.y/\c.y<=q.y->¬ltQ c p/\¬ltQ q c:=by
   intro p q c h1 h2 h3 h4;unfold ltQ cr at*;by_cases e:p.y=q.y
   .constructor<;>grind
   .constructor
    .rintro(h5|⟨h5,h6⟩)
     .grind
     .have:(q.y-p.y)*(c.x-p.x)=0:=by grind
      rcases Rat.mul_eq_zero.1 this with h7|h7<;>grind
    .rintro(h5|⟨h5,h6⟩)
     .grind
     .have:(q.y-p.y)*(c.x-q.x)=0:=by grind
      rcases Rat.mul_eq_zero.1 this with h7|h7<;>grind
  rcases AM s with⟨h1,h2⟩|⟨h1,h2⟩
  .rw[<-h1,<-h2]at hl hc2|-;have:(rv s.a).y<=(rv s.b).y:=by unfold ltQ at hl;grind
   exact key _ _ _ hl hc2 (by grind) (by grind)
  .rw[<-h1,<-h2]at hl hc2|-;have:(rv s.b).y<=(rv s.a).y:=by unfold ltQ at hl;grind
   exact key _ _ _ hl hc2 (by grind) (by grind)
 .rintro⟨t,h0,h1,h2,h3⟩;have bx:=Hj (a:=(s.a.x:Rat)) (b:=s.b.x) h0 h1;have b_y:=Hj (a:=(s.a.y:Rat)) (b:=s.b.y) h0 h1;have h2:(v.x:Rat)=s.a.x+t*(s.b.x-s.a.x):=h2;have h3:(v.y:Rat)=s.a.y+t*(s.b.y-s.a.y):=h3;refine⟨⟨?_,?_⟩,by unfold cr rv;dsimp only;grind⟩
  .rw[cx,cx,cx,cx,h2];have:(s.a.x:Rat)<=s.b.x\/(s.b.x:Rat)<=s.a.x:=by grind
   grind
  .rw[cx,cx,cx,cx,h3];have:(s.a.y:Rat)<=s.b.y\/(s.b.y:Rat)<=s.a.y:=by grind
   grind
section
variable {l:List S} (H:Sgs l)
include H
end
section
variable {l:List S} (H:Sgs l) (B:BdOk l) {v:V} (hv:bR v 4000=true)
include H
include B hv
end
def iH(u v:aDb):Prop:=∃s t:Int,0<s/\0<t/\s*u.x=t*v.x/\s*u.y=t*v.y
def Hs{s a:Int}(hs:0<s):(0<s*a↔0<a)/\(s*a<0↔a<0)/\(s*a=0↔a=0):=by
 refine⟨⟨λh=>Int.pos_of_mul_pos_right h (by omega),λh=>mv hs h⟩,⟨λh=> ?_,λh=>Int.mul_neg_of_pos_of_neg hs h⟩,⟨λh=> ?_,λh=>by rw[h,lW]⟩⟩
 .rcases Int.lt_trichotomy a 0 with h1|h1|h1
  .exact h1
  .rw[h1,lW]at h;omega
  .have:=mv hs h1;omega
 .rcases mY.1 h with h1|h1
  .omega
  .exact h1
def pF{s t a b:Int}(hs:0<s)(ht:0<t)(h:s*a=t*b):(0<a↔0<b)/\(a<0↔b<0)/\(a=0↔b=0):=by obtain⟨h1,h2,h3⟩:=Hs (a:=a) hs;obtain⟨k1,k2,k3⟩:=Hs (a:=b) ht;rw[h]at h1 h2 h3;exact⟨h1.symm.trans k1,h2.symm.trans k2,h3.symm.trans k3⟩
def iH.half{u v:aDb}(h:iH u v):dN u=dN v:=by
 obtain⟨s,t,hs,ht,hx,hy⟩:=h;have h1:=pF hs ht hx;have h2:=pF hs ht hy;unfold dN;by_cases e:0<u.y\/(u.y=0/\0<u.x)
 .rw[if_pos e,if_pos (by omega)]
 .rw[if_neg e,if_neg (by omega)]
def iH.cross{u u' v v':aDb}(h:iH u u')(k:iH v v'):(0<aDe u v↔0<aDe u' v')/\(aDe u v<0↔aDe u' v'<0)/\(aDe u v=0↔aDe u' v'=0):=by obtain⟨s,t,hs,ht,hx,hy⟩:=h;obtain⟨s',t',hs',ht',kx,ky⟩:=k;refine pF (s:=s*s') (t:=t*t') (mv hs hs') (mv ht ht') ?_;unfold aDe;grind
def KF(a b:aDb):bZ ⟨0,0⟩ a b=sgn (aDe a b):=by
 unfold bZ aDd aDe;dsimp only
 congr 1
 simp only[Int.sub_zero]
def Y7{a b:Int}(h1:0<a↔0<b)(h2:a<0↔b<0):sgn a=sgn b:=by unfold sgn;grind
def iH.ang{u u' v v':aDb}(h:iH u u')(k:iH v v'):bg u v=bg u' v':=by have c:=h.cross k;unfold bg;rw[h.half,k.half,KF,KF,Y7 c.1 c.2.1]
def iH.rfl{u:aDb}:iH u u:=⟨1,1,by decide,by decide,Eq.refl _,Eq.refl _⟩
def iH.neg{a b c d:aDb}(h:iH (aDd b a) (aDd d c)):iH (aDd a b) (aDd c d):=by obtain⟨s,t,hs,ht,hx,hy⟩:=h;unfold aDd at*;dsimp only at*;exact⟨s,t,hs,ht,by dsimp only;grind,by dsimp only;grind⟩
structure LnR(x y:aDb×aDb):Prop where
 d:iH (aDd x.2 x.1) (aDd y.2 y.1)
 l:aDe (aDd y.1 x.1) (aDd x.2 x.1)=0
structure PlR(p p':Pl):Prop where
 vs:p'.vs=p.vs
 len:p'.es.length=p.es.length
 fr:∀k,k<p.es.length->(aP p'.es k).fr=(aP p.es k).fr
 to:∀k,k<p.es.length->(aP p'.es k).to=(aP p.es k).to
 ln:∀k:Nat,k<p.es.length->LnR (lnP p k) (lnP p' k)
section
variable {p p':Pl} (R:PlR p p')
include R
theorem PlR.st{h:Int}(H:HIn p h):stP p' h=stP p h:=by have:=H.e;unfold stP;rw[R.fr _ (by omega),R.to _ (by omega)]
theorem PlR.dir{h:Int}(H:HIn p h):iH (bL p h) (bL p' h):=by
 have:=H.e;have L:=R.ln (h.tdiv 2).toNat (by omega);rw[Int.toNat_of_nonneg (by omega)]at L;unfold bL;split
 .exact L.d
 .exact L.d.neg
theorem PlR.lvR(v k:Nat)(hk:k<=2*p.es.length):lvR p' aC v k=lvR p aC v k:=by unfold Go.Proofs.YtdnhebjljnfjaaaGreat.lvR;refine List.filter_congr λx hx=> ?_;obtain⟨i,hi,rfl⟩:=cF.1 hx;have:=dY.1 hi;rw[R.st ⟨by omega,by omega⟩]
end
theorem En{α:Type}{f g:α->α->Bool}{x:α}:∀{l:List α},(∀y∈l,f y x=g y x)->mS f x l=mS g x l
 |[],_=>rfl
 |y::r,h=>by
  unfold mS;rw[h y eG,En λz hz=>h z (dK _ hz)]
theorem D8{α:Type}{f g:α->α->Bool}:∀{l:List α},(∀x∈l,∀y∈l,f x y=g x y)->aY f l=aY g l
 |[],_=>rfl
 |x::l,h=>by
  unfold aY;rw[D8 λa ha b hb=>h a (dK _ ha) b (dK _ hb)];exact En λy hy=>h y (dK _ ((fP g l).mem_iff.1 hy)) x eG
theorem zb{f g:Int->Int}{l:List Int}(h:∀x∈l,f x=g x):∀n i j,j<=l.length->bsG f l n i j=bsG g l n i j
 |0,_,_,_=>rfl
 |n+1,i,j,hj=>by
  unfold bsG;by_cases hij:i<j
  .have hm:aM l ((i+j)/2)∈l:=iX (by omega);rw[if_pos hij,if_pos hij,h _ hm,zb h n _ j hj,zb h n i _ (by omega)]
  .rw[if_neg hij,if_neg hij]
theorem za{f g:Int->Int}{l:List Int}(h:∀x∈l,f x=g x):bsP f l=bsP g l:=zb h _ _ _ (az _)
theorem Ve{f g:Int->Int}{l:List Int}(h:∀x∈l,f x=g x):bsF f l=bsF g l:=by
 unfold bsF;rw[za h];by_cases hl:bsP g l<l.length
 .rw[h _ (iX hl)]
 .rw[decide_eq_false hl,ll,ll]
section
variable {p p':Pl} (R:PlR p p')
include R
theorem PlR.lv:lvP p' aC=lvP p aC:=by unfold lvP lvM;rw[R.vs,R.len];refine List.map_congr_left λv hv=> ?_;have hv:=dY.1 hv;rw[if_pos hv,if_pos hv,R.lvR v _ (az _)];refine D8 λx hx y hy=> ?_;have H:∀z∈Go.Proofs.YtdnhebjljnfjaaaGreat.lvR p aC v (2*p.es.length),HIn p z:=qu;unfold ltC cfH;rw[(R.dir (H x hx)).ang (R.dir (H y hy))]
theorem PlR.nx(P:PlOk p){h:Int}(H:HIn p h):nxP p' (lvP p' aC) h=nxP p (lvP p aC) h:=by
 have T:=H.tw P;have V:=ni P aC;unfold nxP;rw[R.lv,R.st T];have hs:=k9 P T;have hm:aO (lvP p aC) (stP p (twX h)).toNat∈lvP p aC:=kK (by rw[V.len];omega);have e:bsP (λx=>bg (bL p' x) (bL p' (twX h))) (aO (lvP p aC) (stP p (twX h)).toNat)=bsP (λx=>bg (bL p x) (bL p (twX h))) (aO (lvP p aC) (stP p (twX h)).toNat):=
  za λx hx=>((R.dir ((V.row _ hm).2 x hx)).ang (R.dir T)).symm
 dsimp only;rw[e]
theorem PlR.cyT(P:PlOk p):∀(f:Nat) (D:List Bool) (h:Int) (c:List Int),(h= -1\/HIn p h)->Go.Proofs.YtdnhebjljnfjaaaGreat.cyT p' aC (lvP p' aC) f D h c=Go.Proofs.YtdnhebjljnfjaaaGreat.cyT p aC (lvP p aC) f D h c
 |0,_,_,_,_=>rfl
 |f+1,D,h,c,hh=>by
  unfold Go.Proofs.YtdnhebjljnfjaaaGreat.cyT;by_cases hc:0<=h/\cQ D h.toNat=false/\aC h=true
  .have H:HIn p h:=by rcases hh with rfl|hh; · omega
                      .exact hh
   rw[if_pos hc,if_pos hc,R.nx P H];exact PlR.cyT P f _ _ _ (BU P (ni P aC) H)
  .rw[if_neg hc,if_neg hc]
theorem PlR.cyO(P:PlOk p):∀k,k<=2*p.es.length->Go.Proofs.YtdnhebjljnfjaaaGreat.cyO p' aC (lvP p' aC) k=Go.Proofs.YtdnhebjljnfjaaaGreat.cyO p aC (lvP p aC) k
 |0,_=>by unfold Go.Proofs.YtdnhebjljnfjaaaGreat.cyO;rw[R.len]
 |k+1,hk=>by
  unfold Go.Proofs.YtdnhebjljnfjaaaGreat.cyO cyS;rw[PlR.cyO P k (by omega),R.cyT P _ _ _ _ (.inr ⟨by omega,by omega⟩)]
theorem PlR.cy(P:PlOk p):cyP p' aC=cyP p aC:=by unfold cyP;rw[R.len,R.cyO P _ (az _)]
theorem PlR.lowK{c:List Int}(hc:∀h∈c,HIn p h)(h0:0<c.length):∀k,k<=c.length->Go.Proofs.YtdnhebjljnfjaaaGreat.lowK p' c k=Go.Proofs.YtdnhebjljnfjaaaGreat.lowK p c k
 |0,_=>R.st (hc _ (iX h0))
 |k+1,hk=>by
  unfold Go.Proofs.YtdnhebjljnfjaaaGreat.lowK;rw[PlR.lowK hc h0 k (by omega),R.st (hc _ (iX (by omega)))]
theorem PlR.low{c:List Int}(hc:∀h∈c,HIn p h)(h0:0<c.length):bv p' c=bv p c:=R.lowK hc h0 _ (az _)
theorem PlR.inn(P:PlOk p){c:List Int}(hc:∀h∈c,HIn p h)(h0:0<c.length)(hl:0<=bv p c/\bv p c<p.vs.length):inP p' c (lvP p' aC)=inP p c (lvP p aC):=by have V:=ni P aC;have hm:aO (lvP p aC) (bv p c).toNat∈lvP p aC:=kK (by rw[V.len];omega);have e:∀x∈aO (lvP p aC) (bv p c).toNat,bg (bL p' x) ⟨0,-1⟩=bg (bL p x) ⟨0,-1⟩:=λx hx=>((R.dir ((V.row _ hm).2 x hx)).ang iH.rfl).symm;unfold inP;rw[R.lv,R.low hc h0];dsimp only;rw[Ve e,za e]
theorem PlR.bwE(k:Nat)(hk:k<p.es.length):(bwE p' k).h=(bwE p k).h/\(bwE p' k).lf=(bwE p k).lf/\(bwE p' k).rt=(bwE p k).rt/\LnR ((bwE p k).a,(bwE p k).b) ((bwE p' k).a,(bwE p' k).b):=by
 have L:=R.ln k hk;have sg:(lnP p k).2.x<(lnP p k).1.x↔(lnP p' k).2.x<(lnP p' k).1.x:=by obtain⟨s,t,hs,ht,hx,hy⟩:=L.d;have:=(pF hs ht hx).2.1;unfold aDd at this;dsimp only at this;omega
 unfold Go.Proofs.YtdnhebjljnfjaaaGreat.bwE;dsimp only;rw[R.vs,R.fr k hk,R.to k hk];by_cases h:(lnP p k).2.x<(lnP p k).1.x
 .rw[if_pos h,if_pos (sg.1 h)];refine⟨rfl,rfl,rfl,L.d.neg,?_⟩;obtain⟨s,t,hs,ht,hx,hy⟩:=L.d;have l:=L.l;unfold aDe aDd at*;dsimp only at*;have k1:s*((((lnP p' k).2.x-(lnP p k).2.x)*((lnP p k).1.y-(lnP p k).2.y)-((lnP p' k).2.y-(lnP p k).2.y)*((lnP p k).1.x-(lnP p k).2.x))*t)=0:=by grind
  rcases mY.1 k1 with h1|h1
  .omega
  .rcases mY.1 h1 with h2|h2
   .exact h2
   .omega
 .rw[if_neg h,if_neg (λhh=>h (sg.2 hh))];exact⟨rfl,rfl,rfl,L⟩
end
theorem FX{s t a b a' b':Int}(hs:0<s)(ht:0<t)(h1:s*a=t*a')(h2:s*b=t*b'):Geo.bi a b=Geo.bi a' b':=by
 have:=pF hs ht (show s*(a-b)=t*(a'-b') by grind);have t1:a<b↔a'<b':=by omega
 have t2:a=b↔a'=b':=by omega
 have t3:b<a↔b'<a':=by omega
 clear this h1 h2 hs ht;unfold Geo.bi;by_cases e1:a<b
 .have:=t1.1 e1;simp only[e1,this,if_true]
 .by_cases e2:b<a
  .have:=t3.1 e2;split<;>split<;>omega
  .have:a=b:=by omega
   have:=t2.1 this;split<;>split<;>omega
structure BwR(B B':Bw):Prop where
 h:B'.1=B.1
 r:0<=B.1->∃s t:Int,0<s/\0<t/\s*B.2.1=t*B'.2.1/\s*B.2.2.1=t*B'.2.2.1/\s*B.2.2.2=t*B'.2.2.2
theorem Yn{q:Pt}{e e':BwE}(hh:e'.h=e.h)(hl:e'.lf=e.lf)(hr:e'.rt=e.rt)(L:LnR (e.a,e.b) (e'.a,e'.b)){B B':Bw}(R:BwR B B'):BwR (bwS q e B) (bwS q e' B'):=by
 obtain⟨s,t,hs,ht,hx,hy⟩:=L.d;have l:=L.l;dsimp only at hx hy l;have hn:s*bwN q e=t*bwN q e':=by
  have k1:s*((e'.a.x-e.a.x)*(aDd e.b e.a).y-(e'.a.y-e.a.y)*(aDd e.b e.a).x)=0:=by unfold aDe at l;have l:(aDd e'.a e.a).x*(aDd e.b e.a).y-(aDd e'.a e.a).y*(aDd e.b e.a).x=0:=l;have e1:(aDd e'.a e.a).x=e'.a.x-e.a.x:=rfl;have e2:(aDd e'.a e.a).y=e'.a.y-e.a.y:=rfl;rw[e1,e2]at l;rw[l,lW]
  unfold bwN;generalize (aDd e.b e.a).x=dx at*;generalize (aDd e.b e.a).y=dy at*;generalize (aDd e'.b e'.a).x=dx' at*;generalize (aDd e'.b e'.a).y=dy' at*;grind
 have zx:=(pF hs ht hx).2.2;unfold bwS;rw[hl,hr,hh];by_cases c1:(aDd e.b e.a).x=0\/q.x*e.lf.den<e.lf.x*q.den\/e.rt.x*q.den<=q.x*e.rt.den
 .rw[if_pos c1,if_pos (c1.imp_left zx.1)];exact R
 have c1':¬((aDd e'.b e'.a).x=0\/q.x*e.lf.den<e.lf.x*q.den\/e.rt.x*q.den<=q.x*e.rt.den):=λh=>c1 (h.imp_left zx.2);rw[if_neg c1,if_neg c1'];have c2':q.y*(aDd e.b e.a).x<=bwN q e↔q.y*(aDd e'.b e'.a).x<=bwN q e':=by have:=(pF hs ht (show s*(q.y*(aDd e.b e.a).x-bwN q e)=t*(q.y*(aDd e'.b e'.a).x-bwN q e') by grind)).1;omega
 by_cases c2:q.y*(aDd e.b e.a).x<=bwN q e
 .rw[if_pos c2,if_pos (c2'.1 c2)];exact R
 have c2n:¬q.y*(aDd e'.b e'.a).x<=bwN q e':=λh=>c2 (c2'.2 h);rw[if_neg c2,if_neg c2n];have new:BwR (e.h,bwN q e,(aDd e.b e.a).x,(aDd e.b e.a).y) (e.h,bwN q e',(aDd e'.b e'.a).x,(aDd e'.b e'.a).y):=⟨rfl,λ_=>⟨s,t,hs,ht,hn,hx,hy⟩⟩;by_cases c3:B.1<0
 .rw[if_pos (.inl c3),if_pos (.inl (by rw[R.h];exact c3))];exact new
 .obtain⟨u,w,hu,hw,r1,r2,r3⟩:=R.r (by omega);have e3:bwC q e B=bwC q e' B':=by
   have hsu:=mv hs hu;have htw:=mv ht hw;unfold bwC;rw[FX hsu htw (show s*u*(bwN q e*B.2.2.1)=t*w*(bwN q e'*B'.2.2.1) by grind) (show s*u*(B.2.1*(aDd e.b e.a).x)=t*w*(B'.2.1*(aDd e'.b e'.a).x) by grind),
    FX hsu htw (show s*u*((aDd e.b e.a).y*B.2.2.1)=t*w*((aDd e'.b e'.a).y*B'.2.2.1) by grind) (show s*u*(B.2.2.2*(aDd e.b e.a).x)=t*w*(B'.2.2.2*(aDd e'.b e'.a).x) by grind)]
  rw[<-e3,R.h];by_cases c4:B.1<0\/0<bwC q e B
  .rw[if_pos c4,if_pos c4];exact new
  .rw[if_neg c4,if_neg c4];exact R
section
variable {p p':Pl} (R:PlR p p')
include R
theorem PlR.bwK(q:Pt):∀k,k<=p.es.length->BwR (bwK p q k) (bwK p' q k)
 |0,_=>⟨rfl,λh=>absurd h (by show¬(0:Int)<= -1;omega)⟩
 |k+1,hk=>by
  obtain⟨e1,e2,e3,e4⟩:=R.bwE k (by omega);exact Yn e1 e2 e3 e4 (PlR.bwK q k (by omega))
theorem PlR.bw(q:Pt):bwP p' q=bwP p q:=by unfold bwP;rw[R.len];exact(R.bwK q _ (az _)).h
theorem PlR.ph1(P:PlOk p):∀k,k<=nC p->ph1 p' k=ph1 p k
 |0,_=>by unfold Go.Proofs.YtdnhebjljnfjaaaGreat.ph1;rw[R.cy P,R.len]
 |k+1,hk=>by
  have hm:aO (cyP p aC) k∈cyP p aC:=kK hk;obtain⟨c1,c2,c3⟩:=(rY P).2 _ hm;unfold Go.Proofs.YtdnhebjljnfjaaaGreat.ph1;rw[R.cy P,R.inn P c3 c1 (wT P c1 c3),PlR.ph1 P k (by omega)]
theorem PlR.ph2(P:PlOk p):∀k,k<=nC p->ph2 p' k=ph2 p k
 |0,_=>by unfold Go.Proofs.YtdnhebjljnfjaaaGreat.ph2;rw[R.cy P,R.ph1 P _ (az _)]
 |k+1,hk=>by
  have hm:aO (cyP p aC) k∈cyP p aC:=kK hk;obtain⟨c1,c2,c3⟩:=(rY P).2 _ hm;have e:∀o fa,fdP p' o fa (aO (cyP p aC) k) k=fdP p o fa (aO (cyP p aC) k) k:=λo fa=>by unfold fdP bwQ;rw[R.low c3 c1,R.vs,R.bw]
  unfold Go.Proofs.YtdnhebjljnfjaaaGreat.ph2;rw[R.cy P,R.ph1 P _ (az _),PlR.ph2 P k (by omega),e]
theorem PlR.fac(P:PlOk p):(dR p').vs=(dR p).vs/\(dR p').fs=(dR p).fs/\(dR p').es.length=(dR p).es.length/\
  ∀k,k<p.es.length->(aP (dR p').es k).fr=(aP (dR p).es k).fr/\(aP (dR p').es k).to=(aP (dR p).es k).to/\(aP (dR p').es k).lf=(aP (dR p).es k).lf/\(aP (dR p').es k).rt=(aP (dR p).es k).rt:=by
 have h1:=R.ph1 P _ (az _);have h2:=R.ph2 P _ (az _);refine⟨R.vs,?_,?_,λk hk=> ?_⟩
 .unfold dR;dsimp only;rw[R.cy P,h2]
 .unfold dR;dsimp only;rw[pG,pG,R.len]
 .unfold dR;dsimp only;rw[R.cy P,h1,h2,R.len,wo p' _ _ (by rw[R.len];exact hk),wo p _ _ hk,if_pos hk,if_pos hk];exact⟨R.fr k hk,R.to k hk,rfl,rfl⟩
end
def Sw(s t:S):Prop:=t=s\/t=⟨s.b,s.a⟩
def Sw.symm{s t:S}(h:Sw s t):Sw t s:=by
 rcases h with rfl|rfl
 .exact .inl rfl
 .exact .inr rfl
def Sw.on{s t:S}(h:Sw s t){c:Q2}:onG s c->onG t c:=by
 rcases h with rfl|rfl
 .exact id
 .exact zt
def Sw.ok{s t:S}(h:Sw s t)(k:SgOk s):SgOk t:=by
 rcases h with rfl|rfl
 .exact k
 .exact⟨λe=>k.ne e.symm,k.b,k.a⟩
def Sw.rD{s t u w:S}(h:Sw s t)(k:Sw u w)(hd:rD s u≠0):rD t w≠0:=by unfold Go.Proofs.YtdnhebjljnfjaaaGreat.rD at*;rcases h with rfl|rfl<;>rcases k with rfl|rfl<;>grind
structure SgR(l m:List S):Prop where
 fw:∀i,i<l.length->∃j,j<m.length/\Sw (aK l i) (aK m j)
 bk:∀j,j<m.length->∃i,i<l.length/\Sw (aK m j) (aK l i)
def SgR.symm{l m:List S}(R:SgR l m):SgR m l:=⟨R.bk,R.fw⟩
def SgR.ok{l m:List S}(R:SgR l m)(H:Sgs l):Sgs m:=λj hj=>by obtain⟨i,hi,h⟩:=R.bk j hj;exact h.symm.ok (H i hi)
def SgR.vx{l m:List S}(R:SgR l m){c:Q2}(h:VX l c):VX m c:=by
 rcases h with⟨k,hk,h⟩|⟨j,k,hj,hk,hd,h1,h2⟩
 .obtain⟨j,hj,s⟩:=R.fw k hk;refine .inl ⟨j,hj,?_⟩;rcases s with s|s<;>rw[s]
  .exact h
  .exact h.symm
 .obtain⟨j',hj',s⟩:=R.fw j hj;obtain⟨k',hk',t⟩:=R.fw k hk;exact .inr ⟨j',k',hj',hk',s.rD t hd,s.on h1,t.on h2⟩
section
variable {l m:List S} (R:SgR l m) (H:Sgs l)
include R H
theorem Ig{p:Pt}(h:p∈vsP l):p∈vsP m:=by have h1:=R.vx ((Ih H).1 ⟨p,h,rfl⟩);obtain⟨q,hq,e⟩:=(Ih (R.ok H)).2 h1;have:=BP (pS (R.ok H) hq).1 (pS H h).1 e;rw[<-this];exact hq
theorem HB:vsP m=vsP l:=UM (qK (R.ok H)) (qK H) λ_=>⟨Ig R.symm (R.ok H),Ig R H⟩
theorem G6{i j a b:Nat}(s:Sw (aK l i) (aK m j))(A:Adj l i a b):Adj m j a b:=by
 have e:=HB R H;refine⟨A.lt,by rw[e];exact A.bd,?_,?_,λv h1 h2 h3=>A.no v h1 h2 ?_⟩
 .have:=A.oa;unfold OnV at*;rw[e];exact s.on this
 .have:=A.ob;unfold OnV at*;rw[e];exact s.on this
 .unfold OnV at*;rw[e]at h3;exact s.symm.on h3
theorem H7{k:Int×Int}(h:k∈(esP l).map λe=>(e.fr,e.to)):k∈(esP m).map λe=>(e.fr,e.to):=by obtain⟨e,he,rfl⟩:=cF.1 h;obtain⟨a,b,h1,rfl⟩:=(qj H).1 he;obtain⟨x,hx⟩:=List.exists_mem_of_ne_nil _ h1;obtain⟨i,hi,rfl,A⟩:=ly.1 hx;obtain⟨j,hj,s⟩:=R.fw i hi;obtain⟨k,hk,ek⟩:=aAT (R.ok H) hj (G6 R H s A);refine cF.2 ⟨aP (esP m) k,l0 hk,?_⟩;rw[ek]
end
def nt(a b:Int×Int):Prop:=a.1<b.1\/(a.1=b.1/\a.2<b.2)
theorem EJ(l:List S):((esP l).map λe=>(e.fr,e.to)).Pairwise nt:=by
 have hs:(esP l).Pairwise λa b=>ltC gK b a=false:=oc (uf (A3 (oh l l.length))) (edM (cU l l.length)) λ_ h=>h;have hn:=Gm l;unfold oZ at hn;rw[qE]at hn|-;refine(hs.and hn).imp λ{a b} h=> ?_;have h3:¬gK b a<0:=of_decide_eq_false h.1;rw[nX]at h3;have h4:=h.2;unfold nt;dsimp only;by_cases e1:a.fr=b.fr
 .by_cases e2:a.to=b.to
  .exact absurd (Prod.ext e1 e2) h4
  .omega
 .omega
theorem ZU{a b:List (Int×Int)}(ha:a.Pairwise nt)(hb:b.Pairwise nt)(h:∀p,p∈a↔p∈b):a=b:=by
 have irr:∀{p:Int×Int},¬nt p p:=λh=>by unfold nt at h;omega
 have na:a.Nodup:=ha.imp λ{p q} h e=>by subst e;exact irr h
 have nb:b.Nodup:=hb.imp λ{p q} h e=>by subst e;exact irr h
 exact List.Perm.eq_of_pairwise (le:=nt) (λp q _ _ h1 h2=>by unfold nt at h1 h2;omega) ha hb ((List.perm_ext_iff_of_nodup na nb).2 h)
theorem YZ{u v:V}(hu:dN u=0)(hv:dN v=0)(h:aDe u v=0):iH u v:=by
 unfold dN at hu hv;unfold aDe at h;have hu:0<u.y\/(u.y=0/\0<u.x):=by
  rcases Decidable.em (0<u.y\/(u.y=0/\0<u.x))with h|h
  .exact h
  .rw[if_neg h]at hu;omega
 have hv:0<v.y\/(v.y=0/\0<v.x):=by
  rcases Decidable.em (0<v.y\/(v.y=0/\0<v.x))with h|h
  .exact h
  .rw[if_neg h]at hv;omega
 rcases hu with hu|⟨hu,hu2⟩
 .rcases hv with hv|⟨hv,hv2⟩
  .exact⟨v.y,u.y,hv,hu,by grind,by grind⟩
  .rw[hv,lW]at h;have:=mv hu hv2;omega
 .rcases hv with hv|⟨hv,hv2⟩
  .rw[hu,Int.zero_mul]at h;have:=mv hu2 hv;omega
  .exact⟨v.x,u.x,hv2,hu2,by grind,by rw[hu,hv,lW,lW]⟩
theorem ZE{l m:List S}(R:SgR l m)(H:Sgs l):PlR (aA l) (aA m):=by
 have H':=R.ok H;have ev:=HB R H;have ek:(esP m).map (λe=>(e.fr,e.to))=(esP l).map λe=>(e.fr,e.to):=ZU (EJ m) (EJ l) λ_=>⟨H7 R.symm H',H7 R H⟩;have el:(esP m).length=(esP l).length:=by have:=congrArg List.length ek;simpa using this
 have at_:∀k,k<(esP l).length->((aP (esP m) k).fr,(aP (esP m) k).to)=((aP (esP l) k).fr,(aP (esP l) k).to):=λk hk=>by have h1:=congrArg (λL:List (Int×Int)=>L[k]?) ek;simp only[List.getElem?_map]at h1;rw[dA hk,dA (by omega)]at h1;simp only[Option.map_some,Option.some.injEq]at h1;rw[nV hk,nV (by omega)];exact h1
 refine⟨ev,el,λk hk=>congrArg Prod.fst (at_ k hk),λk hk=>congrArg Prod.snd (at_ k hk),λk hk=> ?_⟩;have hk:k<(esP l).length:=hk;obtain⟨a,b,i,E⟩:=mV H hk;obtain⟨a',b',j,F⟩:=mV H' (k:=k) (by omega);have q:=at_ k hk;rw[E.ed,F.ed]at q;simp only[Prod.mk.injEq]at q;have q1:a'=a:=by omega
 have q2:b'=b:=by omega
 subst q1 q2;rw[E.ln,F.ln];have A:=E.adj;have B:=F.adj;have oa:=B.oa;have ob:=B.ob;unfold OnV at oa ob;rw[ev]at oa ob;have hs:=(H i E.il).ne;have ht:=(H' j F.il).ne;have hd:rD (aK l i) (aK m j)=0:=by
  by_cases h:rD (aK l i) (aK m j)=0
  .exact h
  .have e1:=((qg h).1 ⟨A.oa,oa⟩).1;have e2:=((qg h).1 ⟨A.ob,ob⟩).1;have:=uJ H A.bd A.lt;rw[e1,e2]at this;exact absurd this gi
 refine⟨YZ (tW hs).1 (tW ht).1 (CF.1 hd),?_⟩;obtain⟨c1,_,_⟩:=(iz hs).1 A.oa;obtain⟨c2,_,_⟩:=(iz ht).1 oa;rw[ku]at c1 c2;have c3:cr (lo (aK m j)) (hi (aK m j)) (lo (aK m j))=0:=by unfold cr;grind
 have c4:=(ku _ _).2 ((w9 hs ht hd c1 c2 (c:=lo (aK m j))).2 ((ku _ _).1 c3));unfold cr lo hi rv at c4;dsimp only at c4;unfold aDe aDd;dsimp only;have c5:((((loS (aK m j)).x-(loS (aK l i)).x)*((hiS (aK l i)).y-(loS (aK l i)).y)-((loS (aK m j)).y-(loS (aK l i)).y)*((hiS (aK l i)).x-(loS (aK l i)).x):Int):Rat)=0:=by grind
 exact_mod_cast c5
def swS(s:S):S:=⟨s.b,s.a⟩
def bj(l:List S)(k:Nat):List S:=l.drop k++l.take k
def swI(c:Nat)(r:List S):Nat->List S
 |0=>r
 |i+1=>if(c+i) % 3=0 then(swI c r i).set i (swS (aK (swI c r i) i))else swI c r i
def de(l:List S)(k c:Nat):List S:=swI c (bj l (k % l.length)) l.length++[aK (swI c (bj l (k % l.length)) l.length) (c % l.length)]
def nR(c:Nat)(r:List S):∀i,(swI c r i).length=r.length
 |0=>rfl
 |i+1=>by
  unfold swI;split
  .rw[fA,nR c r i]
  .exact nR c r i
def Sw.swp{s t:S}(h:Sw s t):Sw s (swS t):=by
 rcases h with rfl|rfl
 .exact .inr rfl
 .exact .inl rfl
def GK{l:List S}{i j:Nat}{s:S}(hi:i<l.length):aK (l.set i s) j=if i=j then s else aK l j:=by
 unfold aK;rw[bq,bq,gZ];split
 .rename_i e;rfl
 .rfl
def JA(c:Nat)(r:List S)(j:Nat):∀i,i<=r.length->Sw (aK r j) (aK (swI c r i) j)
 |0,_=> .inl rfl
 |i+1,hi=>by
  have ih:=JA c r j i (by omega);unfold swI;split
  .rw[GK (by rw[nR];omega)];split
   .rename_i e;subst e;exact ih.swp
   .exact ih
  .exact ih
def o9{l:List S}{k:Nat}(hk:k<l.length):(bj l k).length=l.length:=by unfold bj;rw[dh,mh,ew];omega
def jz(n k i:Nat):Nat:=if i<k then i+(n-k)else i-k
def Xq{l:List S}{k i:Nat}(hk:k<l.length)(hi:i<l.length):aK (bj l k) (jz l.length k i)=aK l i:=by
 unfold aK bj jz;rw[bq,bq];split
 .rw[iU (by rw[mh];omega),mh,List.getElem?_take];rw[if_pos (by omega),show i+(l.length-k)-(l.length-k)=i by omega]
 .rw[iL (by rw[mh];omega),List.getElem?_drop,show k+(i-k)=i by omega]
def Af{n k i:Nat}(hk:k<n)(hi:i<n):jz n k i<n:=by unfold jz;split<;>omega
def WI{n k i j:Nat}(hk:k<n)(hi:i<n)(hj:j<n)(h:jz n k i=jz n k j):i=j:=by unfold jz at h;split at h<;>split at h<;>omega
def WH{n k j:Nat}(hk:k<n)(hj:j<n):∃i,i<n/\jz n k i=j:=by
 unfold jz;by_cases h:j<n-k
 .exact⟨j+k,by omega,by rw[if_neg (by omega)];omega⟩
 .exact⟨j-(n-k),by omega,by rw[if_pos (by omega)];omega⟩
def zJ{a:List S}{s:S}{i:Nat}:aK (a++[s]) i=if i=a.length then s else aK a i:=by
 unfold aK;rw[bq,bq];by_cases h:i<a.length
 .rw[iL h,if_neg (by omega)]
 .rw[iU (by omega)];split
  .rename_i e;rw[e,Nat.sub_self];rfl
  .rw[eQ (by simp only[eD];omega),eQ (by omega)]
section
variable {l:List S} {k c:Nat} (hl:0<l.length)
include hl
theorem zr:(de l k c).length=l.length+1:=by unfold de;rw[dh,nR,o9 (eO _ hl)];rfl
theorem An{i:Nat}(hi:i<l.length):Sw (aK l i) (aK (de l k c) (jz l.length (k % l.length) i)):=by have hk:=eO k hl;have h:=Af hk hi;unfold de;rw[zJ,if_neg (by rw[nR,o9 hk];omega)];have:=JA c (bj l (k % l.length)) (jz l.length (k % l.length) i) l.length (by rw[o9 hk];omega);rwa[Xq hk hi]at this
theorem JM:SgR l (de l k c):=by
 have hk:=eO k hl;have e:=zr (k:=k) (c:=c) hl;have bk:∀j,j<l.length->∃i,i<l.length/\Sw (aK (de l k c) j) (aK l i):=λj hj=>by obtain⟨i,hi,rfl⟩:=WH hk hj;exact⟨i,hi,(An hl hi).symm⟩
 refine⟨λi hi=>⟨_,by rw[e];have:=Af hk hi;omega,An hl hi⟩,λj hj=> ?_⟩;by_cases h:j<l.length
 .exact bk j h
 .obtain rfl:j=l.length:=by omega
  have hc:=eO c hl;have:aK (de l k c) l.length=aK (de l k c) (c % l.length):=by unfold de;rw[zJ,zJ,if_pos (by rw[nR,o9 hk]),if_neg (by rw[nR,o9 hk];omega)]
  rw[this];exact bk _ hc
end
theorem J8{l m:List S}(R:SgR l m){q:S->Bool}(hq:∀{s t},Sw s t->q s=true->q t=true)(h:l.any q=true):m.any q=true:=by obtain⟨s,hs,h2⟩:=li.1 h;obtain⟨i,hi,rfl⟩:=ki.1 hs;obtain⟨j,hj,w⟩:=R.fw i hi;exact li.2 ⟨aK m j,sv hj,hq w (by rw[l6 hi];exact h2)⟩
theorem G5{l m:List S}(R:SgR l m){q:S->Bool}(hq:∀{s t},Sw s t->q s=true->q t=true):m.any q=l.any q:=by rw[Bool.eq_iff_iff];exact⟨J8 R.symm hq,J8 R hq⟩
theorem Ff{l m:List S}(R:SgR l m)(hl:l.length<=200)(hm:m.length<=200):dP m=dP l:=by
 unfold dP;have e1:m.any ff=l.any ff:=G5 R λ{s t} w h=>by
  unfold ff at*;rcases w with rfl|rfl
  .exact h
  .have h:=of_decide_eq_true h;exact decide_eq_true h.symm
 have e2:m.any fN=l.any fN:=G5 R λ{s t} w h=>by
  unfold fN at*;rcases w with rfl|rfl
  .exact h
  .simp only[Bool.or_eq_true]at*;exact h.symm
 rw[e1,e2,if_neg (show¬200<m.length by omega),if_neg (show¬200<l.length by omega)]
def noS(e:Ed):Ed:={e with src:=[]}
structure OrdP(p q:Pl):Prop where
 len:q.es.length=p.es.length
 src:∀k,k<p.es.length->0<(aP p.es k).src.length/\(aP p.es k).src.length<=(aP q.es k).src.length
 eq:∀k,k<p.es.length->noS (aP q.es k)=noS (aP p.es k)
 vs:q.vs=p.vs
 fs:q.fs=p.fs
theorem Vy{l m:List S}(R:SgR l m)(H:Sgs l){f:Nat->Nat}(hlt:∀i,i<l.length->f i<m.length)(hin:∀i j,i<l.length->j<l.length->f i=f j->i=j)
  (hsw:∀i,i<l.length->Sw (aK l i) (aK m (f i))) (a b:Nat):(eA l a b l.length).length<=(eA m a b m.length).length:=by
 have hn:(eA l a b l.length).Nodup:=(D5 l a b l.length).imp λh=>by omega
 have hb:∀x∈eA l a b l.length,∃i:Nat,i<l.length/\x=i/\Adj l i a b:=λx hx=>ly.1 hx;have h2:((eA l a b l.length).map λx:Int=>((f x.toNat:Nat):Int)).Nodup:=by
  unfold oZ at*;rw[qE];refine hn.imp_of_mem λ{x y} hx hy h e=>h ?_;obtain⟨i,hi,rfl,_⟩:=hb x hx;obtain⟨j,hj,rfl,_⟩:=hb y hy;have e:(f i:Int)=f j:=by simpa using e
  have:=hin i j hi hj (by omega);rw[this]
 have h3:=h2.length_le_of_subset (l₂:=eA m a b m.length) λz hz=>by obtain⟨x,hx,rfl⟩:=cF.1 hz;obtain⟨i,hi,rfl,A⟩:=hb x hx;exact ly.2 ⟨f i,hlt i hi,by simp,G6 R H (hsw i hi) A⟩
 rwa[List.length_map]at h3
theorem Xx{l:List S}{k c:Nat}(hl:0<l.length)(h20:l.length<=20)(h0:dP l=0):OrdP (dR (aA l)) (dR (aA (de l k c))):=by
 have R:=JM (k:=k) (c:=c) hl;have hm:=zr (k:=k) (c:=c) hl;have H:=wj h0;have h1:dP (de l k c)=0:=by rw[Ff R (by omega) (by omega)];exact h0
 have B:=pQ (by omega) h0;have B':=pQ (by omega) h1;have P:=ZE R H;obtain⟨e1,e2,e3,e4⟩:=P.fac B.pl;have sr:∀i,i<(esP l).length->(aP (esP l) i).src.length<=(aP (esP (de l k c)) i).src.length:=λi hi=>by
  obtain⟨a,b,x,E⟩:=mV H hi;obtain⟨a',b',y,F⟩:=mV (R.ok H) (k:=i) (by have:=P.len;exact this▸hi);have q1:=P.fr i hi;have q2:=P.to i hi;have q1:(aP (esP (de l k c)) i).fr=(aP (esP l) i).fr:=q1;have q2:(aP (esP (de l k c)) i).to=(aP (esP l) i).to:=q2;rw[E.ed,F.ed]at q1 q2;obtain rfl:a'=a:=by have q1:(a':Int)=a:=q1;omega
  obtain rfl:b'=b:=by have q2:(b':Int)=b:=q2;omega
  rw[E.ed,F.ed];exact Vy R H (f:=jz l.length (k % l.length)) (λi hi=>by have:=Af (eO k hl) hi;omega) (λi j hi hj h=>WI (eO k hl) hi hj h) (λi hi=>An hl hi) _ _
 have n1:(dR (aA l)).es.length=(esP l).length:=(H6 B).1;have n2:(esP (de l k c)).length=(esP l).length:=P.len;refine⟨e3,λi hi=> ?_,λi hi=> ?_,e1,e2⟩
 .have hi:i<(esP l).length:=by omega
  rw[Be hi,Be (by omega)];refine⟨?_,sr i hi⟩;have:=(B.pl.src (aP (esP l) i) (l0 (l:=esP l) hi)).1;exact this
 .have hi:i<(esP l).length:=by omega
  obtain⟨f1,f2,f3,f4⟩:=e4 i hi;unfold noS;rw[Ed.mk.injEq];exact⟨f1,f2,f3,f4,rfl⟩
def aU8:Ar Nat:=⟨λn=> .int .u8 (n:Int),λs=>match s with| .int .u8 (.ofNat n)=>some n|_=>none,λ_ _ h=>by
 (split at h<;>cases h;rfl),λ_=>⟨_,rfl⟩⟩
noncomputable def aBr:Tab:=ap [(11,RI),(13,Q8)] Oh
def aAe:aBr.Ok aH:=aq aAa ⟨aCO,Pg,trivial⟩
def cg(es:List Ed):Nat->List Ed
 |0=>es
 |k+1=>(cg es k).set k (noS (aP es k))
def qW(es:List Ed):∀k,(cg es k).length=es.length
 |0=>rfl
 |k+1=>by unfold cg;rw[fA,qW es k]
def qm(es:List Ed)(j:Nat):∀k,aP (cg es k) j=if j<k/\j<es.length then noS (aP es j)else aP es j
 |0=>by unfold cg;rw[if_neg (by omega)]
 |k+1=>by
  have ih:=qm es j k;unfold cg;unfold aP at*;rw[bq,gZ];by_cases e:k=j
  .subst e;rw[if_pos rfl,qW];by_cases h:k<es.length
   .rw[if_pos h,if_pos (by omega)];rfl
   .rw[if_neg h,if_neg (by omega),bq,eQ (by omega)]
  .rw[if_neg e,<-bq,ih];by_cases h:j<k
   .by_cases h2:j<es.length
    .rw[if_pos ⟨h,h2⟩,if_pos ⟨by omega,h2⟩]
    .rw[if_neg (by omega),if_neg (by omega)]
   .rw[if_neg (by omega),if_neg (by omega)]
noncomputable def c8q:Con:=con (ac (aL .S) (ac aU8 (a1 aU8))) (λ(_,a,c)=>[a<256,c<256]) (λ(_,_,_)=> .bool true)
def k8q:c8q.Ok aH 8:=bA (lI aAe) (raw:=au) (λ(l,a,c)=>[lp 8 43 l.length (λ_=>[]) [] (λ_=>[]) (λi=>[(25,.row 57 .S (swI c (bj l (a % l.length)) i))]),
  lp 23 117 (bN l).es.length (λ_=>[]) [] (λ_=>[]) (λi=>[(73+1000000*902,.row 77 .E (cg (bN l).es i)),(75+1000000*902,.row 77 .E (cg (bN (de l a c)).es i))])]
  ) (λ(_,_,_)=>⟨_,rfl⟩) λ(l,a,c) hp=>aw (q:=((!true)=true->false=true)/\
 ((!true)=false->(20<(l.length:Int)->true=true)/\
  (¬20<(l.length:Int)->((l.length:Int)=0->true=true)/\
   (¬(l.length:Int)=0->aG (a:Int)/\(l.length:Int)≠0/\(0<=((a % l.length:Nat):Int)/\((a % l.length:Nat):Int)<=l.length)/\([] :List aDc).length+(bT (a % l.length) l).length<=1000000/\(0<=((a % l.length:Nat):Int)/\((a % l.length:Nat):Int)<=l.length)/\(([] :List aDc)++bT (a % l.length) l).length=(([] :List aDc)++bT (a % l.length) l).length/\(([] :List aDc)++bT (a % l.length) l).length+(ai (a % l.length) l).length<=1000000/\(0=(0:Int)/\([] :List aDc)++bT (a % l.length) l++ai (a % l.length) l=swI c (bj l (a % l.length)) 0/\(0:Nat)<=l.length)/\
    (∀x:Nat,x<=l.length->((x:Int)<(([] :List aDc)++bT (a % l.length) l++ai (a % l.length) l).length->aG (c:Int)/\aG ((c:Int)+x)/\(3:Int)≠0/\((((c+x) % 3:Nat):Int)=0->ix (x:Int) (([] :List aDc)++bT (a % l.length) l++ai (a % l.length) l).length/\x<(swI c (bj l (a % l.length)) x).length/\ix (x:Int) (([] :List aDc)++bT (a % l.length) l++ai (a % l.length) l).length/\x<(swI c (bj l (a % l.length)) x).length/\ix (x:Int) (([] :List aDc)++bT (a % l.length) l++ai (a % l.length) l).length/\x<(swI c (bj l (a % l.length)) x).length/\ix (x:Int) (([] :List aDc)++bT (a % l.length) l++ai (a % l.length) l).length/\x<(cR (swI c (bj l (a % l.length)) x) x (⟨(aK (swI c (bj l (a % l.length)) x) x).b,(aK (swI c (bj l (a % l.length)) x) x).b⟩:aDc)).length/\aG ((x:Int)+1)/\(x:Int)+1=((x+1:Nat):Int)/\cR (cR (swI c (bj l (a % l.length)) x) x (⟨(aK (swI c (bj l (a % l.length)) x) x).b,(aK (swI c (bj l (a % l.length)) x) x).b⟩:aDc)) x (⟨(aK (cR (swI c (bj l (a % l.length)) x) x (⟨(aK (swI c (bj l (a % l.length)) x) x).b,(aK (swI c (bj l (a % l.length)) x) x).b⟩:aDc)) x).a,(aK (swI c (bj l (a % l.length)) x) x).a⟩:aDc)=swI c (bj l (a % l.length)) (x+1)/\x+1<=l.length/\l.length-(x+1)<l.length-x)/\
      (¬(((c+x) % 3:Nat):Int)=0->aG ((x:Int)+1)/\(x:Int)+1=((x+1:Nat):Int)/\swI c (bj l (a % l.length)) x=swI c (bj l (a % l.length)) (x+1)/\x+1<=l.length/\l.length-(x+1)<l.length-x))/\
     (¬(x:Int)<(([] :List aDc)++bT (a % l.length) l++ai (a % l.length) l).length->aG (c:Int)/\((([] :List aDc)++bT (a % l.length) l++ai (a % l.length) l).length:Int)≠0/\ix ((c % (([] :List aDc)++bT (a % l.length) l++ai (a % l.length) l).length:Nat):Int) (([] :List aDc)++bT (a % l.length) l++ai (a % l.length) l).length/\c % (([] :List aDc)++bT (a % l.length) l++ai (a % l.length) l).length<(swI c (bj l (a % l.length)) x).length/\(([] :List aDc)++bT (a % l.length) l++ai (a % l.length) l).length=(swI c (bj l (a % l.length)) x).length/\(swI c (bj l (a % l.length)) x).length+[(aK (swI c (bj l (a % l.length)) x) (c % (([] :List aDc)++bT (a % l.length) l++ai (a % l.length) l).length))].length<=1000000/\l.length<=1000/\(dP l=0->BdOk l)/\(swI c (bj l (a % l.length)) x++[(aK (swI c (bj l (a % l.length)) x) (c % (([] :List aDc)++bT (a % l.length) l++ai (a % l.length) l).length))]).length=(swI c (bj l (a % l.length)) x++[(aK (swI c (bj l (a % l.length)) x) (c % (([] :List aDc)++bT (a % l.length) l++ai (a % l.length) l).length))]).length/\(swI c (bj l (a % l.length)) x++[(aK (swI c (bj l (a % l.length)) x) (c % (([] :List aDc)++bT (a % l.length) l++ai (a % l.length) l).length))]).length<=1000/\(dP (swI c (bj l (a % l.length)) x++[(aK (swI c (bj l (a % l.length)) x) (c % (([] :List aDc)++bT (a % l.length) l++ai (a % l.length) l).length))])=0->BdOk (swI c (bj l (a % l.length)) x++[(aK (swI c (bj l (a % l.length)) x) (c % (([] :List aDc)++bT (a % l.length) l++ai (a % l.length) l).length))]))/\(¬dP l=0->decide (dP l=dP (swI c (bj l (a % l.length)) x++[(aK (swI c (bj l (a % l.length)) x) (c % (([] :List aDc)++bT (a % l.length) l++ai (a % l.length) l).length))]))=true)/\
      (¬(¬dP l=0)->(¬dP (swI c (bj l (a % l.length)) x++[(aK (swI c (bj l (a % l.length)) x) (c % (([] :List aDc)++bT (a % l.length) l++ai (a % l.length) l).length))])=0->decide (dP l=dP (swI c (bj l (a % l.length)) x++[(aK (swI c (bj l (a % l.length)) x) (c % (([] :List aDc)++bT (a % l.length) l++ai (a % l.length) l).length))]))=true)/\
       (¬(¬dP (swI c (bj l (a % l.length)) x++[(aK (swI c (bj l (a % l.length)) x) (c % (([] :List aDc)++bT (a % l.length) l++ai (a % l.length) l).length))])=0)->(¬((bN l).es.length:Int)=(bN (swI c (bj l (a % l.length)) x++[(aK (swI c (bj l (a % l.length)) x) (c % (([] :List aDc)++bT (a % l.length) l++ai (a % l.length) l).length))])).es.length->false=true)/\
        (¬(¬((bN l).es.length:Int)=(bN (swI c (bj l (a % l.length)) x++[(aK (swI c (bj l (a % l.length)) x) (c % (([] :List aDc)++bT (a % l.length) l++ai (a % l.length) l).length))])).es.length)->(bN l).es.length<=1000000/\(bN l).fs.length<=1000000/\(bN (swI c (bj l (a % l.length)) x++[(aK (swI c (bj l (a % l.length)) x) (c % (([] :List aDc)++bT (a % l.length) l++ai (a % l.length) l).length))])).es.length<=1000000/\(bN (swI c (bj l (a % l.length)) x++[(aK (swI c (bj l (a % l.length)) x) (c % (([] :List aDc)++bT (a % l.length) l++ai (a % l.length) l).length))])).fs.length<=1000000/\(0=(0:Int)/\(bN l).es=cg (bN l).es 0/\(bN (swI c (bj l (a % l.length)) x++[(aK (swI c (bj l (a % l.length)) x) (c % (([] :List aDc)++bT (a % l.length) l++ai (a % l.length) l).length))])).es=cg (bN (de l a c)).es 0/\(0:Nat)<=(bN l).es.length)/\
         (∀x_1:Nat,x_1<=(bN l).es.length->((x_1:Int)<(bN l).es.length->ix (x_1:Int) (bN l).es.length/\x_1<(cg (bN l).es x_1).length/\(((aP (cg (bN l).es x_1) x_1).src.length:Int)=0->false=true)/\
           (¬((aP (cg (bN l).es x_1) x_1).src.length:Int)=0->ix (x_1:Int) (bN l).es.length/\x_1<(cg (bN l).es x_1).length/\ix (x_1:Int) (bN (swI c (bj l (a % l.length)) x++[(aK (swI c (bj l (a % l.length)) x) (c % (([] :List aDc)++bT (a % l.length) l++ai (a % l.length) l).length))])).es.length/\x_1<(cg (bN (de l a c)).es x_1).length/\(((aP (cg (bN (de l a c)).es x_1) x_1).src.length:Int)<(aP (cg (bN l).es x_1) x_1).src.length->false=true)/\
            (¬((aP (cg (bN (de l a c)).es x_1) x_1).src.length:Int)<(aP (cg (bN l).es x_1) x_1).src.length->ix (x_1:Int) (bN l).es.length/\x_1<(cg (bN l).es x_1).length/\ix (x_1:Int) (bN (swI c (bj l (a % l.length)) x++[(aK (swI c (bj l (a % l.length)) x) (c % (([] :List aDc)++bT (a % l.length) l++ai (a % l.length) l).length))])).es.length/\x_1<(cg (bN (de l a c)).es x_1).length/\aG ((x_1:Int)+1)/\(x_1:Int)+1=((x_1+1:Nat):Int)/\cR (cg (bN l).es x_1) x_1 (⟨(aP (cg (bN l).es x_1) x_1).fr,(aP (cg (bN l).es x_1) x_1).to,(aP (cg (bN l).es x_1) x_1).lf,(aP (cg (bN l).es x_1) x_1).rt,([] :List Int)⟩:Ed)=cg (bN l).es (x_1+1)/\cR (cg (bN (de l a c)).es x_1) x_1 (⟨(aP (cg (bN (de l a c)).es x_1) x_1).fr,(aP (cg (bN (de l a c)).es x_1) x_1).to,(aP (cg (bN (de l a c)).es x_1) x_1).lf,(aP (cg (bN (de l a c)).es x_1) x_1).rt,([] :List Int)⟩:Ed)=cg (bN (de l a c)).es (x_1+1)/\x_1+1<=(bN l).es.length/\(bN l).es.length-(x_1+1)<(bN l).es.length-x_1)))/\
          (¬(x_1:Int)<(bN l).es.length->(bN l).es.length=(cg (bN l).es x_1).length/\(bN l).fs.length=(bN l).fs.length/\(bN (swI c (bj l (a % l.length)) x++[(aK (swI c (bj l (a % l.length)) x) (c % (([] :List aDc)++bT (a % l.length) l++ai (a % l.length) l).length))])).es.length=(cg (bN (de l a c)).es x_1).length/\(bN (swI c (bj l (a % l.length)) x++[(aK (swI c (bj l (a % l.length)) x) (c % (([] :List aDc)++bT (a % l.length) l++ai (a % l.length) l).length))])).fs.length=(bN (swI c (bj l (a % l.length)) x++[(aK (swI c (bj l (a % l.length)) x) (c % (([] :List aDc)++bT (a % l.length) l++ai (a % l.length) l).length))])).fs.length/\(⟨([] :List aDc),(bN l).vs,cg (bN l).es x_1,(bN l).fs⟩:Pl).sg.length<=1000000/\PlL (⟨([] :List aDc),(bN l).vs,cg (bN l).es x_1,(bN l).fs⟩:Pl)/\decide ((⟨([] :List aDc),(bN l).vs,cg (bN l).es x_1,(bN l).fs⟩:Pl)=(⟨([] :List aDc),(bN (swI c (bj l (a % l.length)) x++[(aK (swI c (bj l (a % l.length)) x) (c % (([] :List aDc)++bT (a % l.length) l++ai (a % l.length) l).length))])).vs,cg (bN (de l a c)).es x_1,(bN (swI c (bj l (a % l.length)) x++[(aK (swI c (bj l (a % l.length)) x) (c % (([] :List aDc)++bT (a % l.length) l++ai (a % l.length) l).length))])).fs⟩:Pl))=true))))))))))) (by kernel_rfl) (by
  change a<256/\c<256 at hp;obtain⟨ha,hc⟩:=hp;refine⟨λh=>h,λ_=>⟨λ_=>rfl,λh20=>⟨λ_=>rfl,λh0=> ?_⟩⟩⟩;have hl:0<l.length:=by omega
  have hk:a % l.length<l.length:=eO _ hl;have hk2:c % l.length<l.length:=eO _ hl;have e1:(([] :List aDc)++bT (a % l.length) l++ai (a % l.length) l).length=l.length:=o9 hk;have ls:∀x,(swI c (bj l (a % l.length)) x).length=l.length:=λx=>by rw[nR,o9 hk]
  refine⟨by unfold aG;omega,by omega,⟨by omega,by omega⟩,by rw[mh];simp only[iI];omega,⟨by omega,by omega⟩,rfl,by rw[List.nil_append,mh,ew];omega,⟨rfl,rfl,cO _⟩,λx hx=>⟨λhlt=> ?_,λhge=> ?_⟩⟩
  .have lx:=ls x;rw[e1]at*;have hx:x<l.length:=by omega
   have es:=GK (l:=swI c (bj l (a % l.length)) x) (i:=x) (j:=x) (s:=⟨(aK (swI c (bj l (a % l.length)) x) x).b,(aK (swI c (bj l (a % l.length)) x) x).b⟩) (by omega);rw[if_pos rfl]at es;refine⟨by unfold aG;omega,by unfold aG;omega,by decide,λh3=>⟨by unfold ix;omega,by omega,by unfold ix;omega,by omega,by unfold ix;omega,by omega,by unfold ix;omega,by rw[fA];omega,by unfold aG;omega,by omega,?_,by omega,by omega⟩,λh3=>⟨by unfold aG;omega,by omega,?_,by omega,by omega⟩⟩
   .rw[es,List.set_set]
    conv=>rhs;unfold swI
    rw[if_pos (by omega)];rfl
   .conv=>rhs;unfold swI
    rw[if_neg (by omega)]
  .rw[e1]at hge;obtain rfl:x=l.length:=by omega
   have lx:=ls l.length;rw[e1,show swI c (bj l (a % l.length)) l.length++[aK (swI c (bj l (a % l.length)) l.length) (c % l.length)] =de l a c from rfl];have hm:=zr (k:=a) (c:=c) hl;have be:dP (de l a c)=dP l:=Ff (JM hl) (by omega) (by omega);refine⟨by unfold aG;omega,by omega,by unfold ix;omega,by omega,by omega,by rw[eD];omega,by omega,λh=>pQ (by omega) h,rfl,by omega,λh=>pQ (by omega) h,λ_=>decide_eq_true be.symm,λz0=>⟨λ_=>decide_eq_true be.symm,λz1=> ?_⟩⟩;have z0:=mr.1 z0;have z1:=mr.1 z1;have O:OrdP (bN l) (bN (de l a c))/\PlS (bN l)/\PlS (bN (de l a c)):=by have e2:bN l=dR (aA l):=if_pos z0;have e3:bN (de l a c)=dR (aA (de l a c)):=if_pos z1;rw[e2,e3];exact⟨Xx hl (by omega) z0,Hf (pQ (by omega) z0) (wj z0),Hf (pQ (by omega) z1) (wj z1)⟩
   clear z0 z1 be hm;generalize bN l=p at*;generalize bN (de l a c)=q at*;obtain⟨O,S,S'⟩:=O;have g1:=S.ok.le;have g2:=S'.ok.le;have g3:=S.f.lf;have g4:=S'.f.lf;have g5:=O.len;refine⟨λh=>(h (by omega)).elim,λ_=>⟨by omega,by omega,by omega,by omega,⟨rfl,rfl,rfl,cO _⟩,λz hz=>⟨λhlt=> ?_,λhge2=> ?_⟩⟩⟩
   .have hz:z<p.es.length:=by omega
    have l1:=qW p.es z;have l2:=qW q.es z;have a1:aP (cg p.es z) z=aP p.es z:=by rw[qm,if_neg (by omega)]
    have a2:aP (cg q.es z) z=aP q.es z:=by rw[qm,if_neg (by omega)]
    obtain⟨s1,s2⟩:=O.src z hz;rw[a1,a2];refine⟨by unfold ix;omega,by omega,λh=>by omega,λ_=>⟨by unfold ix;omega,by omega,by unfold ix;omega,by omega,λh=>by omega,λ_=>⟨by unfold ix;omega,by omega,by unfold ix;omega,by omega,by unfold aG;omega,by omega,rfl,rfl,by omega,by omega⟩⟩⟩
   .obtain rfl:z=p.es.length:=by omega
    have l1:=qW p.es p.es.length;have l2:=qW q.es p.es.length;refine⟨l1.symm,rfl,l2.symm,rfl,cO _,⟨by have:=S.ok.lv;show p.vs.length<=1000000;omega,by show(cg p.es p.es.length).length<=1000000;omega,λe he=> ?_,g3,λf hf=> ?_⟩,decide_eq_true ?_⟩
    .obtain⟨j,hj,rfl⟩:=ki.1 he;have hj:j<(cg p.es p.es.length).length:=hj;have:=qm p.es j p.es.length;rw[if_pos ⟨by omega,by omega⟩,nV hj]at this;show((cg p.es p.es.length)[j]).src.length<=1000000;rw[this];exact cO _
    .exact⟨(S.f.fc f hf).1,λc hc=>((S.f.fc f hf).2 c hc).1⟩
    .have:cg p.es p.es.length=cg q.es p.es.length:=pN (t:= .E) (by omega) λj hj=>by
      have hj:j<p.es.length:=by have hj:j<(cg p.es p.es.length).length:=hj;omega
      show aP (cg p.es p.es.length) j=aP (cg q.es p.es.length) j;rw[qm,qm,if_pos ⟨hj,hj⟩,if_pos ⟨hj,by omega⟩];exact(O.eq j hj).symm
     rw[this,O.vs,O.fs])
end Go.Proofs.YtdnhebjljnfjaaaGreat
