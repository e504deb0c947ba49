/- What the statement stands on: contracts of functions, plain laws. Part 7 of 7, no condition of its own. (L2 K27 K28 K29 K30 J15 K31 M0 K32 K33 K34 Q0 K37 K38 K39 R2 R3 R4 R5 R6 R7 R8 R9 R10 R11 R12 R13 R14 R15 R17 R18 R19 K43 K46 K47 K48) -/
import Derived.Test.YtdaeofhdgabhjaaGreatCQ6
import Derived.Test.YtdaeofhdgabhjaaGreatRows
import Derived.ProofKit
import Derived.Carry
import Derived.SizedLaws
import Derived.Deep.SlicePairs
import Derived.Lib.SmallJoins
set_option linter.all false
set_option maxRecDepth 100000
set_option maxHeartbeats 8000000
open List renaming Perm.refl->CZ,mem_cons_self->bo,pairwise_cons->gh,mem_cons_of_mem->bk,mem_cons->aj,Pairwise.nil->tT,length_map->db,pairwise_map->i8,pairwise_iff_getElem->om,map_map->di,length_eq_zero_iff->mc,mem_iff_getElem->io,replicate->cS,length_set->y8,length_replicate->y7,take_succ_eq_append_getElem->kw,flatten_append->wJ,length_append->gi,mem_map->bR,getD->jq,set->mi,take->bD,length_cons->gu,length_singleton->vl,length_take->lm,getElem_map->jR,take_of_length_le->ip,length_pos_of_mem->I1,getElem_mem->mg,not_mem_nil->cG,mem_append->bi,mem_singleton->bZ,filter->rY,length->fh,range->bV,range_succ->rQ,filter_append->qQ,map_append->dR,drop->iA,length_drop->IS,Nodup->o9,Pairwise.imp_of_mem->Cd,flatMap_cons->fG,flatMap->kc,flatMap_append->vz,append_assoc->kD,take_add_one->rW,foldl_append->C3,any_eq_true->lj,take_length->tg,mem_range->cF,getElem_of_mem->jm,all_eq_false->y9,all_eq_true->bf,any->fo,mem_flatMap->cQ,length_range->IT,map_cons->cv,cons.injEq->nY,getElem_range->qP,flatten_cons->mX,map_congr_left->lk,getD_eq_getElem?_getD->dw,Pairwise.imp->Cg,mem_flatten->kY,mem_append_left->fT,mem_append_right->fB
open Go.Proofs.Tryz renaming prog->ak,underlying23->Sn,underlying44->Ir,underlying3->pF,underlying24->C5,underlying26->Sp
open Nat renaming le_refl->bX,zero_le->jS,mod_lt->bw,zero_add->jo,mul_le_mul->wC,mod_eq_of_lt->dp,le_antisymm->ti,add_mod_right->oj,mod_add_mod->kX,le_trans->cO,mod_self->kV
open Go.Value renaming int->cY
open Int renaming toNat_of_nonneg->I0,tmod->c5,toNat_natCast->jB,tdiv->fU
open And renaming intro->cM
open Prod renaming snd->yv
open Bool renaming eq_iff_iff->fg,and_eq_true->bn,not_eq_true'->Cc
open Go.IntKind renaming i64->iq,wrap->zA
open Go.DataW renaming weights->mj,trod_int->I2,weightsEach->Sq
open Go.Addr renaming add->Cp,add_mid->v8
open Go.World renaming cell?_spot->I3
open Go.RowKit
open Go.Proofs.YtdaeofhdgabhjaaGreat.Geo
open Go.Proofs.YtdaeofhdgabhjaaGreat.Geo renaming nth->aEv,V->aEw,S->aEx,sub->aEy,aH->aEE,fE->aEB,dt->aEF,Fan->aEG,Faces->aEH
namespace Go.Proofs.YtdaeofhdgabhjaaGreat
section
open Go.RowKit Go.Sort Go.Shelf Go.Lib
def vS(lt:Int->Int->Bool)(x:Int):List Int->List Int
 |[] =>[x]
 |y::r=>if lt y x=true then y::vS lt x r else x::y::r
def nC(lt:Int->Int->Bool):List Int->List Int
 |[] =>[]
 |x::l=>vS lt x (nC lt l)
def EM(lt:Int->Int->Bool)(x:Int):∀l:List Int,(vS lt x l).Perm (x::l)
 |[] =>CZ _
 |y::r=>by
  unfold vS;split
  .exact((EM lt x r).cons y).trans (List.Perm.swap x y r)
  grind
def uA(lt:Int->Int->Bool):∀l:List Int,(nC lt l).Perm l
 |[] =>CZ _
 |x::l=>(EM lt x _).trans ((uA lt l).cons x)
structure OrdOn(lt:Int->Int->Bool)(l:List Int):Prop where
 trans:∀x∈l,∀y∈l,∀z∈l,lt x y=true->lt y z=true->lt x z=true
 asym:∀x∈l,∀y∈l,lt x y=true->lt y x=false
 tot:∀x∈l,∀y∈l,lt x y=false->lt y x=false->x=y
def OrdOn.neg{lt:Int->Int->Bool}{l:List Int}(h:OrdOn lt l){x y z:Int}(hx:x∈l)(hy:y∈l)(hz:z∈l)(h1:lt x y=false)(h2:lt y z=false):lt x z=false:=by
 cases h3:lt x z with
 |false=>rfl
 |true=>
  cases h4:lt y x with
  |false=>have:=h.tot x hx y hy h1 h4;grind
  |true=>rw[h.trans y hy x hx z hz h4 h3]at h2;cases h2
def Jh{lt:Int->Int->Bool}{S:List Int}(h:OrdOn lt S){x:Int}(hx:x∈S):∀l:List Int,(∀y∈l,y∈S)->l.Pairwise (λa b=>lt b a=false)->(vS lt x l).Pairwise λa b=>lt b a=false
 |[],_,_=>List.pairwise_singleton _ _
 |y::r,hl,hs=>by
  have hy:=hl y bo;obtain⟨h1,h2⟩:=gh.1 hs;unfold vS;split
  .rename_i hlt;refine gh.2 ⟨λb hb=> ?_,Jh h hx r (λz hz=>hl z (bk _ hz)) h2⟩;rcases aj.1 ((EM lt x r).mem_iff.1 hb)with rfl|hb
   .exact h.asym _ hy _ hx hlt
   grind
  .rename_i hlt;have hlt:lt y x=false:=by simpa using hlt
   refine gh.2 ⟨λb hb=> ?_,hs⟩;rcases aj.1 hb with rfl|hb
   .exact hlt
   .exact h.neg (hl b (bk _ hb)) hy hx (h1 b hb) hlt
def DG{lt:Int->Int->Bool}{S:List Int}(h:OrdOn lt S):∀l:List Int,(∀y∈l,y∈S)->(nC lt l).Pairwise λa b=>lt b a=false
 |[],_=>tT
 |x::l,hl=>Jh h (hl x bo) _ (λy hy=>hl y (bk _ ((uA lt l).mem_iff.1 hy))) (DG h l λy hy=>hl y (bk _ hy))
def TY{lt:Int->Int->Bool}{l k:List Int}(h:OrdOn lt l)(hp:k.Perm l)(hs:k.Pairwise λa b=>lt b a=false):k=nC lt l:=
 List.Perm.eq_of_pairwise (λa b h1 h2 h3 h4=>h.tot a (hp.mem_iff.1 h1) b ((uA lt l).mem_iff.1 h2) h4 h3) hs (DG h l λ_ h=>h) (hp.trans (uA lt l).symm)
def ltA(v:List V)(p:Nat)(x y:Int):Bool:=decide (lW v p x.toNat y.toNat<0)
def NK{C:bE}{w:World}{p:Nat}{v:List V}{vs:List Value}(h:ae C [.fn (.func 222) [] [.pro [.pro [.sl v.length (LT.V.enc v),.junk,.junk] 0] 0,.pro [.int .i64 (p:Int)] 0]] vs):
  ∃cb:List Value,vs=[.func (.func 222) #[] cb.toArray]/\ae C [.pro [.pro [.sl v.length (LT.V.enc v),.junk,.junk] 0] 0,.pro [.int .i64 (p:Int)] 0] cb:=by
 unfold ae at h;obtain⟨u,r,rfl,h1,h2⟩:=h;unfold ae at h2;subst h2;unfold aU at h1;obtain⟨a,b,rfl,h3,h4⟩:=h1;unfold ae at h3;grind
def Vv(l:List Int)(v:List V)(p:Nat)(hn:l.length<=1000000)(hl:∀x∈l,0<=x/\x.toNat<v.length)(hp:p<v.length)(hv:v.length<=1000000)(hb:∀u∈v,bd 500000000 u)(hO:OrdOn (ltA v p) l):
  mS ak 221 (some l.length) [.fn (.func 222) [] [.pro [.pro [.sl v.length (LT.V.enc v),.junk,.junk] 0] 0,.pro [.int .i64 (p:Int)] 0]] 3 1 (LT.I.enc l) (LT.I.enc (nC (ltA v p) l)):=by
 have hlen:=(uA (ltA v p) l).length_eq;refine⟨by kernel_rfl,by rw[oS,oS,db,db,hlen],?_,?_⟩
 .intro C w b c arr vs hC hL hnc hA;obtain⟨cb,rfl,hcb⟩:=NK (w:=w) hA;have hnc:=hnc _ rfl;obtain⟨hH,hsz⟩:=LI hL;by_cases hl0:l=[]
  .subst hl0;have h:=AnyF.slices_SortFunc_none (P:=ak) (ρ:=Tryz.sort221_ren) {Tryz.sort221 with} (some ⟨b,0,none⟩) c (.func (.func 222) #[] cb.toArray) w;change Calls ak 221 _ _ _ at h;refine h.mono ?_;rintro e w' ⟨rfl,rfl⟩;exact⟨arr,rfl,hL,⟨rfl,rfl,rfl,bX _,λ_ _ _=>rfl⟩⟩
  obtain⟨x0,hx0⟩:=List.exists_mem_of_ne_nil _ hl0;have:Inhabited {x:Int//x∈l}:=⟨⟨x0,hx0⟩⟩;obtain⟨d,hd⟩:∃d:Array {x:Int//x∈l},d=l.attach.toArray:=⟨_,rfl⟩;have hds:d.size=l.length:=by rw[hd];simp
  have hdm:d.toList.map (·.1)=l:=by rw[hd];simp
  have hblk:b<w.heap.size:=(Array.getElem?_eq_some_iff.1 hL.blk).1;have hswo:SWO (ltOf λx y:{x:Int//x∈l}=>lW v p x.1.toNat y.1.toNat):=by
   have e:∀x y:{x:Int//x∈l},ltOf (λx y:{x:Int//x∈l}=>lW v p x.1.toNat y.1.toNat) x y=ltA v p x.1 y.1:=λx y=>rfl;refine⟨λx=> ?_,λx y z h1 h2=> ?_,λx y z h1 h2=> ?_⟩
   .rw[e];cases h:ltA v p x.1 x.1 with
    |false=>rfl
    |true=>have:=hO.asym _ x.2 _ x.2 h;grind
   .rw[e]at*;exact hO.trans _ x.2 _ y.2 _ z.2 h1 h2
   .rw[e]at*;exact hO.neg x.2 y.2 z.2 h1 h2
  have hHd:Holds (λx:{x:Int//x∈l}=>cY .i64 x.1) w b 0 d:=by
   intro j hj;have hj':j<l.length:=by omega
   have:=hH j (by omega);have e:(l.toArray)[j]! =d[j]!.1:=by rw[getElem!_pos _ j (by omega),getElem!_pos d j hj];subst hd;simp
   rw[e]at this;exact this
  have h:=Any.slices_SortFunc (P:=ak) (ρ:=Tryz.sort221_ren) Tryz.sort221 (λx:{x:Int//x∈l}=>cY .i64 x.1) (λ_=>rfl) (λx y=>lW v p x.1.toNat y.1.toNat) hswo 222 cb.toArray b 0 c d w (λargs w=>ky (by kernel_rfl) args w) (by
   intro m os dk hdk x y;have hx:=hl x.1 x.2;have hy:=hl y.1 y.2;obtain⟨A,r,hA2,hr,hS⟩:=R6 [.int .i64 (x.1.toNat:Int),.int .i64 (y.1.toNat:Int),aG.enc v,aQ.enc p] (x.1.toNat,y.1.toNat,v,p) rfl (jY.1 ⟨hx.2,hy.2,hp,hv,hb⟩);have hA3:A=[.int .i64 (x.1.toNat:Int),.int .i64 (y.1.toNat:Int),.pro [.pro [.sl v.length (LT.V.enc v),.junk,.junk] 0] 0,.pro [.int .i64 (p:Int)] 0] :=by have h5:avs [SV.int .i64 (x.1.toNat:Int),.int .i64 (y.1.toNat:Int),aG.enc v,aQ.enc p] =([.int .i64 (x.1.toNat:Int),.int .i64 (y.1.toNat:Int),.pro [.pro [.sl v.length (LT.V.enc v),.junk,.junk] 0] 0,.pro [.int .i64 (p:Int)] 0] :List PV).map .p:=rfl;rw[h5]at hA2;have:=congrArg bK hA2;rw[dS,dS]at this;cases this;rfl
   have hr2:r= .int .i64 (lW v p x.1.toNat y.1.toNat):=by have h6:(SV.int .i64 (lW v p x.1.toNat y.1.toNat)).av= .p r:=hr;cases h6;rfl
   subst hA3;subst hr2;have ex:((x.1.toNat:Nat):Int)=x.1:=I0 hx.1;have ey:((y.1.toNat:Nat):Int)=y.1:=I0 hy.1;rw[ex,ey]at hS;have h1:=hS.2 C (sortWorld (λx:{x:Int//x∈l}=>cY .i64 x.1) w b 0 m dk os) (.int .i64 x.1:: .int .i64 y.1::cb) (λb' o u h=> ?_) ?_
   .have h2:=Jo h1 (by grind);rw[show(#[cY .i64 x.1,cY .i64 y.1] ++cb.toArray)=(cY .i64 x.1:: .int .i64 y.1::cb).toArray by simp];refine h2.mono ?_;rintro e w' ⟨⟨u,rfl,hu,hbel⟩,hdr⟩;unfold aU at hu;subst hu;exact⟨rfl,(Lay.mk hbel hdr).grow⟩
   .obtain⟨h2,h3⟩:=hC _ _ _ h;unfold sortWorld;rw[cell?_grow _ _ _ (by show b'<(putRow _ _ _ _ _).heap.size;rw[size_putRow];exact World.block_lt_of_cell? w ⟨b',o,none⟩ h2),cell?_putRow_other _ _ b 0 _ _ (Or.inl h3)];exact h2
   .unfold ae;refine⟨_,_,rfl,by unfold aU;rfl,?_⟩;unfold ae;exact⟨_,_,rfl,by unfold aU;rfl,hcb⟩) hHd hblk (by omega)
  change Calls ak 221 _ _ _ at h;rw[hds]at h;refine h.mono ?_;rintro e w' ⟨rfl,d',n,os,hp,hs,rfl⟩;obtain⟨p1,_,p3⟩:=hp;have hG:=C8 (enc:=λx:{x:Int//x∈l}=>cY .i64 x.1) (w:=w) (g:=b) (n:=n) (d:=d') (os:=os);have hperm:d'.toList.Perm d.toList:=by
   have e1:(d'.extract 0 l.length).toList=d'.toList:=by rw[<-hds,<-p1];simp
   have e2:(d.extract 0 l.length).toList=d.toList:=by rw[<-hds];simp
   rwa[e1,e2]at p3
  have hpr:(d'.toList.map (·.1)).Perm l:=by have:=hperm.map (·.1);rwa[hdm]at this
  have hso:d'.toList.map (·.1)=nC (ltA v p) l:=by
   refine TY hO hpr ?_;rw[i8,om];intro i j hi hj hij;have hj':j<d'.size:=by simpa using hj
   have:=hs i j (jS _) hij (by omega);rw[getElem!_pos d' i (by omega),getElem!_pos d' j hj']at this;show ltOf (λx y:{x:Int//x∈l}=>lW v p x.1.toNat y.1.toNat) (d'.toList[j]) (d'.toList[i])=false;simpa using this
  refine⟨_,rfl,⟨I7 hL.blk,λh=>absurd h (by decide),λ_=> ?_,?_⟩,hG⟩
  .obtain⟨h1,h2,h3⟩:=hL.row (by decide);refine⟨by unfold putCells;grind,?_,h3⟩;rw[oS,db,hlen];unfold putCells;grind
  .intro i x hi;rw[<-hso,oS,di,List.getElem?_map]at hi;cases hx:d'.toList[i]? with
   |none=>grind
   |some y=>
    rw[hx]at hi;cases hi;have hi':i<d'.size:=by have:=(List.getElem?_eq_some_iff.1 hx).1;simpa using this
    have hds':d'.size=l.length:=by rw[p1,hds]
    refine⟨.int .i64 y.1,?_,rfl,by unfold aU;rfl⟩;unfold putCells;grind
 .intro h0 C w vs hC hA;obtain⟨cb,rfl,_⟩:=NK (w:=w) hA;have hl0:l=[] :=mc.1 (by grind);subst hl0;have h:=AnyF.slices_SortFunc_none (P:=ak) (ρ:=Tryz.sort221_ren) {Tryz.sort221 with} none 0 (.func (.func 222) #[] cb.toArray) w;change Calls ak 221 _ _ _ at h;refine h.mono ?_;rintro e w' ⟨rfl,rfl⟩;exact⟨rfl,Below.refl _ _⟩
def IA:List SV->Option (List Int×List V×Nat)
 |[.lst .I l,.fnp 222 [] [.pro [.pro [.lst .V v,.junk,.junk] 0] 0,.pro [.int .i64 (.ofNat p)] 0]] =>some (l,v,p)
 |_=>none
def Wh{l:List Int}{rest:List SV}{x:List Int×List V×Nat}(h:IA (.lst .I l::rest)=some x):∃v p,rest=[.fnp 222 [] [.pro [.pro [.lst .V v,.junk,.junk] 0] 0,.pro [.int .i64 (p:Nat)] 0]]/\x=(l,v,p):=by
 unfold IA at h;split at h
 .grind
 .cases h
noncomputable def aDg:Con:=⟨List Int×List V×Nat,IA,λ(l,v,p)=>[l.length<=1000000,(∀x∈l,0<=x/\x.toNat<v.length),p<v.length,v.length<=1000000,(∀u∈v,bd 500000000 u),OrdOn (ltA v p) l],.mutR .I 3 λ(l,v,p)=>nC (ltA v p) l⟩
def aBT:aDg.Okz 221:=by intro l rest x hd hp;obtain⟨v,p,rfl,rfl⟩:=Wh hd;obtain⟨h1,h2,h3,h4,h5,h6⟩:=jY.2 hp;exact⟨[.fn (.func 222) [] [.pro [.pro [.sl v.length (LT.V.enc v),.junk,.junk] 0] 0,.pro [.int .i64 (p:Int)] 0]],rfl,Vv l v p h1 h2 h3 h4 h5 h6⟩
noncomputable def tD:=(aBI.adk aBT).adk aB3
end
def ct(l:List V)(v:V):Nat:=l.findIdx λu=>decide (v=u)
def fR(l:List Int)(q:Int):Nat:=l.findIdx λu=>decide (q=u)
def fIx{t:LT}{l:List t.ty}{q:t.ty->Bool}{k:Nat}(hk:k<l.length)(h:q (t.nth l k)=true)(hu:aM (λj=>q (t.nth l j)=false) k):l.findIdx q=k:=by refine(List.findIdx_eq hk).2 ⟨by rw[<-LT.nth_eq t l hk];exact h,λj hj=> ?_⟩;have this:q (t.nth l j)=false:=hu j hj;rw[LT.nth_eq t l (by omega)]at this;exact this
def PZ{t:LT}{l:List t.ty}{q:t.ty->Bool}{v:t.ty}(hv:v∈l)(h:q v=true)(hu:aM (λj=>q (t.nth l j)=false) l.length):False:=by obtain⟨j,hj,rfl⟩:=io.1 hv;have this:q (t.nth l j)=false:=hu j hj;rw[LT.nth_eq t l hj,h]at this;cases this
def Oe{l:List Int}{q:Int}(h:q∈l):fR l q<l.length:=List.findIdx_lt_length_of_exists ⟨q,h,decide_eq_true rfl⟩
def mB{l:List V}{q:V}(h:q∈l):ct l q<l.length:=List.findIdx_lt_length_of_exists ⟨q,h,decide_eq_true rfl⟩
def aGr:Ar (List V×List (List Int)×List Int) where
 enc g:= .pro [.lst .V g.1,.lst .Q g.2.1,.lst .I g.2.2] 0
 dec s:=match s with
  | .pro [a,b,c] 0=>(match oc .V a,oc .Q b,oc .I c with|some x,some y,some z=>some (x,y,z)|_,_,_=>none)
  |_=>none
 ok s a h:=by
  split at h
  .split at h<;>cases h;rename_i h1 h2 h3;have e1:=qt h1;have e2:=qt h2;have e3:=qt h3;simp only[SV.av,avs,e1,e2,e3]
  .cases h
 pl _:=⟨_,rfl⟩
def iM(L:List (List Int))(i j:Nat)(st:Int):Nat:=
 let l:=af L i
 (co l (((fR l j:Int)+st+l.length).toNat % l.length)).toNat
noncomputable def aBw:Con:=con (ac (aL .V) (a1 aV)) (λ(l,v)=>[l.length<=1000000,v∈l]) (λ(l,v)=> .iqz (ct l v:Nat))
def aBk:aBw.Okz 150:=bJ tD (λ(l,v)=>[cnt 2 8 l.length (aM λj=>decide (v=aEv l j)=false)]
  ) (λ(_,_)=>⟨_,rfl⟩) λ(l,v) hp=>az ((0=(0:Int)/\(0:Nat)<=l.length/\aM (λj=>decide (v=aEv l j)=false) 0)/\
 (∀x:Nat,aC (x:Int) λA=>x<=l.length/\aM (λj=>decide (v=aEv l j)=false) x->(A<l.length->ix A l.length/\(v=(aEv l x)->A=ct l v)/\
   (¬v=(aEv l x)->aJ (A+1)/\A+1=((x+1:Nat):Int)/\x+1<=l.length/\aM (λj=>decide (v=aEv l j)=false) (x+1)/\l.length-(x+1)<l.length-x))/\
  (¬A<l.length-> -1=(ct l v:Int)))) (by kernel_rfl) (by
  change l.length<=1000000/\v∈l at hp;obtain⟨hl,hv⟩:=hp;have e1:∀x:Nat,(x:Int)<l.length->v=aEv l x->aM (λj=>decide (v=aEv l j)=false) x->(x:Int)=ct l v:=λx h1 h2 h3=>by rw[show ct l v=x from fIx (t:= .V) (by omega) (decide_eq_true h2) h3]
  have e2:∀x:Nat,¬(x:Int)<l.length->x<=l.length->aM (λj=>decide (v=aEv l j)=false) x-> -1=(ct l v:Int):=λx h1 h2 h3=>by
   obtain rfl:x=l.length:=by omega
   exact(PZ (t:= .V) (q:=λu=>decide (v=u)) hv (decide_eq_true rfl) h3).elim
  with_reducible ((repeat' first|apply cM|intro);all_goals repeat cases‹_/\_›)
  all_goals grind)
noncomputable def Pw:=tD.adk aBk
noncomputable def aDD:Con:=con (ac (aL .I) (a1 aI)) (λ(l,q)=>[l.length<=1000000,q∈l]) (λ(l,q)=> .iqz (fR l q:Nat))
def aCg:aDD.Okz 176:=bJ Pw (λ(l,q)=>[cnt 2 8 l.length (aM λj=>decide (q=co l j)=false)]
  ) (λ(_,_)=>⟨_,rfl⟩) λ(l,q) hp=>az ((0=(0:Int)/\(0:Nat)<=l.length/\aM (λj=>decide (q=co l j)=false) 0)/\
 (∀x:Nat,aC (x:Int) λA=>x<=l.length/\aM (λj=>decide (q=co l j)=false) x->(A<l.length->ix A l.length/\(q=co l x->A=fR l q)/\
   (¬q=co l x->aJ (A+1)/\A+1=((x+1:Nat):Int)/\x+1<=l.length/\aM (λj=>decide (q=co l j)=false) (x+1)/\l.length-(x+1)<l.length-x))/\
  (¬A<l.length-> -1=(fR l q:Int)))) (by kernel_rfl) (by
  change l.length<=1000000/\q∈l at hp;obtain⟨hl,hv⟩:=hp;have e1:∀x:Nat,(x:Int)<l.length->q=co l x->aM (λj=>decide (q=co l j)=false) x->(x:Int)=fR l q:=λx h1 h2 h3=>by rw[show fR l q=x from fIx (t:= .I) (by omega) (decide_eq_true h2) h3]
  have e2:∀x:Nat,¬(x:Int)<l.length->x<=l.length->aM (λj=>decide (q=co l j)=false) x-> -1=(fR l q:Int):=λx h1 h2 h3=>by
   obtain rfl:x=l.length:=by omega
   exact(PZ (t:= .I) (q:=λu=>decide (q=u)) hv (decide_eq_true rfl) h3).elim
  with_reducible ((repeat' first|apply cM|intro);all_goals repeat cases‹_/\_›)
  all_goals grind)
noncomputable def Qw:=Pw.adk aCg
noncomputable def aEh:Con:=con (ac aGr (ac aN (ac aN (a1 aI)))) (λ(g,i,j,st)=>[g.1.length<=1000000,g.2.1.length<=1000000,i<g.2.1.length,(j:Int)∈af g.2.1 i,(af g.2.1 i).length<=1000000,(∀x∈af g.2.1 i,0<=x),st=1\/st= -1]) (λ(g,i,j,st)=> .iqz (iM g.2.1 i j st:Nat)
 )
def aCU:aEh.Okz 116:=bJ Qw (λ(_,_,_,_)=>[]) (λ(_,_,_,_)=>⟨_,rfl⟩) λ(g,i,j,st) hp=>az (aC (af g.2.1 i) λB=>aC (fR B (j:Int):Int) λC=>aC (B.length:Int) λD=>aC (C+st+B.length) λE=>ix (i:Int) g.2.1.length/\B.length<=1000000/\(j:Int)∈af g.2.1 i/\aJ (C+st)/\aJ E/\D≠0/\ix (c5 E D) B.length/\co B (c5 E D).toNat=iM g.2.1 i j st) (by kernel_rfl) (by
 change g.1.length<=1000000/\g.2.1.length<=1000000/\i<g.2.1.length/\(j:Int)∈af g.2.1 i/\(af g.2.1 i).length<=1000000/\((∀x∈af g.2.1 i,0<=x))/\(st=1\/st= -1)at hp;obtain⟨h1,h2,h3,h4,h5,h6,h7⟩:=hp;unfold iM;generalize af g.2.1 i=l at*;have h8:=Oe h4;have e0:0<=(fR l (j:Int):Int)+st+l.length:=by omega
 have e1:c5 ((fR l (j:Int):Int)+st+l.length) (l.length:Int)=(((((fR l (j:Int):Int)+st+l.length).toNat % l.length:Nat)):Int):=by rw[Int.tmod_eq_emod_of_nonneg e0,<-I0 e0];rfl
 have e2:((fR l (j:Int):Int)+st+l.length).toNat % l.length<l.length:=bw _ (by omega);refine⟨eW h3,h5,h4,bW (by omega),bW (by omega),by omega,by rw[e1];exact eW e2,?_⟩;rw[e1];have h9:=h6 _ (show co l (((fR l (j:Int):Int)+st+l.length).toNat % l.length)∈l by rw[show co l _=_ from oF e2];grind);grind)
noncomputable def Ri:=Qw.adk aCU
def iR(L:List (List Int))(a b:Nat):List (List Int):=L.set a (af L a++[(b:Int)])
def both(L:List (List Int))(a b:Nat):List (List Int):=iR (iR L a b) b a
def rgO(base m:Nat):Nat->List (List Int)->List (List Int)
 |0,L=>L
 |i+1,L=>both (rgO base m i L) (base+i) (base+(i+1) % m)
def rgN(n base m:Nat):Nat->List Int->List Int
 |0,N=>N
 |i+1,N=>if n=0 then(rgN n base m i N).set (base+i) ((base+(i+1) % m:Nat):Int)else(rgN n base m i N).set (base+(i+1) % m) ((base+i:Nat):Int)
def bs(R:List aE)(k:Nat):Nat:=(R.take k).flatten.length
def rsO(R:List aE):Nat->List (List Int)->List (List Int)
 |0,L=>L
 |k+1,L=>rgO (bs R k) (aA R k).length (aA R k).length (rsO R k L)
def rsN(R:List aE):Nat->List Int->List Int
 |0,N=>N
 |k+1,N=>rgN k (bs R k) (aA R k).length (aA R k).length (rsN R k N)
def dgO(v:List aEw)(D:List aEx):Nat->List (List Int)->List (List Int)
 |0,L=>L
 |k+1,L=>both (dgO v D k L) (ct v (bB D k).a) (ct v (bB D k).b)
def dgP(v:List aEw)(D:List aEx):List (Nat×Nat):=D.map λd=>(ct v d.a,ct v d.b)
def stO(v:List aEw):Nat->List (List Int)->List (List Int)
 |0,L=>L
 |k+1,L=>(stO v k L).set k (nC (ltA v k) (af (stO v k L) k))
def oX(s:Shape)(k:Nat):List (List Int):=rsO (aD (aK s)) k (cS (vOf s).length [])
def nX(s:Shape)(k:Nat):List Int:=rsN (aD (aK s)) k (cS (vOf s).length 0)
def oB(s:Shape):List (List Int):=rsO (aD (aK s)) (aD (aK s)).length (cS (vOf s).length [])
def oD(s:Shape):List (List Int):=dgO (vOf s) (dOf s) (dOf s).length (oB s)
def oG(s:Shape):List (List Int):=stO (vOf s) (vOf s).length (oD s)
def nG(s:Shape):List Int:=rsN (aD (aK s)) (aD (aK s)).length (cS (vOf s).length 0)
def pG(s:Shape):List (Nat×Nat):=dgP (vOf s) (dOf s)
def uT(L:List (List Int))(a c:Nat)(x:List Int):af (L.set a x) c=if c=a/\a<L.length then x else af L c:=by unfold af;grind
def xZ(L:List (List Int))(a b:Nat):(iR L a b).length=L.length:=y8 ..
def Ai(L:List (List Int))(a b:Nat):(both L a b).length=L.length:=by unfold both;rw[xZ,xZ]
def Fp(base m:Nat)(L:List (List Int)):∀i,(rgO base m i L).length=L.length
 |0=>rfl
 |i+1=>(Ai _ _ _).trans (Fp base m L i)
def xg(n base m:Nat)(N:List Int):∀i,(rgN n base m i N).length=N.length
 |0=>rfl
 |i+1=>by unfold rgN;split<;>rw[y8,xg n base m N i]
def Nu(R:List aE)(L:List (List Int)):∀k,(rsO R k L).length=L.length
 |0=>rfl
 |k+1=>(Fp _ _ _ _).trans (Nu R L k)
def Fo(R:List aE)(N:List Int):∀k,(rsN R k N).length=N.length
 |0=>rfl
 |k+1=>(xg _ _ _ _ _).trans (Fo R N k)
def GH(v:List aEw)(D:List aEx)(L:List (List Int)):∀k,(dgO v D k L).length=L.length
 |0=>rfl
 |k+1=>(Ai _ _ _).trans (GH v D L k)
def Ap(v:List aEw)(L:List (List Int)):∀k,(stO v k L).length=L.length
 |0=>rfl
 |k+1=>(y8 ..).trans (Ap v L k)
def PL(s:Shape)(k:Nat):(oX s k).length=(vOf s).length:=(Nu _ _ k).trans y7
def Gl(s:Shape)(k:Nat):(nX s k).length=(vOf s).length:=(Fo _ _ k).trans y7
def PM(s:Shape):(oB s).length=(vOf s).length:=PL s _
def x7(s:Shape):(oD s).length=(vOf s).length:=(GH _ _ _ _).trans (PM s)
def aAI(s:Shape):(oG s).length=(vOf s).length:=(Ap _ _ _).trans (x7 s)
def Bg{L:List (List Int)}{t:Nat}(h:∀c,(af L c).length<=t)(a b c:Nat):(af (iR L a b) c).length<=t+1:=by unfold iR;rw[uT];grind
def Pf{L:List (List Int)}{t:Nat}(h:∀c,(af L c).length<=t)(a b c:Nat):(af (both L a b) c).length<=t+2:=Bg (Bg h a b) b a c
def HR{L:List (List Int)}{t:Nat}(h:∀c,(af L c).length<=t)(base m:Nat):∀i c,(af (rgO base m i L) c).length<=t+2*i
 |0,c=>h c
 |i+1,c=>Pf (HR h base m i) _ _ c
def qu{R:List aE}{k:Nat}(h:k<R.length):bs R k+(aA R k).length=bs R (k+1):=by unfold bs;rw[kw h,wJ,List.flatten_singleton,gi,lF h]
def vL(R:List aE)(k:Nat):bs R k<=R.flatten.length:=by
 unfold bs
 conv=>rhs;rw[<-List.take_append_drop k R,wJ,gi]
 omega
def P5{L:List (List Int)}{t:Nat}(h:∀c,(af L c).length<=t)(R:List aE):∀k,k<=R.length->∀c,(af (rsO R k L) c).length<=t+2*bs R k
 |0,_,c=>h c
 |k+1,hk,c=>by
  have:=HR (P5 h R k (by omega)) (bs R k) (aA R k).length (aA R k).length c;have e:=qu (R:=R) (k:=k) (by omega);show(af (rgO _ _ _ _) c).length<=_;omega
def R5(s:Shape)(k:Nat)(hk:k<=(aD (aK s)).length)(c:Nat):(af (oX s k) c).length<=2*bs (aD (aK s)) k:=by
 have:=P5 (L:=cS (vOf s).length []) (t:=0) (λc=>by unfold af;grind) (aD (aK s)) k hk c
 rw[jo]at this;exact this
def QJ{L:List (List Int)}{t:Nat}(h:∀c,(af L c).length<=t)(v:List aEw)(D:List aEx):∀i c,(af (dgO v D i L) c).length<=t+2*i
 |0,c=>h c
 |i+1,c=>Pf (QJ h v D i) _ _ c
def xy(v:List aEw)(L:List (List Int)):∀k c,c<L.length->af (stO v k L) c=if c<k then nC (ltA v c) (af L c)else af L c
 |0,c,_=>(if_neg (Nat.not_lt_zero c)).symm
 |k+1,c,hc=>by
  show af ((stO v k L).set k (nC (ltA v k) (af (stO v k L) k))) c=_;rw[uT,Ap];by_cases h:c=k
  .subst h;rw[if_pos ⟨rfl,hc⟩,if_pos (by omega),xy v L c c hc,if_neg (Nat.lt_irrefl c)]
  .rw[if_neg λh2=>h h2.1,xy v L k c hc];grind
def ut{s:Shape}(hv:bM s=true):(dOf s).length<=6400/\∀d∈dOf s,d.a∈vOf s/\d.b∈vOf s:=by
 have V:VS s:=(lz s).1 hv;have R:bI s=true:=by rw[<-jW];exact hv
 have dE:(dN s (vOf s)).map (dD (vOf s))=dOf s:=by rw[GI R,sO R];exact(GG V (λx hx=>(ri s).subset hx) ((ri s).nodup_iff.2 V.nodup)).1
 have hvl:=pf s;have pL:(dN s (vOf s)).length<=6400:=by have:=zP (s:=s) (v:=vOf s) (vOf s).length;have h2:(vOf s).length*(vOf s).length<=80*80:=wC hvl hvl;unfold dN;omega
 refine⟨by grind,λd hd=> ?_⟩;rw[<-dE]at hd;obtain⟨p,hp,rfl⟩:=bR.1 hd;have:=J7 hp;exact⟨eC (by omega),eC (by omega)⟩
def GOk(s:Shape):Prop:=∀k,k<(vOf s).length->0<(af (oD s) k).length/\(∀x∈af (oD s) k,0<=x/\x.toNat<(vOf s).length)/\OrdOn (ltA (vOf s) k) (af (oD s) k)
noncomputable def jF(key:Nat)(x:Nat)(L:List (List Int)):Nat×Ann:=(key+10000,.mk Unit (λ_ _=>some ()) [] (λ_=>[]) (λ_=>[]) (λ_=>[(x,.fam 112 3 .I L [])]) (λ_=>0) (λ_=>[]))
noncomputable def aDH:Con:=IE (a1 aSh) (λs=>[Fit s,bM s=true,GOk s]) (λs=> .tup [.ptr 19 0,.own 40 .P (pG s).length]) (λs=>[(19,some (.box 114 [.lst .V (vOf s),.owF 14 (vOf s).length,.own 17 .I (vOf s).length])),(14,some (.fam 112 3 .I (oG s) [])),(17,some (.row 3 .I (nG s))),(40,some (.row 67 .P (pG s)))])
def aCk:aDH.Okz 171:=Ow (qC Ri.o) (st:=true) (raw:=vD) (λs=>[lp 5 39 (aD (aK s)).length bh [] (λk=>[(7,.iqz (bs (aD (aK s)) k:Nat))]) (λk=>[(14,.fam 112 3 .I (oX s k) []),(17,.row 3 .I (nX s k))]) λk=>
  [lp 8 46 (aA (aD (aK s)) k).length bh [] bh (λi=>[(14,.fam 112 3 .I (rgO (bs (aD (aK s)) k) (aA (aD (aK s)) k).length i (oX s k)) []),(17,.row 3 .I (rgN k (bs (aD (aK s)) k) (aA (aD (aK s)) k).length i (nX s k)))]) λi=>
  [jU 11 [(11,.iqz (bs (aD (aK s)) k+i:Nat)),(12,.iqz (bs (aD (aK s)) k+(i+1) % (aA (aD (aK s)) k).length:Nat))],
  jF 12 14 (iR (rgO (bs (aD (aK s)) k) (aA (aD (aK s)) k).length i (oX s k)) (bs (aD (aK s)) k+i) (bs (aD (aK s)) k+(i+1) % (aA (aD (aK s)) k).length))]],
  lp 22 120 (dOf s).length bh [40] (λk=>[(13,.own 40 .P k)]) (λk=>[(14,.fam 112 3 .I (dgO (vOf s) (dOf s) k (oB s)) []),(40,.row 67 .P ((pG s).take k))]) λk=>
  [jF 26 14 (iR (dgO (vOf s) (dOf s) k (oB s)) (ct (vOf s) (bB (dOf s) k).a) (ct (vOf s) (bB (dOf s) k).b))],
  lp 30 173 (vOf s).length bh [] bh (λk=>[(14,.fam 112 3 .I (stO (vOf s) k (oD s)) []),(0,.box 0 [.undef])])]) λs hp=>az (aC (oB s) λA=>aC (oD s) λB=>aC (pG s) λC=>aC (vOf s) λD=>aC (dOf s) λE=>aC (aK s) λG=>aC (0:Nat) λK=>aC (0:Int) λM=>aC (aD G) λV=>aC ([] :List Int) λa=>aC (D.length:Int) λe=>Fit s/\0<=e/\e=D.length/\e<=1000000/\D.length*24<=1000000000/\0<=e/\e=D.length/\e<=1000000/\D.length*8<=1000000000/\Fit s/\Fit G/\K<G.outer.length/\(∀r:aE,r∈G.holes->K<r.length)/\(0=M/\0=(bs V 0:Int)/\cS D.length a=oX s 0/\cS D.length 0=nX s 0/\K<=V.length)/\
 (∀x:Nat,aC (x+1) λF=>aC (oX s x) λH=>aC (nX s x) λI=>aC (x:Int) λL=>aC (bs V x) λW=>aC (aA V x) λX=>aC (bs V x:Int) λZ=>x<=V.length->(L<V.length->ix L V.length/\(0=M/\oX s x=rgO W X.length 0 H/\nX s x=rgN x W X.length 0 I/\K<=X.length)/\
   (∀x_1:Nat,aC (x_1+1) λJ=>aC (x_1:Int) λO=>aC (bs V x+x_1) λY=>aC (x_1+1:Nat) λd=>aC ((bs V x+x_1:Nat):Int) λm=>aC (J % X.length:Nat) λn=>aC (rgO W X.length x_1 H) λo=>aC (jq o Y a) λp=>aC (bs V x+J % X.length) λq=>aC (iR o Y q) λt=>aC (jq t q a) λv=>aC (jq t q a++[m]) λw=>aC (rgN x W X.length x_1 I) λz=>aC ((bs V x+J % X.length:Nat):Int) λA4=>aC (jq o Y a++[A4]) λA5=>x_1<=X.length->(O<X.length->(aJ (Z+x_1)/\aJ (O+1)/\(X.length:Int)≠0/\aJ (Z+(n:Int))/\Z+x_1=m/\Z+(n:Int)=A4)/\
     (∀y:Unit,(ix m D.length/\bs V x+x_1<o.length/\bs V x+x_1<o.length/\p.length=p.length/\p.length+[A4].length<=1000000/\ix m D.length/\bs V x+x_1=bs V x+x_1/\bs V x+x_1<o.length/\bs V x+x_1<o.length/\A5.length=A5.length/\mi o Y A5=iR o Y q)/\
      (∀y_1:Unit,ix A4 D.length/\bs V x+J % X.length<t.length/\bs V x+J % X.length<t.length/\v.length=v.length/\v.length+[m].length<=1000000/\ix A4 D.length/\bs V x+J % X.length=bs V x+J % X.length/\bs V x+J % X.length<t.length/\(L=0->ix m D.length/\bs V x+x_1<z.length/\aJ (O+1)/\bs V x+J % X.length<t.length/\w.length=w.length/\O+1=(d:Int)/\mi t q w=rgO W X.length J H/\mi z Y A4=rgN x W X.length J I/\x_1+1<=X.length/\X.length-J<X.length-x_1)/\
       (¬L=0->ix A4 D.length/\bs V x+J % X.length<z.length/\aJ (O+1)/\bs V x+J % X.length<t.length/\w.length=w.length/\O+1=(d:Int)/\mi t q w=rgO W X.length J H/\mi z q m=rgN x W X.length J I/\x_1+1<=X.length/\X.length-J<X.length-x_1))))/\
    (¬O<X.length->aJ (Z+X.length)/\aJ (L+1)/\L+1=((x+1:Nat):Int)/\Z+X.length=bs V F/\rgO W X.length x_1 H=oX s F/\rgN x W X.length x_1 I=nX s F/\x+1<=V.length/\V.length-F<V.length-x)))/\
  (¬L<V.length->Fit s/\(0=M/\K=0/\oX s x=dgO D E 0 A/\bD 0 C=([] :List (Prod Nat Nat))/\K<=E.length)/\
   (∀x_1:Nat,aC (x_1+1) λN=>aC (x_1:Int) λP=>aC (bB E x_1) λR=>aC (ct D R.a) λS=>aC (ct D R.b) λT=>aC (dgO D E x_1 A) λb=>aC (iR b S T) λc=>aC (jq b S a) λf=>aC (jq c T a) λg=>aC (bD x_1 C) λh=>aC (ct D R.a:Int) λi=>aC (ct D R.b:Int) λj=>aC (jq b S a++[j]) λA0=>aC (ct D R.a,ct D R.b) λA1=>aC (jq c T a++[i]) λA2=>x_1<=E.length->(P<E.length->ix P E.length/\D.length<=1000000/\R.a∈vOf s/\D.length<=1000000/\R.b∈vOf s/\(ix i D.length/\ct D R.a<b.length/\ct D R.a<b.length/\f.length=f.length/\f.length+[j].length<=1000000/\ix i D.length/\ct D R.a=ct D R.a/\ct D R.a<b.length/\ct D R.a<b.length/\A0.length=A0.length/\mi b S A0=iR b S T)/\
     (∀y:Unit,ix j D.length/\ct D R.b<c.length/\ct D R.b<c.length/\g.length=g.length/\g.length+[i].length<=1000000/\ix j D.length/\ct D R.b=ct D R.b/\ct D R.b<c.length/\x_1=h.length/\h.length+[A1].length<=1000000/\aJ (P+1)/\ct D R.b<c.length/\A2.length=A2.length/\P+1=((x_1+1:Nat):Int)/\(bD x_1 C++[A1]).length=x_1+1/\mi c T A2=dgO D E N A/\bD x_1 C++[A1] =bD N C/\x_1+1<=E.length/\E.length-N<E.length-x_1))/\
    (¬P<E.length->(0=M/\dgO D E x_1 A=stO D 0 B/\K<=D.length)/\
     (∀x_2:Nat,aC (x_2:Int) λQ=>aC (stO D x_2 B) λU=>aC (jq U x_2 a) λk=>x_2<=D.length->(Q<D.length->ix Q D.length/\x_2<U.length/\x_2<U.length/\k.length=k.length/\K<k.length/\k.length<=1000000/\(∀x:Int,x∈jq U x_2 a->0<=x/\x.toNat<D.length)/\x_2<D.length/\D.length<=1000000/\(∀u:aEw,u∈vOf s->bd 500000000 u)/\OrdOn (ltA D x_2) k/\aJ (Q+1)/\Q+1=((x_2+1:Nat):Int)/\mi U x_2 (nC (ltA D x_2) k)=stO D (x_2+1) B/\x_2+1<=D.length/\D.length-(x_2+1)<D.length-x_2)/\
      (¬Q<D.length->x_1=C.length/\vOf s=vOf s/\D.length=D.length/\D.length=D.length/\stO D x_2 B=oG s/\nX s x=nG s/\bD x_1 C=pG s))))))) (by kernel_rfl) (by
  change Fit s/\bM s=true/\GOk s at hp;obtain⟨hf,hv,hg⟩:=hp;have V:VS s:=(lz s).1 hv;have hR:bI s=true:=by rw[<-jW];exact hv
  have c1:aK s=eP s:=if_pos hv;have f1:Fit (aK s):=by rw[c1];exact LZ hf
  have f2:0<(aK s).outer.length:=by rw[c1];exact(AG V).1
  have f3:∀r∈(aK s).holes,0<r.length:=by rw[c1];exact(AG V).2
  have fl:(aD (aK s)).flatten=vOf s:=by rw[c1,sO hR];rfl
  have n80:(vOf s).length<=80:=pf s;have rl:(aD (aK s)).length<=1000:=by have:=f1.2.1;unfold aD;rw[gu];omega
  obtain⟨dl,dm⟩:=ut hv;have vb:∀u∈vOf s,bd 500000000 u:=λu hu=>by obtain⟨i,hi,rfl⟩:=fN.1 hu;exact BE hi (by decide)
  have hB:∀x:Nat,(x:Int)<(aD (aK s)).length->bs (aD (aK s)) x+(aA (aD (aK s)) x).length<=(vOf s).length:=λx h=>by rw[qu (by omega),<-fl];exact vL _ _
  have oXB:∀x:Nat,(x:Int)<(aD (aK s)).length->∀c,(af (oX s x) c).length<=200:=λx h c=>by have h1:=R5 s x (by omega) c;grind
  have oBB:∀c,(af (oB s) c).length<=200:=λc=>by have h1:=R5 s _ (bX _) c;have h2:=vL (aD (aK s)) (aD (aK s)).length;rw[fl]at h2;have h3:(af (oB s) c).length<=2*bs (aD (aK s)) (aD (aK s)).length:=h1;omega
  have dOB:∀k,k<=(dOf s).length->∀c,(af (dgO (vOf s) (dOf s) k (oB s)) c).length<=13000:=λk hk c=>by have:=QJ oBB (vOf s) (dOf s) k c;omega
  have rOB:∀x i:Nat,(x:Int)<(aD (aK s)).length->(i:Int)<(aA (aD (aK s)) x).length->∀c,(af (rgO (bs (aD (aK s)) x) (aA (aD (aK s)) x).length i (oX s x)) c).length<=400:=λx i h h2 c=>by have:=HR (oXB x h) (bs (aD (aK s)) x) (aA (aD (aK s)) x).length i c;grind
  have r1:∀x i:Nat,(x:Int)<(aD (aK s)).length->(i:Int)<(aA (aD (aK s)) x).length->bs (aD (aK s)) x+i<(vOf s).length:=λx i h h2=>by grind
  have r2:∀x i:Nat,(x:Int)<(aD (aK s)).length->(i:Int)<(aA (aD (aK s)) x).length->bs (aD (aK s)) x+(i+1) % (aA (aD (aK s)) x).length<(vOf s).length:=λx i h h2=>by have:=hB x h;have:=bw (i+1) (show 0<(aA (aD (aK s)) x).length by omega);omega
  have t1:∀x i:Nat,(x:Int)<(aD (aK s)).length->(i:Int)<(aA (aD (aK s)) x).length->aJ ((bs (aD (aK s)) x:Int)+i):=λx i h h2=>bW (by grind);have t2:∀x i:Nat,(x:Int)<(aD (aK s)).length->(i:Int)<(aA (aD (aK s)) x).length->aJ ((i:Int)+1):=λx i h h2=>bW (by have:=r1 x i h h2;omega);have t3:∀x i:Nat,(x:Int)<(aD (aK s)).length->(i:Int)<(aA (aD (aK s)) x).length->aJ ((bs (aD (aK s)) x:Int)+(((i+1) % (aA (aD (aK s)) x).length:Nat):Int)):=λx i h h2=>bW (by grind);have t4:∀x i:Nat,(x:Int)<(aD (aK s)).length->(i:Int)<(aA (aD (aK s)) x).length->ix ((bs (aD (aK s)) x+i:Nat):Int) (vOf s).length:=λx i h h2=>eW (r1 x i h h2);have t5:∀x i:Nat,(x:Int)<(aD (aK s)).length->(i:Int)<(aA (aD (aK s)) x).length->ix ((bs (aD (aK s)) x+(i+1) % (aA (aD (aK s)) x).length:Nat):Int) (vOf s).length:=λx i h h2=>eW (r2 x i h h2);have rl2:∀x i:Nat,(rgO (bs (aD (aK s)) x) ((aA (aD (aK s)) x).length) i (oX s x)).length=(vOf s).length:=λx i=>(Fp _ _ _ i).trans (PL s x);have nl2:∀x i:Nat,(rgN x (bs (aD (aK s)) x) (aA (aD (aK s)) x).length i (nX s x)).length=(vOf s).length:=λx i=>(xg _ _ _ _ i).trans (Gl s x);have t6:∀x i:Nat,(x:Int)<(aD (aK s)).length->(i:Int)<(aA (aD (aK s)) x).length->bs (aD (aK s)) x+i<(rgO (bs (aD (aK s)) x) ((aA (aD (aK s)) x).length) i (oX s x)).length:=λx i h h2=>by grind
  have t7:∀x i a b:Nat,(x:Int)<(aD (aK s)).length->(i:Int)<(aA (aD (aK s)) x).length->bs (aD (aK s)) x+(i+1) % (aA (aD (aK s)) x).length<(iR (rgO (bs (aD (aK s)) x) ((aA (aD (aK s)) x).length) i (oX s x)) a b).length:=λx i a b h h2=>by rw[xZ,rl2];grind
  have t8:∀x i c:Nat,∀z:Int,(x:Int)<(aD (aK s)).length->(i:Int)<(aA (aD (aK s)) x).length->((rgO (bs (aD (aK s)) x) ((aA (aD (aK s)) x).length) i (oX s x)).getD c []).length+[z].length<=1000000:=λx i c z h h2=>by have:((rgO (bs (aD (aK s)) x) ((aA (aD (aK s)) x).length) i (oX s x)).getD c []).length<=400:=rOB x i h h2 c;grind
  have t9:∀x i a b c:Nat,∀z:Int,(x:Int)<(aD (aK s)).length->(i:Int)<(aA (aD (aK s)) x).length->((iR (rgO (bs (aD (aK s)) x) ((aA (aD (aK s)) x).length) i (oX s x)) a b).getD c []).length+[z].length<=1000000:=λx i a b c z h h2=>by have:((iR (rgO (bs (aD (aK s)) x) ((aA (aD (aK s)) x).length) i (oX s x)) a b).getD c []).length<=401:=Bg (rOB x i h h2) a b c;grind
  have t10:∀x i:Nat,(x:Int)<(aD (aK s)).length->(i:Int)<(aA (aD (aK s)) x).length->bs (aD (aK s)) x+i<(rgN x (bs (aD (aK s)) x) (aA (aD (aK s)) x).length i (nX s x)).length:=λx i h h2=>by grind
  have t11:∀x i:Nat,(x:Int)<(aD (aK s)).length->(i:Int)<(aA (aD (aK s)) x).length->bs (aD (aK s)) x+(i+1) % (aA (aD (aK s)) x).length<(rgN x (bs (aD (aK s)) x) (aA (aD (aK s)) x).length i (nX s x)).length:=λx i h h2=>by grind
  have t12:∀x i:Nat,(x:Int)=0->(rgN x (bs (aD (aK s)) x) (aA (aD (aK s)) x).length i (nX s x)).set (bs (aD (aK s)) x+i) ((bs (aD (aK s)) x+(i+1) % (aA (aD (aK s)) x).length:Nat):Int)=rgN x (bs (aD (aK s)) x) ((aA (aD (aK s)) x).length) (i+1) (nX s x):=λx i h=>(if_pos (show x=0 by omega)).symm;have t13:∀x i:Nat,¬(x:Int)=0->(rgN x (bs (aD (aK s)) x) (aA (aD (aK s)) x).length i (nX s x)).set (bs (aD (aK s)) x+(i+1) % (aA (aD (aK s)) x).length) ((bs (aD (aK s)) x+i:Nat):Int)=rgN x (bs (aD (aK s)) x) ((aA (aD (aK s)) x).length) (i+1) (nX s x):=λx i h=>(if_neg (show¬x=0 by omega)).symm;have t14:∀x:Nat,(x:Int)<(aD (aK s)).length->aJ ((bs (aD (aK s)) x:Int)+(aA (aD (aK s)) x).length):=λx h=>bW (by grind);have t15:∀x:Nat,(x:Int)<(aD (aK s)).length->(bs (aD (aK s)) x:Int)+(aA (aD (aK s)) x).length=(bs (aD (aK s)) (x+1):Int):=λx h=>by rw[<-qu (show x<(aD (aK s)).length by omega)];omega
  have t16:∀x i:Nat,¬(i:Int)<(aA (aD (aK s)) x).length->i<=(aA (aD (aK s)) x).length->rgO (bs (aD (aK s)) x) ((aA (aD (aK s)) x).length) i (oX s x)=oX s (x+1):=λx i h h2=>by rw[show i=(aA (aD (aK s)) x).length by omega];rfl
  have t17:∀x i:Nat,¬(i:Int)<(aA (aD (aK s)) x).length->i<=(aA (aD (aK s)) x).length->rgN x (bs (aD (aK s)) x) (aA (aD (aK s)) x).length i (nX s x)=nX s (x+1):=λx i h h2=>by rw[show i=(aA (aD (aK s)) x).length by omega];rfl
  have t18:∀x:Nat,¬(x:Int)<(aD (aK s)).length->x<=(aD (aK s)).length->oX s x=oB s:=λx h h2=>by rw[show x=(aD (aK s)).length by omega];rfl
  have t19:∀x:Nat,¬(x:Int)<(aD (aK s)).length->x<=(aD (aK s)).length->nX s x=nG s:=λx h h2=>by rw[show x=(aD (aK s)).length by omega];rfl
  have d0:∀x:Nat,(x:Int)<(dOf s).length->bB (dOf s) x∈dOf s:=λx h=>by rw[jH (show x<(dOf s).length by omega)];grind
  have d1:∀x:Nat,(x:Int)<(dOf s).length->(bB (dOf s) x).a∈vOf s:=λx h=>(dm _ (d0 x h)).1;have d2:∀x:Nat,(x:Int)<(dOf s).length->(bB (dOf s) x).b∈vOf s:=λx h=>(dm _ (d0 x h)).2;have d3:∀x:Nat,(x:Int)<(dOf s).length->ix (ct (vOf s) (bB (dOf s) x).a:Int) (vOf s).length:=λx h=>eW (mB (d1 x h));have d4:∀x:Nat,(x:Int)<(dOf s).length->ix (ct (vOf s) (bB (dOf s) x).b:Int) (vOf s).length:=λx h=>eW (mB (d2 x h));have dl2:∀x:Nat,(dgO (vOf s) (dOf s) x (oB s)).length=(vOf s).length:=λx=>(GH _ _ _ x).trans (PM s);have d5:∀x:Nat,(x:Int)<(dOf s).length->ct (vOf s) (bB (dOf s) x).a<(dgO (vOf s) (dOf s) x (oB s)).length:=λx h=>by rw[dl2];exact mB (d1 x h)
  have d6:∀x a b:Nat,(x:Int)<(dOf s).length->ct (vOf s) (bB (dOf s) x).b<(iR (dgO (vOf s) (dOf s) x (oB s)) a b).length:=λx a b h=>by rw[xZ,dl2];exact mB (d2 x h)
  have d7:∀x c:Nat,∀z:Int,(x:Int)<(dOf s).length->((dgO (vOf s) (dOf s) x (oB s)).getD c []).length+[z].length<=1000000:=λx c z h=>by have:((dgO (vOf s) (dOf s) x (oB s)).getD c []).length<=13000:=dOB x (by omega) c;simp only[vl];omega
  have d8:∀x a b c:Nat,∀z:Int,(x:Int)<(dOf s).length->((iR (dgO (vOf s) (dOf s) x (oB s)) a b).getD c []).length+[z].length<=1000000:=λx a b c z h=>by have:((iR (dgO (vOf s) (dOf s) x (oB s)) a b).getD c []).length<=13001:=Bg (dOB x (by omega)) a b c;simp only[vl];omega
  have pl:(pG s).length=(dOf s).length:=db ..;have d9:∀x:Nat,x<=(dOf s).length->(bD x (pG s)).length=x:=λx h=>by rw[lm];omega
  have d10:∀x:Nat,(x:Int)<(dOf s).length->bD x (pG s)++[(ct (vOf s) (bB (dOf s) x).a,ct (vOf s) (bB (dOf s) x).b)] =bD (x+1) (pG s):=λx h=>by rw[kw (show x<(pG s).length by omega)];unfold pG dgP;rw[jR,jH (show x<(dOf s).length by omega)]
  have d11:∀x:Nat,¬(x:Int)<(dOf s).length->x<=(dOf s).length->dgO (vOf s) (dOf s) x (oB s)=oD s:=λx h h2=>by rw[show x=(dOf s).length by omega];rfl
  have d12:∀x:Nat,¬(x:Int)<(dOf s).length->x<=(dOf s).length->x=(pG s).length:=λx h h2=>by omega
  have d13:∀x:Nat,¬(x:Int)<(dOf s).length->bD x (pG s)=pG s:=λx h=>ip (by omega);have s0:∀x:Nat,(x:Int)<(vOf s).length->(stO (vOf s) x (oD s)).getD x [] =af (oD s) x:=λx h=>by have:=xy (vOf s) (oD s) x x (by rw[x7];omega);rw[if_neg (Nat.lt_irrefl x)]at this;exact this
  have s1:∀x:Nat,(x:Int)<(vOf s).length->x<(stO (vOf s) x (oD s)).length:=λx h=>by rw[Ap,x7];omega
  have s2:∀x:Nat,(x:Int)<(vOf s).length->0<((stO (vOf s) x (oD s)).getD x []).length:=λx h=>by rw[s0 x h];exact(hg x (by omega)).1
  have s3:∀x:Nat,(x:Int)<(vOf s).length->((stO (vOf s) x (oD s)).getD x []).length<=1000000:=λx h=>by rw[s0 x h];have:=dOB _ (bX _) x;grind
  have s4:∀x:Nat,(x:Int)<(vOf s).length->∀y∈(stO (vOf s) x (oD s)).getD x [],0<=y/\y.toNat<(vOf s).length:=λx h=>by rw[s0 x h];exact(hg x (by omega)).2.1
  have s5:∀x:Nat,(x:Int)<(vOf s).length->OrdOn (ltA (vOf s) x) ((stO (vOf s) x (oD s)).getD x []):=λx h=>by rw[s0 x h];exact(hg x (by omega)).2.2
  have s6:∀x:Nat,¬(x:Int)<(vOf s).length->x<=(vOf s).length->stO (vOf s) x (oD s)=oG s:=λx h h2=>by rw[show x=(vOf s).length by omega];rfl
  have w1:∀x:Nat,x<=(vOf s).length->aJ ((x:Int)+1):=λx h=>bW (by omega);clear hB oXB oBB dOB rOB fl c1 V hR hg
  repeat' first|with_reducible apply cM|with_reducible intro
  all_goals repeat with_reducible cases‹_/\_›
  all_goals first|assumption|rfl|omega|(unfold ix;omega)|(unfold aJ;omega)|exact f3 _ ‹_› |exact t1 _ _ ‹_› ‹_› |exact t2 _ _ ‹_› ‹_› |exact t3 _ _ ‹_› ‹_› |exact t4 _ _ ‹_› ‹_› |exact t5 _ _ ‹_› ‹_› |exact t6 _ _ ‹_› ‹_› |exact t7 _ _ _ _ ‹_› ‹_› |exact t8 _ _ _ _ ‹_› ‹_› |exact t9 _ _ _ _ _ _ ‹_› ‹_› |exact t10 _ _ ‹_› ‹_› |exact t11 _ _ ‹_› ‹_› |exact t12 _ _ ‹_› |exact t13 _ _ ‹_› |exact t14 _ ‹_› |exact t15 _ ‹_› |exact t16 _ _ ‹_› ‹_› |exact t17 _ _ ‹_› ‹_› |exact t18 _ ‹_› ‹_› |exact t19 _ ‹_› ‹_› |exact d1 _ ‹_› |exact d2 _ ‹_› |exact d3 _ ‹_› |exact d4 _ ‹_› |exact d5 _ ‹_› |exact d6 _ _ _ ‹_› |exact d7 _ _ _ ‹_› |exact d8 _ _ _ _ _ ‹_› |exact(d9 _ ‹_›).symm|(rw[d9 _ ‹_›];simp;omega)|(rw[gi,d9 _ ‹_›];rfl)|exact d10 _ ‹_› |exact d11 _ ‹_› ‹_› |exact d12 _ ‹_› ‹_› |exact d13 _ ‹_› |exact s1 _ ‹_› |exact s2 _ ‹_› |exact s3 _ ‹_› |exact(s4 _ ‹_› _ ‹_›).1|exact(s4 _ ‹_› _ ‹_›).2|exact vb _ ‹_› |exact s5 _ ‹_› |grind)
noncomputable def Q0:=Ri.adk aCk
def gq(v:List V)(L:List (List Int))(i j:Nat):Bool:=decide (0<=turn (aEv v i) (aEv v (iM L i j (-1))) (aEv v (iM L i j 1)))
structure ArOk(v:List V)(L:List (List Int))(i j:Nat):Prop where
 iL:i<L.length
 mem:(j:Int)∈af L i
 rng:∀x∈af L i,0<=x/\x.toNat<v.length
 len:(af L i).length<=1000000
def ArOk.around{v:List V}{L:List (List Int)}{i j:Nat}(h:ArOk v L i j)(st:Int):((iM L i j st:Nat):Int)∈af L i/\iM L i j st<v.length:=by
 unfold iM;dsimp only;have h0:0<(af L i).length:=I1 h.mem;generalize ((fR (af L i) (j:Int):Int)+st+(af L i).length).toNat=k;have hm:co (af L i) (k % (af L i).length)∈af L i:=by rw[show co (af L i) (k % (af L i).length)=_ from oF (bw _ h0)];exact mg _
 obtain⟨h1,h2⟩:=h.rng _ hm;grind
noncomputable def aDG:Con:=con (ac aGr (ac aN (a1 aN))) (λ(g,i,j)=>[g.1.length<=1000000,g.2.1.length<=g.1.length,(∀u∈g.1,bd 1000000000 u),ArOk g.1 g.2.1 i j]) (λ(g,i,j)=> .bool (gq g.1 g.2.1 i j)
 )
def aCj:aDG.Okz 172:=bJ Q0 (λ(_,_,_)=>[]) (λ(_,_,_)=>⟨_,rfl⟩) λ(g,i,j) hp=>az (aC (aEv g.1 i) λA=>aC (af g.2.fst i) λB=>aC (aEv g.1 (iM g.2.fst i j 1)) λD=>aC (aEv g.1 (iM g.2.fst i j (-1))) λF=>g.fst.length<=1000000/\g.2.fst.length<=1000000/\i<g.2.fst.length/\(j:Int)∈af g.2.fst i/\B.length<=1000000/\(∀x:Int,x∈af g.2.fst i->0<=x)/\((-1:Int)=1\/(-1:Int)= -1)/\g.fst.length<=1000000/\g.2.fst.length<=1000000/\i<g.2.fst.length/\(j:Int)∈af g.2.fst i/\B.length<=1000000/\(∀x:Int,x∈af g.2.fst i->0<=x)/\((1:Int)=1\/(1:Int)= -1)/\ix (i:Int) g.1.length/\ix (iM g.2.fst i j (-1):Int) g.1.length/\ix (iM g.2.fst i j 1:Int) g.1.length/\bd 1000000000 A/\bd 1000000000 F/\bd 1000000000 D/\decide (0<=turn A F D)=gq g.1 g.2.1 i j) (by kernel_rfl) (by
 change g.1.length<=1000000/\g.2.1.length<=g.1.length/\((∀u∈g.1,bd 1000000000 u))/\ArOk g.1 g.2.1 i j at hp;obtain⟨h1,h2,h3,h4⟩:=hp;have a1:=(h4.around (-1)).2;have a2:=(h4.around 1).2;have bN:∀i:Nat,i<g.1.length->bd 1000000000 (aEv g.1 i):=λi h=>h3 _ (eC h);have r:∀x∈af g.2.1 i,0<=x:=λx hx=>(h4.rng x hx).1;have iL:=h4.iL;have iv:i<g.1.length:=by omega
 have l2:g.2.1.length<=1000000:=by omega
 exact⟨h1,l2,iL,h4.mem,h4.len,r,.inr rfl,h1,l2,iL,h4.mem,h4.len,r,.inl rfl,eW iv,eW a1,eW a2,bN _ iv,bN _ a1,bN _ a2,rfl⟩)
noncomputable def Qz:=Q0.adk aCj
def uc(l:List Int)(q:Int):List Int:=l.filter λy=> !(y==q)
def By(L:List (List Int))(i j:Nat):List (List Int):=(L.set j (uc (af L j) i)).set i (uc (af L i) j)
def stS(v:List V)(P:List (Nat×Nat)):Nat->List (List Int)->List (List Int)×List (Nat×Nat)
 |0,L=>(L,[])
 |k+1,L=>
  let r:=stS v P k L
  let p:=aY P k
  if gq v r.1 p.1 p.2=true/\gq v r.1 p.2 p.1=true then(By r.1 p.1 p.2,r.2)else(r.1,r.2++[p])
def sG(s:Shape)(k:Nat):List (List Int)×List (Nat×Nat):=stS (vOf s) (pG s) k (oG s)
def soG(s:Shape):List (List Int):=(sG s (pG s).length).1
def spG(s:Shape):List (Nat×Nat):=(sG s (pG s).length).2
def Nk(v:List V)(P:List (Nat×Nat))(L:List (List Int)):∀k,(stS v P k L).1.length=L.length
 |0=>rfl
 |k+1=>by
  have:=Nk v P L k;unfold stS;dsimp only;split
  .unfold By;grind
  .exact this
def x5(s:Shape)(k:Nat):(sG s k).1.length=(vOf s).length:=(Nk _ _ _ k).trans (aAI s)
def BG(v:List V)(P:List (Nat×Nat))(L:List (List Int)):∀k,(stS v P k L).2.length<=k
 |0=>bX _
 |k+1=>by
  have:=BG v P L k;unfold stS;grind
def Nj(v:List V)(P:List (Nat×Nat))(L:List (List Int)):∀k,k<=P.length->∀p∈(stS v P k L).2,p∈P
 |0,_,p,hp=>(cG hp).elim
 |k+1,hk,p,hp=>by
  have ih:=Nj v P L k (by omega);unfold stS at hp;dsimp only at hp;split at hp
  .exact ih p hp
  .rcases bi.1 hp with hp|hp
   .exact ih p hp
   .rw[bZ.1 hp,oA (by omega)];grind
def Gh{s:Shape}{k:Nat}(h1:gq (vOf s) (sG s k).1 (aY (pG s) k).1 (aY (pG s) k).2=true)(h2:gq (vOf s) (sG s k).1 (aY (pG s) k).2 (aY (pG s) k).1=true):
 sG s (k+1)=(By (sG s k).1 (aY (pG s) k).1 (aY (pG s) k).2,(sG s k).2):=if_pos ⟨h1,h2⟩
def yN{s:Shape}{k:Nat}(h:gq (vOf s) (sG s k).1 (aY (pG s) k).1 (aY (pG s) k).2=false\/gq (vOf s) (sG s k).1 (aY (pG s) k).2 (aY (pG s) k).1=false):
  sG s (k+1)=((sG s k).1,(sG s k).2++[((aY (pG s) k).1,(aY (pG s) k).2)]):=if_neg λh2=>by
 rcases h with h|h
 .exact absurd (h.symm.trans h2.1) (by decide)
 .exact absurd (h.symm.trans h2.2) (by decide)
def HU{s:Shape}(hv:bM s=true){p:Nat×Nat}(h:p∈pG s):p.1<(vOf s).length/\p.2<(vOf s).length:=by obtain⟨d,hd,rfl⟩:=bR.1 h;obtain⟨h1,h2⟩:=(ut hv).2 d hd;exact⟨mB h1,mB h2⟩
def qx(s:Shape):(pG s).length=(dOf s).length:=db ..
def SOk(s:Shape):Prop:=∀k,k<(pG s).length->ArOk (vOf s) (sG s k).1 (aY (pG s) k).1 (aY (pG s) k).2/\ArOk (vOf s) (sG s k).1 (aY (pG s) k).2 (aY (pG s) k).1/\(aY (pG s) k).2≠(aY (pG s) k).1
noncomputable def aEj:Con:=IE (a1 aSh) (λs=>[Fit s,bM s=true,GOk s,SOk s]) (λs=> .tup [.ptr 60 0,.own 20000005 .P (spG s).length]) (λs=>[(60,some (.box 114 [.lst .V (vOf s),.owF 15000005 (vOf s).length,.own 18000005 .I (vOf s).length])),(15000005,some (.fam 112 3 .I (soG s) [])),(18000005,some (.row 3 .I (nG s))),(20000005,some (.row 67 .P (spG s)))])
def aCW:aEj.Okz 114:=Ow (qC Qz.o) (st:=true) (raw:=vD) (λs=>[(10003,.mk Unit (λ_ _=>some ()) [60,20000005] bh (λ_=>[(4,.ptr 60 0),(6,.own 20000005 .P 0)]) (λ_=>[(60,.box 114 [.lst .V (vOf s),.owF 15000005 (vOf s).length,.own 18000005 .I (vOf s).length]),(20000005,.row 67 .P [])]) (λ_=>0) bh),
  lp 4 16 (pG s).length bh [20000005] (λk=>[(6,.own 20000005 .P (sG s k).2.length)]) (λk=>[(15000005,.fam 112 3 .I (sG s k).1 []),(20000005,.row 67 .P (sG s k).2),(0,.box 0 [.undef])])]
  ) λs hp=>az (aC (pG s) λA=>aC (vOf s) λB=>aC (0:Nat) λG=>aC ([] :List (Prod Nat Nat)) λO=>aC ([] :List Int) λP=>Fit s/\bM s=true/\GOk s/\(G=0/\vOf s=vOf s/\B.length=B.length/\B.length=B.length/\O=O)/\
 (∀y:Unit,(0=(0:Int)/\G=O.length/\oG s=oG s/\O=O/\G<=A.length)/\
  (∀x:Nat,aC (x+1) λC=>aC (sG s x) λD=>aC (sG s C) λE=>aC (x:Int) λF=>aC (aY A x) λH=>aC (H.1,H.2) λI=>aC (H.1:Int) λJ=>aC (H.2:Int) λK=>aC ((x+1:Nat):Int) λM=>aC (D.2++[I]).length λQ=>aC (jq D.1 H.1 P) λR=>aC (jq D.1 H.2 P) λS=>aC (H.1,SV.ownf 15000005 LT.I H.1 R.length) λT=>x<=A.length->(F<A.length->ix F A.length/\x<A.length/\ix 0 2/\ix 1 2/\B.length=D.1.length/\B.length=(nG s).length/\B.length<=1000000/\D.fst.length<=B.length/\(∀u:V,u∈vOf s->bd 1000000000 u)/\ArOk B D.fst H.1 H.2/\(gq B D.fst H.1 H.2=true->ix 1 2/\ix 0 2/\B.length=D.1.length/\B.length=(nG s).length/\B.length<=1000000/\D.fst.length<=B.length/\(∀u:V,u∈vOf s->bd 1000000000 u)/\ArOk B D.fst H.2 H.1/\(gq B D.fst H.2 H.1=true->ix 0 2/\ix 1 2/\ix J B.length/\H.1<D.1.length/\H.1<D.1.length/\R.length=R.length/\G<R.length/\R.length<=1000000/\ix J B.length/\H.1=H.1/\H.1<D.1.length/\ix K B.length/\H.2<D.1.length/\H.2≠T.fst/\H.2<D.1.length/\S.length=S.length/\G<S.length/\H.2≠T.fst/\S.length<=1000000/\ix K B.length/\H.2=H.2/\H.2<D.1.length/\aJ (F+1)/\H.2<D.1.length/\(rY (λy=>(!y==J)) S).length=(rY (λy=>(!y==J)) S).length/\H.2≠T.fst/\H.1<(mi D.1 H.2 (rY (λy=>(!y==J)) S)).length/\(rY (λy=>(!y==K)) R).length=(rY (λy=>(!y==K)) R).length/\F+1=M/\D.2.length=E.2.length/\mi (mi D.1 H.2 (rY (λy=>(!y==J)) S)) H.1 (rY (λy=>(!y==K)) R)=E.1/\D.2=E.2/\x+1<=A.length/\A.length-C<A.length-x)/\
     (gq B D.fst H.2 H.1=false->D.2.length=D.2.length/\D.2.length+[I].length<=1000000/\aJ (F+1)/\F+1=M/\Q=E.2.length/\D.1=E.1/\D.2++[I] =E.2/\x+1<=A.length/\A.length-C<A.length-x))/\
    (gq B D.fst H.1 H.2=false->D.2.length=D.2.length/\D.2.length+[I].length<=1000000/\aJ (F+1)/\F+1=M/\Q=E.2.length/\D.1=E.1/\D.2++[I] =E.2/\x+1<=A.length/\A.length-C<A.length-x))/\
   (¬F<A.length->D.2.length=(spG s).length/\vOf s=vOf s/\B.length=B.length/\B.length=B.length/\D.1=soG s/\nG s=nG s/\D.2=spG s)))) (by kernel_rfl) (by
  change Fit s/\bM s=true/\GOk s/\SOk s at hp;obtain⟨hf,hv,hg,hs⟩:=hp;have n80:(vOf s).length<=80:=pf s;have pl:(pG s).length<=6400:=by rw[qx];exact(ut hv).1
  have vb:∀u∈vOf s,bd 1000000000 u:=λu hu=>by obtain⟨i,hi,rfl⟩:=fN.1 hu;exact BE hi (by decide)
  have nl:(nG s).length=(vOf s).length:=Gl s _;have gl:=x5 s;have p1:∀x:Nat,(x:Int)<(pG s).length->(aY (pG s) x).1<(vOf s).length/\(aY (pG s) x).2<(vOf s).length:=λx h=>HU hv (by rw[oA (by omega)];grind);have hS:∀x:Nat,(x:Int)<(pG s).length->_:=λx h=>hs x (by omega);have q1:∀x:Nat,(x:Int)<(pG s).length->0<(jq (sG s x).1 (aY (pG s) x).1 ([] :List Int)).length:=λx h=>I1 (hS x h).1.mem;have q2:∀x:Nat,(x:Int)<(pG s).length->0<(jq (sG s x).1 (aY (pG s) x).2 ([] :List Int)).length:=λx h=>I1 (hS x h).2.1.mem;have q3:∀x:Nat,(x:Int)<(pG s).length->(jq (sG s x).1 (aY (pG s) x).1 ([] :List Int)).length<=1000000:=λx h=>(hS x h).1.len;have q4:∀x:Nat,(x:Int)<(pG s).length->(jq (sG s x).1 (aY (pG s) x).2 ([] :List Int)).length<=1000000:=λx h=>(hS x h).2.1.len;have q5:∀x:Nat,x<=(pG s).length->(sG s x).2.length<=6400:=λx h=>by have:(sG s x).2.length<=x:=BG _ _ _ x;omega
  have a1:∀x:Nat,(vOf s).length=(sG s x).1.length:=λx=>(gl x).symm;have a2:∀x:Nat,(sG s x).1.length<=(vOf s).length:=λx=>Nat.le_of_eq (gl x);have a3:∀x:Nat,(x:Int)<(pG s).length->ArOk (vOf s) (sG s x).1 (aY (pG s) x).1 (aY (pG s) x).2:=λx h=>(hS x h).1;have a4:∀x:Nat,(x:Int)<(pG s).length->ArOk (vOf s) (sG s x).1 (aY (pG s) x).2 (aY (pG s) x).1:=λx h=>(hS x h).2.1;have a5:∀x:Nat,(x:Int)<(pG s).length->ix ((aY (pG s) x).1:Int) (vOf s).length:=λx h=>eW (p1 x h).1;have a6:∀x:Nat,(x:Int)<(pG s).length->ix ((aY (pG s) x).2:Int) (vOf s).length:=λx h=>eW (p1 x h).2;have a7:∀x:Nat,(x:Int)<(pG s).length->(aY (pG s) x).1<(sG s x).1.length:=λx h=>by grind
  have a8:∀x:Nat,(x:Int)<(pG s).length->(aY (pG s) x).2<(sG s x).1.length:=λx h=>by grind
  have a9:∀x:Nat,(x:Int)<(pG s).length->(aY (pG s) x).2≠(aY (pG s) x).1:=λx h=>(hS x h).2.2;have b1:∀x j:Nat,∀l:List Int,(x:Int)<(pG s).length->(aY (pG s) x).1<((sG s x).1.set j l).length:=λx j l h=>by grind
  have b2:∀x:Nat,gq (vOf s) (sG s x).1 (aY (pG s) x).1 (aY (pG s) x).2=true->gq (vOf s) (sG s x).1 (aY (pG s) x).2 (aY (pG s) x).1=true->mi (mi (sG s x).1 (aY (pG s) x).2 (rY (λy=>(!y==((aY (pG s) x).1:Int))) (jq (sG s x).1 (aY (pG s) x).2 ([] :List Int)))) (aY (pG s) x).1 (rY (λy=>(!y==((aY (pG s) x).2:Int))) (jq (sG s x).1 (aY (pG s) x).1 ([] :List Int)))=(sG s (x+1)).1:=λx h h2=>by rw[Gh h h2];rfl
  have b3:∀x:Nat,gq (vOf s) (sG s x).1 (aY (pG s) x).1 (aY (pG s) x).2=true->gq (vOf s) (sG s x).1 (aY (pG s) x).2 (aY (pG s) x).1=true->(sG s x).2=(sG s (x+1)).2:=λx h h2=>by rw[Gh h h2]
  have b4:∀x:Nat,gq (vOf s) (sG s x).1 (aY (pG s) x).1 (aY (pG s) x).2=false->(sG s x).1=(sG s (x+1)).1:=λx h=>by rw[yN (.inl h)]
  have b5:∀x:Nat,gq (vOf s) (sG s x).1 (aY (pG s) x).2 (aY (pG s) x).1=false->(sG s x).1=(sG s (x+1)).1:=λx h=>by rw[yN (.inr h)]
  have b6:∀x:Nat,gq (vOf s) (sG s x).1 (aY (pG s) x).1 (aY (pG s) x).2=false->(sG s x).2++[((aY (pG s) x).1,(aY (pG s) x).2)] =(sG s (x+1)).2:=λx h=>by rw[yN (.inl h)]
  have b7:∀x:Nat,gq (vOf s) (sG s x).1 (aY (pG s) x).2 (aY (pG s) x).1=false->(sG s x).2++[((aY (pG s) x).1,(aY (pG s) x).2)] =(sG s (x+1)).2:=λx h=>by rw[yN (.inr h)]
  have b8:∀x:Nat,∀z:Nat×Nat,x<=(pG s).length->(sG s x).2.length+[z].length<=1000000:=λx z h=>by grind
  have b9:∀x:Nat,¬(x:Int)<(pG s).length->x<=(pG s).length->sG s x=sG s (pG s).length:=λx h h2=>by grind
  have c9:∀x:Nat,x<=(pG s).length->aJ ((x:Int)+1):=λx h=>bW (by omega);clear hS hs gl
  with_reducible ((repeat' first|apply cM|intro);all_goals repeat cases‹_/\_›)
  all_goals first|(with_reducible first|assumption|rfl|exact a1 _|exact a2 _|exact vb _ ‹_› |exact a3 _ ‹_› |exact a4 _ ‹_› |exact a5 _ ‹_› |exact a6 _ ‹_› |exact a7 _ ‹_› |exact a8 _ ‹_› |exact a9 _ ‹_› |exact q1 _ ‹_› |exact q2 _ ‹_› |exact q3 _ ‹_› |exact q4 _ ‹_› |exact b1 _ _ _ ‹_› |exact b2 _ ‹_› ‹_› |exact b3 _ ‹_› ‹_› |exact congrArg fh (b3 _ ‹_› ‹_›)|exact b4 _ ‹_› |exact b5 _ ‹_› |exact b6 _ ‹_› |exact b7 _ ‹_› |exact congrArg fh (b6 _ ‹_›)|exact congrArg fh (b7 _ ‹_›)|exact b8 _ _ ‹_›)|omega|(unfold ix;omega)|(unfold aJ;omega)|exact rfl|exact congrArg Prod.fst (b9 _ ‹_› ‹_›)|exact congrArg yv (b9 _ ‹_› ‹_›)|exact congrArg (λy=>y.2.length) (b9 _ ‹_› ‹_›))
noncomputable def aBJ:=Qz.adk aCW
def eV(s:Shape):Int:=if bM s=true then 0 else 11
noncomputable def Rg:=aBJ.adk SA
def u7(r:List aEw)(k:Nat):Bool:=decide (turn (aEv r ((k+r.length-1) % r.length)) (aEv r k) (aEv r ((k+1) % r.length))≠0)
def gE(r:List aEw)(k:Nat):List aEw:=((bV k).filter (u7 r)).map (aEv r)
def dQ(r:List aEw):List aEw:=gE r r.length
def w9(r:List aEw)(k:Nat):gE r (k+1)=if u7 r k=true then gE r k++[aEv r k]else gE r k:=by unfold gE;rw[rQ,qQ,dR];grind
def Ah(r:List aEw):∀k,(gE r k).length<=k
 |0=>bX _
 |k+1=>by
  have:=Ah r k;rw[w9];grind
def Ec(r:List aEw):∀k,k<=r.length->∀u∈gE r k,u∈r
 |0,_,u,h=>(cG h).elim
 |k+1,hk,u,h=>by
  rw[w9]at h;split at h
  .rcases bi.1 h with h|h
   .exact Ec r k (by omega) u h
   .rw[bZ.1 h];exact eC (by omega)
  .exact Ec r k (by omega) u h
noncomputable def aEi:Con:=con (a1 (aL .V)) (λr=>[r.length<=1000,(∀u∈r,bd 1000000000 u),0<(dQ r).length]) (λr=> .lst .V (c7 (dQ r)))
def aCV:aEi.Okz 115:=bJ Rg (λr=>[lp 4 12 r.length bh [40] (λk=>[(3,.own 40 .V (gE r k).length)]) (λk=>[(40,.row 44 .V (gE r k))])]
  ) (λ_=>⟨_,rfl⟩) λr hp=>az (aC (0:Nat) λC=>aC (r.length:Int) λK=>(0=(0:Int)/\(gE r 0).length=0/\gE r 0=([] :List aEw)/\C<=r.length)/\
 (∀x:Nat,aC (x+1) λA=>aC (x:Int) λB=>aC (gE r x) λD=>aC (aEv r x) λE=>aC (aEv r (A % r.length)) λG=>aC (aEv D (dM D)) λI=>aC (iA 0 D) λJ=>aC (B+r.length-1) λL=>aC (c5 L K) λM=>aC (gE r A).length λN=>aC (aEv r M.toNat) λO=>aC ((x+1:Nat):Int) λP=>x<=r.length->(B<r.length->ix B r.length/\aJ (B+r.length)/\aJ L/\K≠0/\ix M r.length/\aJ (B+1)/\K≠0/\ix ((A % r.length:Nat):Int) r.length/\bd 1000000000 O/\bd 1000000000 E/\bd 1000000000 G/\(¬turn O E G=0->D.length=D.length/\D.length+[E].length<=1000000/\aJ (B+1)/\B+1=P/\(gE r x++[E]).length=N/\gE r x++[E] =gE r A/\x+1<=r.length/\r.length-A<r.length-x)/\
   (¬(¬turn O E G=0)->aJ (B+1)/\B+1=P/\D.length=N/\gE r x=gE r A/\x+1<=r.length/\r.length-A<r.length-x))/\
  (¬B<r.length->D.length=D.length/\C<D.length/\D.length<=1000/\D.length=D.length/\D.length<=1000/\(0<=fI (λx_1=>decide (I=x_1)) D/\fI (λx_1=>decide (I=x_1)) D<=D.length)/\(fI (λx_1=>decide (I=x_1)) D).toNat+(D.length-(fI (λx_1=>decide (I=x_1)) D).toNat)<=D.length/\C<(bD (D.length-(fI (λx_1=>decide (I=x_1)) D).toNat) (iA (fI (λx_1=>decide (I=x_1)) D).toNat D)).length/\(bD (D.length-(fI (λx_1=>decide (I=x_1)) D).toNat) (iA (fI (λx_1=>decide (I=x_1)) D).toNat D)).length<=1000/\(0<=fI (λx_1=>decide (I=x_1)) D/\fI (λx_1=>decide (I=x_1)) D<=D.length)/\(bD (D.length-(fI (λx_1=>decide (I=x_1)) D).toNat) (iA (fI (λx_1=>decide (I=x_1)) D).toNat D)).length=(bD (D.length-(fI (λx_1=>decide (I=x_1)) D).toNat) (iA (fI (λx_1=>decide (I=x_1)) D).toNat D)).length/\0+(fI (λx_1=>decide (I=x_1)) D).toNat<=D.length/\(bD (D.length-(fI (λx_1=>decide (I=x_1)) D).toNat) (iA (fI (λx_1=>decide (I=x_1)) D).toNat D)).length+(bD (fI (λx_1=>decide (I=x_1)) D).toNat J).length<=1000000/\(bD (D.length-(fI (λx_1=>decide (I=x_1)) D).toNat) (iA (fI (λx_1=>decide (I=x_1)) D).toNat D)++bD (fI (λx_1=>decide (I=x_1)) D).toNat J).length=(bD (D.length-(fI (λx_1=>decide (I=x_1)) D).toNat) (iA (fI (λx_1=>decide (I=x_1)) D).toNat D)++bD (fI (λx_1=>decide (I=x_1)) D).toNat J).length/\bD (D.length-(fI (λx_1=>decide (I=x_1)) D).toNat) (iA (fI (λx_1=>decide (I=x_1)) D).toNat D)++bD (fI (λx_1=>decide (I=x_1)) D).toNat J=c7 (dQ r)))) (by kernel_rfl) (by
  change r.length<=1000/\((∀u∈r,bd 1000000000 u))/\0<(dQ r).length at hp;obtain⟨hl,hb,hc⟩:=hp;have bN:∀i:Nat,i<r.length->bd 1000000000 (aEv r i):=λi h=>hb _ (eC h);have tm:∀x:Nat,(x:Int)<r.length->c5 ((x:Int)+r.length-1) (r.length:Int)=(((x+r.length-1) % r.length:Nat):Int):=λx h=>by grind
  have lt:∀x:Nat,(x:Int)<r.length->(x+r.length-1) % r.length<r.length:=λx h=>bw _ (by omega);have lt2:∀x:Nat,(x:Int)<r.length->(x+1) % r.length<r.length:=λx h=>bw _ (by omega);have f1:∀x:Nat,(x:Int)<r.length->aJ ((x:Int)+r.length):=λx h=>bW (by omega);have f2:∀x:Nat,(x:Int)<r.length->aJ ((x:Int)+r.length-1):=λx h=>bW (by omega);have f3:∀x:Nat,(x:Int)<r.length->(r.length:Int)≠0:=λx h=>by omega
  have f4:∀x:Nat,(x:Int)<r.length->ix (c5 ((x:Int)+r.length-1) (r.length:Int)) r.length:=λx h=>by rw[tm x h];exact eW (lt x h)
  have f5:∀x:Nat,(x:Int)<r.length->aJ ((x:Int)+1):=λx h=>bW (by omega);have f6:∀x:Nat,(x:Int)<r.length->ix (((x+1) % r.length:Nat):Int) r.length:=λx h=>eW (lt2 x h);have f7:∀x:Nat,(x:Int)<r.length->bd 1000000000 (aEv r (c5 ((x:Int)+r.length-1) (r.length:Int)).toNat):=λx h=>by rw[tm x h];exact bN _ (lt x h)
  have f8:∀x:Nat,(x:Int)<r.length->bd 1000000000 (aEv r x):=λx h=>bN _ (by omega);have f9:∀x:Nat,(x:Int)<r.length->bd 1000000000 (aEv r ((x+1) % r.length)):=λx h=>bN _ (lt2 x h);have f10:∀x:Nat,(x:Int)<r.length->¬turn (aEv r (c5 ((x:Int)+r.length-1) (r.length:Int)).toNat) (aEv r x) (aEv r ((x+1) % r.length))=0->gE r x++[aEv r x] =gE r (x+1):=λx h h2=>by rw[tm x h,jB]at h2;rw[w9,if_pos (show u7 r x=true from decide_eq_true h2)]
  have f11:∀x:Nat,(x:Int)<r.length->¬¬turn (aEv r (c5 ((x:Int)+r.length-1) (r.length:Int)).toNat) (aEv r x) (aEv r ((x+1) % r.length))=0->gE r x=gE r (x+1):=λx h h2=>by rw[tm x h,jB]at h2;rw[w9,if_neg (show¬u7 r x=true from λh3=>h2 (of_decide_eq_true h3))]
  have f12:∀x:Nat,∀z:aEw,x<=r.length->(gE r x).length+[z].length<=1000000:=λx z h=>by have:=Ah r x;simp only[vl];omega
  have g0:∀x:Nat,¬(x:Int)<r.length->x<=r.length->gE r x=dQ r:=λx h h2=>by rw[show x=r.length by omega];rfl
  have g1:(dQ r).length<=1000:=by have:=Ah r r.length;have h:(dQ r).length=(gE r r.length).length:=rfl;omega
  have hlt:=qY hc;have hf:fI (λx=>decide (aEv (dQ r) (dM (dQ r))=x)) (dQ r)=(dM (dQ r):Int):=by
   symm;exact qB (t:= .V) hlt (decide_eq_true rfl) λj hj=>decide_eq_false λe=>by have:=DD (dQ r) (dQ r).length j hj;rw[show eO (dQ r) (dQ r).length=dM (dQ r)from rfl,e]at this;exact absurd ((EJ (aEv (dQ r) j)).symm.trans this) (by decide)
  refine⟨⟨rfl,rfl,rfl,jS _⟩,λx hx=>⟨?_,λh=> ?_⟩⟩
  .repeat' first|with_reducible apply cM|with_reducible intro
   all_goals repeat with_reducible cases‹_/\_›
   all_goals first|with_reducible assumption|with_reducible rfl|with_reducible exact f1 _ ‹_› |with_reducible exact f2 _ ‹_› |with_reducible exact f3 _ ‹_› |with_reducible exact f4 _ ‹_› |with_reducible exact f5 _ ‹_› |with_reducible exact f6 _ ‹_› |with_reducible exact f7 _ ‹_› |with_reducible exact f8 _ ‹_› |with_reducible exact f9 _ ‹_› |with_reducible exact f10 _ ‹_› ‹_› |with_reducible exact f11 _ ‹_› ‹_› |with_reducible exact congrArg fh (f10 _ ‹_› ‹_›)|with_reducible exact congrArg fh (f11 _ ‹_› ‹_›)|with_reducible exact f12 _ _ ‹_› |omega|(unfold ix;omega)|(unfold aJ;omega)
  .rw[g0 x h hx,hf,jB];unfold c7;generalize dM (dQ r)=k at hlt|-;have e1:bD ((dQ r).length-k) (iA k (dQ r))=iA k (dQ r):=ip (by grind);have e2:bD k (iA 0 (dQ r))=bD k (dQ r):=rfl;have e3:(iA k (dQ r)).length=(dQ r).length-k:=IS ..;have e4:(bD k (dQ r)).length<=(dQ r).length:=by rw[lm];omega
   rw[e1,e2];refine⟨rfl,hc,g1,rfl,g1,⟨by omega,by omega⟩,by omega,by omega,by omega,⟨by omega,by omega⟩,rfl,by omega,by omega,rfl,rfl⟩)
noncomputable def Rj:=Rg.adk aCV
def nxP(s:Shape):List (Nat×Nat):=(bV (vOf s).length).map λi=>(i,(co (nG s) i).toNat)
def ic(p:Nat×Nat):List (Nat×Nat):=[p,(p.2,p.1)]
def hsG(s:Shape):List (Nat×Nat):=nxP s++(spG s).flatMap ic
def nxH(L:List (List Int))(h:Nat×Nat):Nat×Nat:=(h.2,iM L h.2 h.1 (-1))
def trc(v:List aEw)(L:List (List Int)):Nat->List (Nat×Nat)->Nat×Nat->List aEw->List (Nat×Nat)×List aEw
 |0,S,_,r=>(S,r)
 |f+1,S,h,r=>if h∈S then(S,r)else trc v L f (S++[h]) (nxH L h) (r++[aEv v h.1])
def trU(v:List aEw):Nat:=v.length*v.length+1
def pcs(v:List aEw)(L:List (List Int))(H:List (Nat×Nat)):Nat->List (Nat×Nat)×List aE
 |0=>([],[])
 |k+1=>((trc v L (trU v) (pcs v L H k).1 (aY H k) []).1,if 0<(trc v L (trU v) (pcs v L H k).1 (aY H k) []).2.length then(pcs v L H k).2++[c7 (dQ (trc v L (trU v) (pcs v L H k).1 (aY H k) []).2)]else(pcs v L H k).2)
def pcK(s:Shape)(k:Nat):List (Nat×Nat)×List aE:=pcs (vOf s) (soG s) (hsG s) k
def pcG(s:Shape):List aE:=if bM s=true then sr (pcK s (hsG s).length).2 else []
def qM(s:Shape):Prop:=(∀i j:Nat,(j:Int)∈af (soG s) i->ArOk (vOf s) (soG s) i j/\ArOk (vOf s) (soG s) j i)/\(∀h∈hsG s,ArOk (vOf s) (soG s) h.2 h.1)/\(∀i,i<(vOf s).length->0<=co (nG s) i)/\
 ∀k,k<(hsG s).length->0<(trc (vOf s) (soG s) (trU (vOf s)) (pcK s k).1 (aY (hsG s) k) []).2.length->(trc (vOf s) (soG s) (trU (vOf s)) (pcK s k).1 (aY (hsG s) k) []).2.length<=1000/\0<(dQ (trc (vOf s) (soG s) (trU (vOf s)) (pcK s k).1 (aY (hsG s) k) []).2).length
abbrev TrY:=List (Nat×Nat)×(Nat×Nat)×List aEw
structure TrOk(v:List aEw)(L:List (List Int))(S0:List (Nat×Nat))(h0:Nat×Nat)(y:TrY):Prop where
 le:S0.length<=y.1.length
 run:trc v L (trU v-(y.1.length-S0.length)) y.1 y.2.1 y.2.2=trc v L (trU v) S0 h0 []
 nd:y.1.Nodup
 rng:∀p∈y.1,p.1<v.length/\p.2<v.length
 at_:ArOk v L y.2.1.2 y.2.1.1
 len:y.2.2.length<=y.1.length
 pts:∀u∈y.2.2,bd 1000000000 u
def AU:∀(m:Nat) (l:List Nat),l.Nodup->(∀x∈l,x<m)->l.length<=m
 |0,l,_,h=>by
  cases l with
  |nil=>simp
  |cons x l=>exact absurd (h x bo) (by omega)
 |m+1,l,hn,h=>by
  have h1:=AU m (l.erase m) (hn.erase m) λx hx=>by grind
  grind
def ZO{n:Nat}{S:List (Nat×Nat)}(hn:S.Nodup)(h:∀p∈S,p.1<n/\p.2<n):S.length<=n*n:=by
 have dv:∀p:Nat×Nat,p.2<n->(p.2+p.1*n)/n=p.1/\(p.2+p.1*n) % n=p.2:=λp hp=>by rw[Nat.add_mul_div_right _ _ (by omega),Nat.add_mul_mod_self_right,Nat.div_eq_of_lt hp,dp hp];simp
 have h1:=AU (n*n) (S.map λp=>p.2+p.1*n) (by
  unfold o9;rw[i8];refine Cd (λ{p q} hp hq hne e=>hne ?_) hn;grind) λx hx=>by
  obtain⟨p,hp,rfl⟩:=bR.1 hx;obtain⟨h2,h3⟩:=h p hp;have:(p.1+1)*n<=n*n:=Nat.mul_le_mul_right n h2;grind
 grind
def PA{v:List aEw}{L:List (List Int)}{f:Nat}{S:List (Nat×Nat)}{h:Nat×Nat}{r:List aEw}(hS:h∈S):trc v L f S h r=(S,r):=by
 cases f with
 |zero=>rfl
 |succ f=>exact if_pos hS
def NW{v:List aEw}{L:List (List Int)}{f:Nat}{S:List (Nat×Nat)}{h:Nat×Nat}{r:List aEw}(hS:h∉S):trc v L (f+1) S h r=trc v L f (S++[h]) (nxH L h) (r++[aEv v h.1]):=if_neg hS
def TrOk.start{v:List aEw}{L:List (List Int)}{S0:List (Nat×Nat)}{h0:Nat×Nat}(h1:S0.Nodup)(h2:∀p∈S0,p.1<v.length/\p.2<v.length)(h3:ArOk v L h0.2 h0.1):TrOk v L S0 h0 (S0,h0,[]) where
 le:=bX _
 run:=by grind
 nd:=h1
 rng:=h2
 at_:=h3
 len:=jS _
 pts:=λu hu=>(cG hu).elim
def TrOk.lt{v:List aEw}{L:List (List Int)}{S0:List (Nat×Nat)}{h0:Nat×Nat}{y:TrY}(T:TrOk v L S0 h0 y):y.1.length<trU v:=by have:=ZO T.nd T.rng;unfold trU;omega
def TrOk.step{v:List aEw}{L:List (List Int)}{S0:List (Nat×Nat)}{h0:Nat×Nat}{y:TrY}(T:TrOk v L S0 h0 y)(hsym:∀i j:Nat,(j:Int)∈af L i->ArOk v L i j/\ArOk v L j i)(hL:L.length=v.length)(hb:∀u∈v,bd 1000000000 u)(hn:y.2.1∉y.1):
  TrOk v L S0 h0 (kT y.1 y.2.1,nxH L y.2.1,y.2.2++[aEv v y.2.1.1]):=by
 obtain⟨S,h,r⟩:=y;have hlt:=T.lt;have hle:=T.le;have e:kT S h=S++[h] :=if_neg hn;have hA:ArOk v L h.2 h.1:=T.at_;have h1:=(hsym _ _ (hA.around (-1)).1).2;have h2:h.1<v.length:=by have:=(hA.rng _ hA.mem).2;omega
 have h3:h.2<v.length:=by have:=hA.iL;omega
 dsimp only at hlt hle|-;rw[e];refine⟨by grind,?_,?_,?_,h1,?_,?_⟩
 .rw[<-T.run];dsimp only;rw[show trU v-(S.length-S0.length)=(trU v-((S++[h]).length-S0.length))+1 by grind];exact(NW hn).symm
 .rw[List.nodup_append];exact⟨T.nd,by simp,λa ha b hb e=>hn (by grind)⟩
 .intro p hp;rcases bi.1 hp with hp|hp
  .exact T.rng p hp
  grind
 .have:=T.len;grind
 .intro u hu;rcases bi.1 hu with hu|hu
  .exact T.pts u hu
  .rw[bZ.1 hu];exact hb _ (eC h2)
def TrOk.stop{v:List aEw}{L:List (List Int)}{S0:List (Nat×Nat)}{h0:Nat×Nat}{y:TrY}(T:TrOk v L S0 h0 y)(hn:y.2.1∈y.1):trc v L (trU v) S0 h0 [] =(y.1,y.2.2):=by rw[<-T.run];exact PA hn
def uR(s:Shape)(k:Nat):pcK s (k+1)=((trc (vOf s) (soG s) (trU (vOf s)) (pcK s k).1 (aY (hsG s) k) []).1,if 0<(trc (vOf s) (soG s) (trU (vOf s)) (pcK s k).1 (aY (hsG s) k) []).2.length then(pcK s k).2++[c7 (dQ (trc (vOf s) (soG s) (trU (vOf s)) (pcK s k).1 (aY (hsG s) k) []).2)]else(pcK s k).2):=rfl
def ZN{s:Shape}{k:Nat}{y:TrY}(T:TrOk (vOf s) (soG s) (pcK s k).1 (aY (hsG s) k) y)(hm:y.2.1∈y.1)(h:0<y.2.2.length):pcK s (k+1)=(y.1,(pcK s k).2++[c7 (dQ y.2.2)]):=by rw[uR,T.stop hm];grind
def aAD{s:Shape}{k:Nat}{y:TrY}(T:TrOk (vOf s) (soG s) (pcK s k).1 (aY (hsG s) k) y)(hm:y.2.1∈y.1)(h:¬0<y.2.2.length):pcK s (k+1)=(y.1,(pcK s k).2):=by rw[uR,T.stop hm];grind
def Fw(s:Shape):∀k,(pcK s k).2.length<=k
 |0=>bX _
 |k+1=>by
  have:=Fw s k;rw[uR];grind
def Fv{s:Shape}(hp:qM s):∀k,k<=(hsG s).length->∀r∈(pcK s k).2,r.length<=1000
 |0,_,r,hr=>(cG hr).elim
 |k+1,hk,r,hr=>by
  have ih:=Fv hp k (by omega);rw[uR]at hr;dsimp only at hr;split at hr
  .rename_i h;rcases bi.1 hr with hr|hr
   .exact ih r hr
   .rw[bZ.1 hr,lv];have h1:=(hp.2.2.2 k (by omega) h).1;have h2:=Ah (trc (vOf s) (soG s) (trU (vOf s)) (pcK s k).1 (aY (hsG s) k) []).2 (trc (vOf s) (soG s) (trU (vOf s)) (pcK s k).1 (aY (hsG s) k) []).2.length;unfold dQ;omega
  grind
def OP(s:Shape):(nxP s).length=(vOf s).length:=by unfold nxP;grind
def Fb:∀l:List (Nat×Nat),(l.flatMap ic).length=2*l.length
 |[] =>rfl
 |p::l=>by rw[fG,gi,Fb l,gu];show 2+_=_;omega
def Og(s:Shape):(hsG s).length=(vOf s).length+2*(spG s).length:=by unfold hsG;rw[gi,OP,Fb]
def pcS(s:Shape)(k:Nat):List (Nat×Nat):=(pcK s k).1
def pcR(s:Shape)(k:Nat):List aE:=(pcK s k).2
noncomputable def c48:Con:=con (a1 aSh) (λs=>[Fit s,(bM s=true->GOk s/\SOk s/\qM s)]) (λs=> .tup [.lst .R (pcG s),.iqz (eV s)])
def k48:c48.Okz 48:=bJ Rj (λs=>[lp 6 30 (vOf s).length bh [40] (λk=>[(6,.own 40 .P k)]) (λk=>[(40,.row 67 .P ((nxP s).take k))]) λk=>[jU 8 [(7,.iqz (k:Int)),(8,.iqz ((co (nG s) k).toNat:Nat))]],
  lp 11 44 (spG s).length bh [40] (λk=>[(6,.own 40 .P ((vOf s).length+2*k))]) (λk=>[(40,.row 67 .P (nxP s++((spG s).take k).flatMap ic))]),
  lp 18 61 (hsG s).length (λk=>[(pcS s k).Nodup,∀p∈(pcS s k),p.1<(vOf s).length/\p.2<(vOf s).length]) [60] (λk=>[(12,.own 60 .R (pcR s k).length)]) (λk=>[(60,.row 23 .R (pcR s k)),(46,.mp (pcS s k))]) λk=>
  [(22,.mk TrY (λF L=>match F.at 16,L.at 46 with
  | .ptr b 0,some (.mp ks)=>(match L.at b with
  |some (.box _ [.int _ i,.int _ j])=>some (ks,(i.toNat,j.toNat),match F.at 15 with| .own t _ _=>(match L.at t with|some (.row _ .V r)=>r|_=>[])|_=>[])
  |_=>none)
  |_,_=>none) [68,70] (λy=>[TrOk (vOf s) (soG s) (pcS s k) (aY (hsG s) k) y]) (λy=>[(15,.own 70 .V y.2.2.length),(16,.ptr 68 0),(12,.own 60 .R (pcR s k).length)])
  (λy=>[(68,.box 67 [.iqz (y.2.1.1:Nat),.iqz (y.2.1.2:Nat)]),(70,.row 44 .V y.2.2),(46,.mp y.1)]) (λy=>trU (vOf s)-y.1.length) λ_=>[])]]
  ) (λ_=>⟨_,rfl⟩) λs hp=>az (aC (nG s) λA=>aC (vOf s) λB=>aC (spG s) λC=>aC (soG s) λD=>aC (hsG s) λE=>aC (nxP s) λF=>aC (0:Nat) λI=>aC (0:Int) λJ=>aC (!bM s) λY=>aC ([] :List aEw) λb=>aC ([] :List (List aEw)) λi=>aC ([] :List (Prod Nat Nat)) λj=>Fit s/\(Y=true->pcG s=i/\11=eV s)/\
 (Y=false->Fit s/\bM s=true/\GOk s/\SOk s/\(0=J/\I=0/\bD 0 F=j/\I<=B.length)/\
  (∀x:Nat,aC (x:Int) λH=>aC (x,(co A x).toNat) λT=>aC (bD x F) λW=>x<=B.length->(H<B.length->(ix H B.length/\x<A.length/\H=x/\co A x=(co A x).toNat)/\
    (∀y:Unit,x=W.length/\W.length+[T].length<=1000000/\aJ (H+1)/\H+1=((x+1:Nat):Int)/\(bD x F++[T]).length=x+1/\bD x F++[T] =bD (x+1) F/\x+1<=B.length/\B.length-(x+1)<B.length-x))/\
   (¬H<B.length->(0=J/\x=B.length+2*0/\bD x F=nxP s++kc ic (bD 0 C)/\I<=C.length)/\
    (∀x_1:Nat,aC (x_1+1) λK=>aC (x_1:Int) λO=>aC (aY C x_1) λQ=>aC (Q.1,Q.2) λR=>aC (Q.2,Q.1) λS=>aC (bD x_1 C) λa=>aC (B.length+2*x_1:Nat) λk=>aC (nxP s++kc ic a) λl=>x_1<=C.length->(O<C.length->ix O C.length/\x_1<C.length/\ix 1 2/\ix 0 2/\B.length+2*x_1=l.length/\l.length+[R,S].length<=1000000/\aJ (O+1)/\O+1=((x_1+1:Nat):Int)/\(nxP s++kc ic a++[R,S]).length=B.length+2*K/\nxP s++kc ic a++[R,S] =nxP s++kc ic (bD K C)/\x_1+1<=C.length/\C.length-K<C.length-x_1)/\
     (¬O<C.length->(0=J/\(pcR s 0).length=0/\pcR s 0=i/\j=pcS s 0/\I<=E.length/\o9 (pcS s 0)/\(∀p:Prod Nat Nat,p∈pcS s 0->p.1<B.length/\p.2<B.length))/\
      (∀x_2:Nat,aC (x_2+1) λG=>aC (pcR s x_2) λM=>aC (x_2:Int) λN=>aC (pcS s x_2) λP=>aC (aY E x_2) λU=>aC (x_2+1:Nat) λX=>aC (pcR s G).length λZ=>aC (pcR s x_2,true) λd=>aC (aY l x_2) λm=>x_2<=E.length/\o9 P/\(∀p:Prod Nat Nat,p∈pcS s x_2->p.1<B.length/\p.2<B.length)->(N<(k:Int)->ix N (B.length+2*x_1)/\x_2<l.length/\(b.length=0/\M.length=M.length/\(m.1:Int)=m.1/\(m.2:Int)=m.2/\b=b/\pcS s x_2=pcS s x_2/\TrOk B D P U (pcS s x_2,((m.1,m.2),b)))/\
        (∀x_3:TrY,aC (dQ x_3.2.2) λV=>aC (x_3.2.1.1:Int) λc=>aC (aEv B x_3.2.1.1) λe=>aC (x_3.2.2++[e]) λf=>aC (x_3.2.1.1,x_3.2.1.2) λg=>aC (x_3.2.2.length:Int) λh=>TrOk B D P U x_3->o9 x_3.1/\(g∈x_3.1->(0<h->x_3.2.2.length=x_3.2.2.length/\x_3.2.2.length<=1000/\(∀u:aEw,u∈x_3.2.2->bd 1000000000 u)/\I<V.length/\M.length=M.length/\M.length+[c7 V].length<=1000000/\aJ (N+1)/\N+1=(X:Int)/\(pcR s x_2++[c7 V]).length=Z/\pcR s x_2++[c7 V] =pcR s G/\x_3.1=pcS s G/\x_2+1<=E.length/\o9 (pcS s G)/\(∀p:Prod Nat Nat,p∈pcS s G->p.1<B.length/\p.2<B.length)/\E.length-G<E.length-x_2)/\
          (¬0<h->aJ (N+1)/\N+1=(X:Int)/\M.length=Z/\pcR s x_2=pcR s G/\x_3.1=pcS s G/\x_2+1<=E.length/\o9 (pcS s G)/\(∀p:Prod Nat Nat,p∈pcS s G->p.1<B.length/\p.2<B.length)/\E.length-G<E.length-x_2))/\
         (¬g∈x_3.1->o9 x_3.1/\ix 0 2/\ix c B.length/\x_3.2.2.length=x_3.2.2.length/\x_3.2.2.length+[e].length<=1000000/\ix 1 2/\ix 1 2/\ix 0 2/\B.length=D.length/\B.length=A.length/\B.length<=1000000/\D.length<=1000000/\x_3.2.1.2<D.length/\c∈af D x_3.2.1.2/\(af D x_3.2.1.2).length<=1000000/\(∀x_4:Int,x_4∈af D x_3.2.1.2->0<=x_4)/\((-1:Int)=1\/(-1:Int)= -1)/\f.length=f.length/\M.length=M.length/\(x_3.2.1.2:Int)=x_3.2.1.2/\(iM D x_3.2.1.2 x_3.2.1.1 (-1):Int)=iM D x_3.2.1.2 x_3.2.1.1 (-1)/\x_3.2.2++[e] =x_3.2.2++[e]/\kT x_3.1 g=kT x_3.1 g/\TrOk B D P U (kT x_3.1 g,((x_3.2.1.2,iM D x_3.2.1.2 x_3.2.1.1 (-1)),x_3.2.2++[e]))/\trU B-(kT x_3.1 g).length<trU B-x_3.1.length)))/\
       (¬N<(k:Int)->M.length=M.length/\M.length<=1000000/\(∀r:aE,r∈pcR s x_2->r.length<=1000)/\M.length=(r68 d).length/\r68 d=pcG s/\0=eV s)))))))) (by kernel_rfl) (by
  change Fit s/\((bM s=true->GOk s/\SOk s/\qM s))at hp;obtain⟨hf,hv⟩:=hp;have n80:(vOf s).length<=80:=pf s;have hT:(!bM s)=false->bM s=true:=λh=>nb h;have hg:(!bM s)=false->GOk s:=λh=>(hv (nb h)).1;have hs:(!bM s)=false->SOk s:=λh=>(hv (nb h)).2.1;have hP:(!bM s)=false->qM s:=λh=>(hv (nb h)).2.2;have sd0:(!bM s)=true->pcG s=[] :=λh=>by unfold pcG;grind
  have ev0:(!bM s)=true->11=eV s:=λh=>by unfold eV;grind
  have ev1:(!bM s)=false->0=eV s:=λh=>by unfold eV;grind
  have sl:(!bM s)=false->(spG s).length<=6400:=λh=>by have h1:(spG s).length<=(pG s).length:=BG _ _ _ _;have h2:=(ut (nb h)).1;rw[qx]at h1;omega
  have hl:=Og s;have nl:(nG s).length=(vOf s).length:=Gl s _;have gl:(soG s).length=(vOf s).length:=x5 s _;have xl:=OP s;have vb:∀u∈vOf s,bd 1000000000 u:=λu hu=>by obtain⟨i,hi,rfl⟩:=fN.1 hu;exact BE hi (by decide)
  have a1:∀x:Nat,(x:Int)<(vOf s).length->x<(nG s).length:=λx h=>by omega
  have a2:(!bM s)=false->∀x:Nat,(x:Int)<(vOf s).length->co (nG s) x=(co (nG s) x).toNat:=λh x hx=>(I0 ((hP h).2.2.1 x (by omega))).symm;have a3:∀x:Nat,x<=(vOf s).length->(bD x (nxP s)).length=x:=λx h=>by grind
  have a4:∀x:Nat,(x:Int)<(vOf s).length->bD x (nxP s)++[(x,(co (nG s) x).toNat)] =bD (x+1) (nxP s):=λx h=>by rw[kw (show x<(nxP s).length by omega)];unfold nxP;grind
  have a5:∀x:Nat,∀z:Nat×Nat,(x:Int)<(vOf s).length->(bD x (nxP s)).length+[z].length<=1000000:=λx z h=>by grind
  have a6:∀x:Nat,∀z:Nat×Nat,(x:Int)<(vOf s).length->(bD x (nxP s)++[z]).length=x+1:=λx z h=>by grind
  have a7:∀x:Nat,(x:Int)<(vOf s).length->aJ ((x:Int)+1):=λx h=>bW (by omega);have b0:∀x:Nat,¬(x:Int)<(vOf s).length->x<=(vOf s).length->x=(vOf s).length+2*0:=λx h h2=>by omega
  have b1:∀x:Nat,¬(x:Int)<(vOf s).length->bD x (nxP s)=nxP s++kc ic (bD 0 (spG s)):=λx h=>by rw[ip (by omega)];simp
  have b2:∀x:Nat,x<=(spG s).length->(nxP s++kc ic (bD x (spG s))).length=(vOf s).length+2*x:=λx h=>by rw[gi,xl,Fb,lm];omega
  have b3:(!bM s)=false->∀x:Nat,∀z u:Nat×Nat,x<=(spG s).length->(nxP s++kc ic (bD x (spG s))).length+[z,u].length<=1000000:=λh x z u hx=>by grind
  have b4:(!bM s)=false->∀x:Nat,(x:Int)<(spG s).length->aJ ((x:Int)+1):=λh x hx=>bW (by grind);have b5:∀x:Nat,∀z u:Nat×Nat,x<=(spG s).length->(nxP s++kc ic (bD x (spG s))++[z,u]).length=(vOf s).length+2*(x+1):=λx z u hx=>by rw[gi,b2 x hx];grind
  have b6:∀x:Nat,(x:Int)<(spG s).length->nxP s++kc ic (bD x (spG s))++[((aY (spG s) x).1,(aY (spG s) x).2),((aY (spG s) x).2,(aY (spG s) x).1)] =nxP s++kc ic (bD (x+1) (spG s)):=λx h=>by rw[kw (show x<(spG s).length by omega),vz,<-kD,oA (by omega)];rfl
  have hH:∀x:Nat,¬(x:Int)<(spG s).length->nxP s++kc ic (bD x (spG s))=hsG s:=λx h=>by rw[ip (by omega)];rfl
  have c1:∀x y:Nat,¬(x:Int)<(spG s).length->x<=(spG s).length->(y:Int)<(((vOf s).length+2*x:Nat):Int)->y<(hsG s).length:=λx y h h2 h3=>by omega
  have c2:∀x y:Nat,x<=(spG s).length->(y:Int)<(((vOf s).length+2*x:Nat):Int)->y<(nxP s++kc ic (bD x (spG s))).length:=λx y h2 h3=>by grind
  have c3:(!bM s)=false->∀x y:Nat,¬(x:Int)<(spG s).length->x<=(spG s).length->(y:Int)<(((vOf s).length+2*x:Nat):Int)->o9 (pcS s y)->(∀p:Nat×Nat,p∈(pcS s y)->p.1<(vOf s).length/\p.2<(vOf s).length)->TrOk (vOf s) (soG s) (pcS s y) (aY (hsG s) y) ((pcS s y),(((aY (nxP s++kc ic (bD x (spG s))) y).1,(aY (nxP s++kc ic (bD x (spG s))) y).2),([] :List aEw))):=λh x y h1 h2 h3 h4 h5=>by rw[hH x h1];refine TrOk.start h4 h5 ((hP h).2.1 _ ?_);have:=c1 x y h1 h2 h3;rw[oA this];grind
  have d1:(!bM s)=false->∀x y:Nat,¬(x:Int)<(spG s).length->x<=(spG s).length->(y:Int)<(((vOf s).length+2*x:Nat):Int)->∀z:TrY,TrOk (vOf s) (soG s) (pcS s y) (aY (hsG s) y) z->z.2.1∈z.1->0<(z.2.2.length:Int)->z.2.2.length<=1000/\0<(dQ z.2.2).length:=λh x y h1 h2 h3 z T hm hz=>by have e:=T.stop hm;unfold pcS at e;have:=(hP h).2.2.2 y (c1 x y h1 h2 h3);grind
  have d2:(!bM s)=false->∀y:Nat,y<=(hsG s).length->(pcR s y).length<=20000:=λh y hy=>by have h1:(pcR s y).length<=y:=Fw s y;grind
  have d3:(!bM s)=false->∀y:Nat,y<=(hsG s).length->∀q:aE,(pcR s y).length+[q].length<=1000000:=λh y hy q=>by have:=d2 h y hy;simp only[vl];omega
  have d4:(!bM s)=false->∀y:Nat,y<=(hsG s).length->aJ ((y:Int)+1):=λh y hy=>bW (by have:=sl h;omega);have t1:∀(y:Nat) (z:TrY),TrOk (vOf s) (soG s) (pcS s y) (aY (hsG s) y) z->z.2.1∈z.1->0<(z.2.2.length:Int)->(pcR s y)++[c7 (dQ z.2.2)] =pcR s (y+1):=λy z T hm hz=>(congrArg yv (ZN T hm (by omega))).symm;have t2:∀(y:Nat) (z:TrY),TrOk (vOf s) (soG s) (pcS s y) (aY (hsG s) y) z->z.2.1∈z.1->¬0<(z.2.2.length:Int)->pcR s y=pcR s (y+1):=λy z T hm hz=>(congrArg yv (aAD T hm (by omega))).symm;have t3:∀(y:Nat) (z:TrY),TrOk (vOf s) (soG s) (pcS s y) (aY (hsG s) y) z->z.2.1∈z.1->z.1=(pcS s (y+1)):=λy z T hm=>by unfold pcS at*;rw[uR,T.stop hm]
  have t4:∀(y:Nat) (z:TrY),TrOk (vOf s) (soG s) (pcS s y) (aY (hsG s) y) z->z.2.1∈z.1->(pcS s (y+1)).Nodup:=λy z T hm=>by rw[<-t3 y z T hm];exact T.nd
  have t5:∀(y:Nat) (z:TrY),TrOk (vOf s) (soG s) (pcS s y) (aY (hsG s) y) z->z.2.1∈z.1->∀p:Nat×Nat,p∈(pcS s (y+1))->p.1<(vOf s).length/\p.2<(vOf s).length:=λy z T hm=>by rw[<-t3 y z T hm];exact T.rng
  have r0:∀(y:Nat) (z:TrY),TrOk (vOf s) (soG s) (pcS s y) (aY (hsG s) y) z->ArOk (vOf s) (soG s) z.2.1.2 z.2.1.1:=λy z T=>T.at_;have r1:∀(y:Nat) (z:TrY),TrOk (vOf s) (soG s) (pcS s y) (aY (hsG s) y) z->z.2.1.1<(vOf s).length:=λy z T=>by have:=(T.at_.rng _ T.at_.mem).2;omega
  have r2:∀(y:Nat) (z:TrY),TrOk (vOf s) (soG s) (pcS s y) (aY (hsG s) y) z->ix (z.2.1.1:Int) (vOf s).length:=λy z T=>eW (r1 y z T);have r3:∀(y:Nat) (z:TrY),TrOk (vOf s) (soG s) (pcS s y) (aY (hsG s) y) z->∀q:aEw,z.2.2.length+[q].length<=1000000:=λy z T q=>by have h1:=T.lt;have h2:=T.len;unfold trU at h1;have:(vOf s).length*(vOf s).length<=80*80:=wC n80 n80;simp only[vl];omega
  have r4:∀(y:Nat) (z:TrY),TrOk (vOf s) (soG s) (pcS s y) (aY (hsG s) y) z->∀x∈af (soG s) z.2.1.2,0<=x:=λy z T x hx=>(T.at_.rng x hx).1;have r5:(!bM s)=false->∀(y:Nat) (z:TrY),TrOk (vOf s) (soG s) (pcS s y) (aY (hsG s) y) z->z.2.1∉z.1->TrOk (vOf s) (soG s) (pcS s y) (aY (hsG s) y) (kT z.1 z.2.1,nxH (soG s) z.2.1,z.2.2++[aEv (vOf s) z.2.1.1]):=λh y z T hm=>T.step (hP h).1 gl vb hm;have r6:∀(y:Nat) (z:TrY),TrOk (vOf s) (soG s) (pcS s y) (aY (hsG s) y) z->z.2.1∉z.1->trU (vOf s)-(kT z.1 z.2.1).length<trU (vOf s)-z.1.length:=λy z T hm=>by have:=T.lt;rw[show kT z.1 z.2.1=z.1++[z.2.1]from if_neg hm,gi];simp;omega
  have e1:(!bM s)=false->∀x y:Nat,¬(x:Int)<(spG s).length->x<=(spG s).length->¬(y:Int)<(((vOf s).length+2*x:Nat):Int)->y<=(hsG s).length->r68 ((pcR s y),true)=pcG s:=λh x y h1 h2 h3 h4=>by rw[show y=(hsG s).length by omega];unfold pcG;rw[nb h,if_pos rfl];rfl
  have e2:∀l:List aE,l.length=(r68 (l,true)).length:=λl=>(zW l).length_eq.symm;have e3:(!bM s)=false->∀y:Nat,y<=(hsG s).length->∀r∈(pcR s y),r.length<=1000:=λh y hy=>Fv (hP h) y hy;have e4:(!bM s)=false->∀y:Nat,y<=(hsG s).length->(pcR s y).length<=1000000:=λh y hy=>by grind
  have e5:(pcS s 0).Nodup:=List.nodup_nil;have hT2:(!bM s)=false->bM s=true:=hT;clear hv hT hP
  repeat' first|with_reducible apply cM|with_reducible intro
  all_goals repeat with_reducible cases‹_/\_›
  all_goals first|with_reducible assumption|with_reducible rfl|with_reducible exact sd0 ‹_› |with_reducible exact ev0 ‹_› |with_reducible exact ev1 ‹_› |with_reducible exact hT2 ‹_› |with_reducible exact hg ‹_› |with_reducible exact hs ‹_› |with_reducible exact a1 _ ‹_› |with_reducible exact a2 ‹_› _ ‹_› |with_reducible exact(a3 _ ‹_›).symm|with_reducible exact a4 _ ‹_› |with_reducible exact a5 _ _ ‹_› |with_reducible exact a6 _ _ ‹_› |with_reducible exact a7 _ ‹_› |with_reducible exact b0 _ ‹_› ‹_› |with_reducible exact b1 _ ‹_› |with_reducible exact(b2 _ ‹_›).symm|with_reducible exact b3 ‹_› _ _ _ ‹_› |with_reducible exact b4 ‹_› _ ‹_› |with_reducible exact b5 _ _ _ ‹_› |with_reducible exact b6 _ ‹_› |with_reducible exact c2 _ _ ‹_› ‹_› |exact c3 ‹_› _ _ ‹_› ‹_› ‹_› ‹_› ‹_› |exact(d1 ‹_› _ _ ‹_› ‹_› ‹_› _ ‹_› ‹_› ‹_›).1|exact(d1 ‹_› _ _ ‹_› ‹_› ‹_› _ ‹_› ‹_› ‹_›).2|with_reducible exact d3 ‹_› _ ‹_› _|with_reducible exact d4 ‹_› _ ‹_› |with_reducible exact(TrOk.nd ‹_›)|with_reducible exact(TrOk.pts ‹_› _ ‹_›)|exact t1 _ _ ‹_› ‹_› ‹_› |exact congrArg fh (t1 _ _ ‹_› ‹_› ‹_›)|exact t2 _ _ ‹_› ‹_› ‹_› |exact congrArg fh (t2 _ _ ‹_› ‹_› ‹_›)|exact t3 _ _ ‹_› ‹_› |exact t4 _ _ ‹_› ‹_› |exact(t5 _ _ ‹_› ‹_› _ ‹_›).1|exact(t5 _ _ ‹_› ‹_› _ ‹_›).2|with_reducible exact r2 _ _ ‹_› |with_reducible exact r3 _ _ ‹_› _|with_reducible exact(r0 _ _ ‹_›).iL|with_reducible exact(r0 _ _ ‹_›).mem|with_reducible exact(r0 _ _ ‹_›).len|with_reducible exact r4 _ _ ‹_› _ ‹_› |exact r5 ‹_› _ _ ‹_› ‹_› |exact r6 _ _ ‹_› ‹_› |with_reducible exact e1 ‹_› _ _ ‹_› ‹_› ‹_› ‹_› |with_reducible exact e2 _|with_reducible exact e3 ‹_› _ ‹_› _ ‹_› |with_reducible exact e4 ‹_› _ ‹_› |omega|(unfold ix;omega)|(unfold aJ;omega)|exact .inr rfl|exact e5|exact(cG ‹_›).elim|exact rfl)
noncomputable def t48:=Rj.adk k48
abbrev Q4:=Int×Int×Int×Int
def kk(q:Q4)(p:Int×Int):Q4:=
 if p.1<0 then(if q.1*(p.2-p.1)< -p.1*q.2.1 then(-p.1,p.2-p.1,q.2.2)else q)
 else if p.2<0 then(if p.1*q.2.2.2<q.2.2.1*(p.1-p.2)then(q.1,q.2.1,p.1,p.1-p.2)else q)else q
def mQ(p:Int×Int):Bool:=decide (p.1<=0)&&decide (p.2<=0)
def rh:∀(l:List (Int×Int)) (q:Q4),jy l q.1 q.2.1 q.2.2.1 q.2.2.2=(!(l.any mQ)&&decide ((l.foldl kk q).1*(l.foldl kk q).2.2.2<(l.foldl kk q).2.2.1*(l.foldl kk q).2.1))
 |[],q=>by simp[jy] <;>congr
 |(a,b)::l,(ln,ld,hn,hd)=>by
  unfold jy;rw[List.any_cons,List.foldl_cons];by_cases h1:a<=0/\b<=0
  .have:mQ (a,b)=true:=by unfold mQ;simp[h1.1,h1.2]
   grind
  .have h2:mQ (a,b)=false:=by unfold mQ;rw[Bool.and_eq_false_iff,decide_eq_false_iff_not,decide_eq_false_iff_not];omega
   rw[if_neg h1,h2,Bool.false_or];unfold kk;dsimp only;by_cases h3:a<0
   .rw[if_pos h3,if_pos h3];by_cases h4:ln*(b-a)< -a*ld
    .rw[if_pos h4,if_pos h4];exact rh l (-a,b-a,hn,hd)
    .rw[if_neg h4,if_neg h4];exact rh l (ln,ld,hn,hd)
   .rw[if_neg h3,if_neg h3];by_cases h5:b<0
    .rw[if_pos h5,if_pos h5];by_cases h4:a*hd<hn*(a-b)
     .rw[if_pos h4,if_pos h4];exact rh l (ln,ld,a,a-b)
     .rw[if_neg h4,if_neg h4];exact rh l (ln,ld,hn,hd)
    .rw[if_neg h5,if_neg h5];exact rh l (ln,ld,hn,hd)
def nD(s e:S):Int×Int:=(cross (aEy e.b e.a) (aEy s.a e.a),cross (aEy e.b e.a) (aEy s.b e.a))
def pg(s:S)(r:aE):List (Int×Int):=(aEE r).map (nD s)
def stE(s:S)(r:aE)(k:Nat):Q4:=((pg s r).take k).foldl kk (0,1,1,1)
def lnE(s:S)(r:aE)(k:Nat):Int:=(stE s r k).1
def ldE(s:S)(r:aE)(k:Nat):Int:=(stE s r k).2.1
def hnE(s:S)(r:aE)(k:Nat):Int:=(stE s r k).2.2.1
def hdE(s:S)(r:aE)(k:Nat):Int:=(stE s r k).2.2.2
def ibd(m x:Int):Prop:= -m<=x/\x<=m
def kB(s:S)(r:aE)(k:Nat):Prop:=((pg s r).take k).any mQ=false/\ibd 1600000000 (lnE s r k)/\ibd 1600000000 (ldE s r k)/\ibd 1600000000 (hnE s r k)/\ibd 1600000000 (hdE s r k)
def WS(s:S)(r:aE):kB s r 0:=by unfold kB lnE ldE hnE hdE stE ibd;simp
def K3{s:S}{r:aE}{k:Nat}(hk:k<(aEE r).length):(pg s r)[k]? =some (nD s (aEE r)[k]):=by unfold pg;grind
def L7{s:S}{r:aE}{k:Nat}(hk:k<(aEE r).length):stE s r (k+1)=kk (stE s r k) (nD s (aEE r)[k]):=by unfold stE;rw[rW,K3 hk,C3];rfl
def WT{s:S}{r:aE}{k:Nat}(hk:k<(aEE r).length)(h:kB s r k)(ho:mQ (nD s (aEE r)[k])=false)
  (ha:ibd 800000000 (nD s (aEE r)[k]).1) (hb:ibd 800000000 (nD s (aEE r)[k]).2):kB s r (k+1):=by
 obtain⟨h1,h2,h3,h4,h5⟩:=h;unfold kB;refine⟨?_,?_⟩
 .rw[rW,K3 hk,List.any_append,h1];simp[ho]
 .unfold lnE ldE hnE hdE at*;rw[L7 hk];generalize nD s (aEE r)[k] =p at ha hb|-;generalize stE s r k=q at h2 h3 h4 h5|-;obtain⟨a,b⟩:=p;obtain⟨ln,ld,hn,hd⟩:=q;unfold ibd at*;dsimp only at*;unfold kk;grind
def VG{s:S}{r:aE}{k:Nat}(hk:k<(aEE r).length)(ho:mQ (nD s (aEE r)[k])=true):c8 s r=false:=by have h:=rh (pg s r) (0,1,1,1);have hm:(pg s r).any mQ=true:=lj.2 ⟨_,bR.2 ⟨_,mg hk,rfl⟩,ho⟩;rw[hm]at h;exact h
def VH{s:S}{r:aE}(h:kB s r (aEE r).length):c8 s r=decide (lnE s r (aEE r).length*hdE s r (aEE r).length<hnE s r (aEE r).length*ldE s r (aEE r).length):=by
 have hl:(pg s r).length=(aEE r).length:=by unfold pg;rw[db]
 have h1:=h.1;have e:=rh (pg s r) (0,1,1,1);unfold lnE ldE hnE hdE stE;rw[<-hl,tg]at h1|-;rw[h1]at e;exact e
structure TriOk(r:aE):Prop where
 three:3<=r.length
 len:r.length<=1000
 near:∀v∈r,ao v 10000=true
 aH:∀e∈aEE r,ao e.a 10000=true/\ao e.b 10000=true
def XE{r:aE}(h:VR r){e:S}(he:e∈aEE r):ao e.a 10000=true/\ao e.b 10000=true:=by have h3:=h.three;unfold aEE at he;rw[if_neg (by omega)]at he;obtain⟨i,hi,rfl⟩:=bR.1 he;have hi:=cF.1 hi;exact⟨jr (uU h.near i hi) (by omega),jr (uU h.near _ (bw _ (by omega))) (by omega)⟩
noncomputable def tC:=t48
structure ROk(r:aE):Prop where
 three:3<=r.length
 len:r.length<=1000
 near:∀v∈r,bd 10000 v
def eG(s:S)(r:aE)(k:Nat):Int×Int:=nD s (bO r k)
def gA(s:S)(r:aE)(k:Nat):Int:=(eG s r k).1
def gB(s:S)(r:aE)(k:Nat):Int:=(eG s r k).2
def gO(s:S)(r:aE)(k:Nat):Bool:=mQ (eG s r k)
def Lh{r:aE}(h:3<=r.length):(aH r).length=r.length:=by unfold aH;grind
def Ab{r:aE}(h:3<=r.length){k:Nat}(hk:k<(aH r).length):(aH r)[k] =bO r k:=by
 have:∀(l:List S) (hl:l=(bV r.length).map (bO r)) (hk:k<l.length),l[k] =bO r k:=λl hl hk=>by grind
 exact this _ (by unfold aH;grind) hk
noncomputable def aDL:Con:=con (ac aS (a1 (aL .V))) (λ(s,r)=>[bd 10000 s.a,bd 10000 s.b,ROk r]) (λ(s,r)=> .bool (c8 s r))
def aCp:aDL.Okz 167:=bJ tC (λ(s,r)=>[(3,.mk Nat (λF _=>nH F 16) [] (λk=>[k<=r.length,kB s r k]) (λk=>[(16,.iqz (k:Int)),(5,.iqz (lnE s r k)),(6,.iqz (ldE s r k)),(7,.iqz (hnE s r k)),(8,.iqz (hdE s r k))]) bh (λk=>r.length-k) λk=>
  [jU 7 [(12,.iqz (gA s r k)),(13,.iqz (gB s r k))],jb 8 43 (gO s r k),jPU 15 [gO s r k=false] [(5,.iqz (lnE s r (k+1))),(6,.iqz (ldE s r (k+1))),(7,.iqz (hnE s r (k+1))),(8,.iqz (hdE s r (k+1)))]])]
  ) (λ(_,_)=>⟨_,rfl⟩) λ(s,r) hp=>az ((0=(0:Int)/\0=lnE s r 0/\1=ldE s r 0/\1=hnE s r 0/\1=hdE s r 0/\(0:Nat)<=r.length/\kB s r 0)/\
 (∀x:Nat,aC (x+1) λA=>aC (x:Int) λB=>aC (aEv r x) λC=>aC (aEv r (A % r.length)) λE=>aC (aEy E C) λF=>aC (0-gA s r x) λG=>aC (aEy s.a C) λH=>aC (aEy s.b C) λI=>aC (gB s r x-gA s r x) λJ=>aC (gA s r x-gB s r x) λK=>x<=r.length/\kB s r x->(B<r.length->(ix B r.length/\aJ (B+1)/\(r.length:Int)≠0/\ix ((A % r.length:Nat):Int) r.length/\bd 1000000000 E/\bd 1000000000 C/\(bd 1000000000 s.a/\bd 1000000000 C/\cOK F H/\bd 1000000000 s.b/\bd 1000000000 C/\cOK F I/\cross F H=gA s r x/\cross F I=gB s r x)/\
    (∀y:Unit,((gA s r x<=0->decide (gB s r x<=0)=gO s r x)/\
      (¬gA s r x<=0->false=gO s r x))/\
     (∀y_1:Unit,(gO s r x=true->false=c8 s r)/\
      (gO s r x=false->(gA s r x<0->aJ G/\aJ (G*ldE s r x)/\aJ J/\aJ (lnE s r x*J)/\(lnE s r x*J<G*ldE s r x->aJ G/\aJ J/\0-gA s r x=lnE s r A/\gB s r x-gA s r x=ldE s r A/\hnE s r x=hnE s r A/\hdE s r x=hdE s r A/\gO s r x=false)/\
        (¬lnE s r x*J<G*ldE s r x->lnE s r x=lnE s r A/\ldE s r x=ldE s r A/\hnE s r x=hnE s r A/\hdE s r x=hdE s r A/\gO s r x=false))/\
       (¬gA s r x<0->(gB s r x<0->aJ (gA s r x*hdE s r x)/\aJ K/\aJ (hnE s r x*K)/\(gA s r x*hdE s r x<hnE s r x*K->aJ K/\lnE s r x=lnE s r A/\ldE s r x=ldE s r A/\gA s r x=hnE s r A/\gA s r x-gB s r x=hdE s r A/\gO s r x=false)/\
         (¬gA s r x*hdE s r x<hnE s r x*K->lnE s r x=lnE s r A/\ldE s r x=ldE s r A/\hnE s r x=hnE s r A/\hdE s r x=hdE s r A/\gO s r x=false))/\
        (¬gB s r x<0->lnE s r x=lnE s r A/\ldE s r x=ldE s r A/\hnE s r x=hnE s r A/\hdE s r x=hdE s r A/\gO s r x=false))))))/\
   (∀y:Unit,gO s r x=false->aJ (B+1)/\B+1=((x+1:Nat):Int)/\lnE s r A=lnE s r A/\ldE s r A=ldE s r A/\hnE s r A=hnE s r A/\hdE s r A=hdE s r A/\x+1<=r.length/\kB s r A/\r.length-A<r.length-x))/\
  (¬B<r.length->aJ (lnE s r x*hdE s r x)/\aJ (hnE s r x*ldE s r x)/\decide (lnE s r x*hdE s r x<hnE s r x*ldE s r x)=c8 s r))) (by kernel_rfl) (by
  change bd 10000 s.a/\bd 10000 s.b/\ROk r at hp;obtain⟨ha,hb,h3⟩:=hp;have l3:=h3.three;have hl:=h3.len;have hN:∀i:Nat,i<r.length->bd 10000 (aEv r i):=λi h=>h3.near _ (eC h);have el:(aH r).length=r.length:=Lh l3;have md:∀i:Nat,(i:Int)<r.length->(i+1) % r.length<r.length:=λi h=>bw _ (by omega);have ha9:bd 1000000000 s.a:=ha.mono;have hb9:bd 1000000000 s.b:=hb.mono;have e9a:∀i:Nat,(i:Int)<r.length->bd 1000000000 (aEv r i):=λi h=>(hN i (by omega)).mono;have e9b:∀i:Nat,(i:Int)<r.length->bd 1000000000 (aEv r ((i+1) % r.length)):=λi h=>(hN _ (md i h)).mono;have x1:∀i:Nat,(i:Int)<r.length->ix (((i+1) % r.length:Nat):Int) r.length:=λi h=>eW (md i h);have cA:∀(v:V) (i:Nat),bd 10000 v->(i:Int)<r.length->cOK (aEy (aEv r ((i+1) % r.length)) (aEv r i)) (aEy v (aEv r i)):=λv i hv h=>by have:=ms (iZ (hN _ (md i h)) (hN i (by omega))) (iZ hv (hN i (by omega)));unfold cOK;omega
  have bA:∀i:Nat,(i:Int)<r.length->ibd 800000000 (gA s r i)/\ibd 800000000 (gB s r i):=λi h=>by have h0:bd 10000 (nxt r i):=hN _ (md i h);have h1:=ms (iZ h0 (hN i (by omega))) (iZ ha (hN i (by omega)));have h2:=ms (iZ h0 (hN i (by omega))) (iZ hb (hN i (by omega)));unfold gA gB eG nD ibd bO;dsimp only;unfold cross;omega
  have sN:∀i:Nat,(i:Int)<r.length->stE s r (i+1)=kk (stE s r i) (eG s r i):=λi h=>by rw[L7 (show i<(aH r).length by omega),Ab l3];rfl
  have iN:∀i:Nat,(i:Int)<r.length->kB s r i->gO s r i=false->kB s r (i+1):=λi h h1 h2=>by
   have hb:=bA i h;have hk:i<(aH r).length:=by omega
   have e:eG s r i=nD s (aH r)[i] :=by rw[Ab l3];rfl
   refine WT hk h1 ?_ ?_ ?_
   .rw[<-e];exact h2
   .rw[<-e];exact hb.1
   .rw[<-e];exact hb.2
  have oY:∀i:Nat,(i:Int)<r.length->gO s r i=true->false=c8 s r:=λi h h2=>by symm;refine VG (k:=i) (show i<(aH r).length by omega) ?_;rw[Ab l3];exact h2
  have oE:∀i:Nat,¬(i:Int)<r.length->i<=r.length->kB s r i->decide (lnE s r i*hdE s r i<hnE s r i*ldE s r i)=c8 s r:=λi h h2 h3=>by
   obtain rfl:i=r.length:=by omega
   rw[<-el]at h3|-;rw[VH h3]
  have o1:∀i:Nat,gA s r i<=0->decide (gB s r i<=0)=gO s r i:=λi h=>by unfold gO mQ;rw[decide_eq_true (show(eG s r i).1<=0 from h)];rfl
  have o2:∀i:Nat,¬gA s r i<=0->false=gO s r i:=λi h=>by unfold gO mQ;rw[decide_eq_false (show¬(eG s r i).1<=0 from h)];rfl
  have nN:∀x:Int,0-x= -x:=λx=>by omega
  have s1:∀i:Nat,(i:Int)<r.length->gA s r i<0->lnE s r i*(gB s r i-gA s r i)<(0-gA s r i)*ldE s r i->stE s r (i+1)=(0-gA s r i,gB s r i-gA s r i,hnE s r i,hdE s r i):=λi h h1 h2=>by rw[sN i h];unfold kk;rw[if_pos (show(eG s r i).1<0 from h1)];rw[nN]at h2;exact(if_pos (show(stE s r i).1*((eG s r i).2-(eG s r i).1)< -(eG s r i).1*(stE s r i).2.1 from h2)).trans (by rw[nN];rfl)
  have s2:∀i:Nat,(i:Int)<r.length->gA s r i<0->¬lnE s r i*(gB s r i-gA s r i)<(0-gA s r i)*ldE s r i->stE s r (i+1)=stE s r i:=λi h h1 h2=>by rw[sN i h];unfold kk;rw[if_pos (show(eG s r i).1<0 from h1)];rw[nN]at h2;exact if_neg h2
  have s3:∀i:Nat,(i:Int)<r.length->¬gA s r i<0->gB s r i<0->gA s r i*hdE s r i<hnE s r i*(gA s r i-gB s r i)->stE s r (i+1)=(lnE s r i,ldE s r i,gA s r i,gA s r i-gB s r i):=λi h h1 h2 h3=>by rw[sN i h];unfold kk;rw[if_neg (show¬(eG s r i).1<0 from h1),if_pos (show(eG s r i).2<0 from h2)];exact if_pos h3
  have s4:∀i:Nat,(i:Int)<r.length->¬gA s r i<0->gB s r i<0->¬gA s r i*hdE s r i<hnE s r i*(gA s r i-gB s r i)->stE s r (i+1)=stE s r i:=λi h h1 h2 h3=>by rw[sN i h];unfold kk;rw[if_neg (show¬(eG s r i).1<0 from h1),if_pos (show(eG s r i).2<0 from h2)];exact if_neg h3
  have s5:∀i:Nat,(i:Int)<r.length->¬gA s r i<0->¬gB s r i<0->stE s r (i+1)=stE s r i:=λi h h1 h2=>by rw[sN i h];unfold kk;rw[if_neg (show¬(eG s r i).1<0 from h1)];exact if_neg (show¬(eG s r i).2<0 from h2)
  have w:∀i:Nat,(i:Int)<r.length->kB s r i->aJ (0-gA s r i)/\aJ ((0-gA s r i)*ldE s r i)/\aJ (gB s r i-gA s r i)/\aJ (lnE s r i*(gB s r i-gA s r i))/\aJ (gA s r i*hdE s r i)/\aJ (gA s r i-gB s r i)/\aJ (hnE s r i*(gA s r i-gB s r i)):=λi h hI=>by obtain⟨h1,h2⟩:=bA i h;obtain⟨_,g1,g2,g3,g4⟩:=hI;unfold ibd at h1 h2 g1 g2 g3 g4;have m1:=gm (x:=0-gA s r i) (y:=ldE s r i) (A:=1600000000) (B:=1600000000) (by omega) (by omega);have m2:=gm (x:=lnE s r i) (y:=gB s r i-gA s r i) (A:=1600000000) (B:=1600000000) (by omega) (by omega);have m3:=gm (x:=gA s r i) (y:=hdE s r i) (A:=1600000000) (B:=1600000000) (by omega) (by omega);have m4:=gm (x:=hnE s r i) (y:=gA s r i-gB s r i) (A:=1600000000) (B:=1600000000) (by omega) (by omega);exact⟨bW (by omega),bW (by omega),bW (by omega),bW (by omega),bW (by omega),bW (by omega),bW (by omega)⟩
  have wE:∀i:Nat,kB s r i->aJ (lnE s r i*hdE s r i)/\aJ (hnE s r i*ldE s r i):=λi hI=>by obtain⟨_,g1,g2,g3,g4⟩:=hI;unfold ibd at g1 g2 g3 g4;have m1:=gm (x:=lnE s r i) (y:=hdE s r i) (A:=1600000000) (B:=1600000000) (by omega) (by omega);have m2:=gm (x:=hnE s r i) (y:=ldE s r i) (A:=1600000000) (B:=1600000000) (by omega) (by omega);exact⟨bW (by omega),bW (by omega)⟩
  have z:=WS s r;have q1:∀i:Nat,(i:Int)<r.length->gA s r i<0->lnE s r i*(gB s r i-gA s r i)<(0-gA s r i)*ldE s r i->0-gA s r i=lnE s r (i+1)/\gB s r i-gA s r i=ldE s r (i+1)/\hnE s r i=hnE s r (i+1)/\hdE s r i=hdE s r (i+1):=λi h0 h1 h2=>by have e:=s1 i h0 h1 h2;exact⟨(congrArg (λq:Q4=>q.1) e).symm,(congrArg (λq:Q4=>q.2.1) e).symm,(congrArg (λq:Q4=>q.2.2.1) e).symm,(congrArg (λq:Q4=>q.2.2.2) e).symm⟩
  have q2:∀i:Nat,(i:Int)<r.length->gA s r i<0->¬lnE s r i*(gB s r i-gA s r i)<(0-gA s r i)*ldE s r i->lnE s r i=lnE s r (i+1)/\ldE s r i=ldE s r (i+1)/\hnE s r i=hnE s r (i+1)/\hdE s r i=hdE s r (i+1):=λi h0 h1 h2=>by have e:=s2 i h0 h1 h2;exact⟨(congrArg (λq:Q4=>q.1) e).symm,(congrArg (λq:Q4=>q.2.1) e).symm,(congrArg (λq:Q4=>q.2.2.1) e).symm,(congrArg (λq:Q4=>q.2.2.2) e).symm⟩
  have q3:∀i:Nat,(i:Int)<r.length->¬gA s r i<0->gB s r i<0->gA s r i*hdE s r i<hnE s r i*(gA s r i-gB s r i)->lnE s r i=lnE s r (i+1)/\ldE s r i=ldE s r (i+1)/\gA s r i=hnE s r (i+1)/\gA s r i-gB s r i=hdE s r (i+1):=λi h0 h1 h2 h3=>by have e:=s3 i h0 h1 h2 h3;exact⟨(congrArg (λq:Q4=>q.1) e).symm,(congrArg (λq:Q4=>q.2.1) e).symm,(congrArg (λq:Q4=>q.2.2.1) e).symm,(congrArg (λq:Q4=>q.2.2.2) e).symm⟩
  have q4:∀i:Nat,(i:Int)<r.length->¬gA s r i<0->gB s r i<0->¬gA s r i*hdE s r i<hnE s r i*(gA s r i-gB s r i)->lnE s r i=lnE s r (i+1)/\ldE s r i=ldE s r (i+1)/\hnE s r i=hnE s r (i+1)/\hdE s r i=hdE s r (i+1):=λi h0 h1 h2 h3=>by have e:=s4 i h0 h1 h2 h3;exact⟨(congrArg (λq:Q4=>q.1) e).symm,(congrArg (λq:Q4=>q.2.1) e).symm,(congrArg (λq:Q4=>q.2.2.1) e).symm,(congrArg (λq:Q4=>q.2.2.2) e).symm⟩
  have q5:∀i:Nat,(i:Int)<r.length->¬gA s r i<0->¬gB s r i<0->lnE s r i=lnE s r (i+1)/\ldE s r i=ldE s r (i+1)/\hnE s r i=hnE s r (i+1)/\hdE s r i=hdE s r (i+1):=λi h0 h1 h2=>by have e:=s5 i h0 h1 h2;exact⟨(congrArg (λq:Q4=>q.1) e).symm,(congrArg (λq:Q4=>q.2.1) e).symm,(congrArg (λq:Q4=>q.2.2.1) e).symm,(congrArg (λq:Q4=>q.2.2.2) e).symm⟩
  clear sN bA nN s1 s2 s3 s4 s5 hN md
  repeat' first|with_reducible apply cM|with_reducible intro
  all_goals repeat with_reducible cases‹_/\kB _ _ _›
  all_goals first|assumption|with_reducible rfl|(with_reducible exact e9a _ ‹_›)|(with_reducible exact e9b _ ‹_›)|(with_reducible exact x1 _ ‹_›)|(with_reducible exact cA _ _ ‹_› ‹_›)|(with_reducible exact oY _ ‹_› ‹_›)|(with_reducible exact oE _ ‹_› ‹_› ‹_›)|(with_reducible exact o1 _ ‹_›)|(with_reducible exact o2 _ ‹_›)|(with_reducible exact(w _ ‹_› ‹_›).1)|(with_reducible exact(w _ ‹_› ‹_›).2.1)|(with_reducible exact(w _ ‹_› ‹_›).2.2.1)|(with_reducible exact(w _ ‹_› ‹_›).2.2.2.1)|(with_reducible exact(w _ ‹_› ‹_›).2.2.2.2.1)|(with_reducible exact(w _ ‹_› ‹_›).2.2.2.2.2.1)|(with_reducible exact(w _ ‹_› ‹_›).2.2.2.2.2.2)|(with_reducible exact(wE _ ‹_›).1)|(with_reducible exact(wE _ ‹_›).2)|(with_reducible exact iN _ ‹_› ‹_› ‹_›)|(with_reducible exact(q1 _ ‹_› ‹_› ‹_›).1)|(with_reducible exact(q1 _ ‹_› ‹_› ‹_›).2.1)|(with_reducible exact(q1 _ ‹_› ‹_› ‹_›).2.2.1)|(with_reducible exact(q1 _ ‹_› ‹_› ‹_›).2.2.2)|(with_reducible exact(q2 _ ‹_› ‹_› ‹_›).1)|(with_reducible exact(q2 _ ‹_› ‹_› ‹_›).2.1)|(with_reducible exact(q2 _ ‹_› ‹_› ‹_›).2.2.1)|(with_reducible exact(q2 _ ‹_› ‹_› ‹_›).2.2.2)|(with_reducible exact(q3 _ ‹_› ‹_› ‹_› ‹_›).1)|(with_reducible exact(q3 _ ‹_› ‹_› ‹_› ‹_›).2.1)|(with_reducible exact(q3 _ ‹_› ‹_› ‹_› ‹_›).2.2.1)|(with_reducible exact(q3 _ ‹_› ‹_› ‹_› ‹_›).2.2.2)|(with_reducible exact(q4 _ ‹_› ‹_› ‹_› ‹_›).1)|(with_reducible exact(q4 _ ‹_› ‹_› ‹_› ‹_›).2.1)|(with_reducible exact(q4 _ ‹_› ‹_› ‹_› ‹_›).2.2.1)|(with_reducible exact(q4 _ ‹_› ‹_› ‹_› ‹_›).2.2.2)|(with_reducible exact(q5 _ ‹_› ‹_› ‹_›).1)|(with_reducible exact(q5 _ ‹_› ‹_› ‹_›).2.1)|(with_reducible exact(q5 _ ‹_› ‹_› ‹_›).2.2.1)|(with_reducible exact(q5 _ ‹_› ‹_› ‹_›).2.2.2)|omega|(unfold ix;omega)|(unfold aJ;omega)|rfl)
noncomputable def Q5:=tC.adk aCp
def kA(r:aE):Pt:=pY (aEv r 0) (aEv r 1) (aEv r 2)
def Z2{r:aE}(h:ROk r): -1000000<=(kA r).x/\(kA r).x<=1000000/\ -1000000<=(kA r).y/\(kA r).y<=1000000/\0<=(kA r).den/\(kA r).den<=100:=by have v:∀i,i<r.length->bd 10000 (aEv r i):=λi hi=>h.near _ (eC hi);have l3:=h.three;have v0:=v 0 (by omega);have v1:=v 1 (by omega);have v2:=v 2 (by omega);unfold bd at v0 v1 v2;have q1:=pO (x:=(aEv r 0).x+(aEv r 1).x+(aEv r 2).x) (g:=3) (B:=30000) (by omega);have q2:=pO (x:=(aEv r 0).y+(aEv r 1).y+(aEv r 2).y) (g:=3) (B:=30000) (by omega);unfold kA pY;grind
def QK{r:aE}{p:Pt}(h:3<=r.length):l8 r p=(bV r.length).all λi=>decide (0<((aEv r ((i+1) % r.length)).x-(aEv r i).x)*(p.y-(aEv r i).y*p.den)-((aEv r ((i+1) % r.length)).y-(aEv r i).y)*(p.x-(aEv r i).x*p.den)):=by unfold l8 aH;rw[if_neg (by omega),List.all_map];rfl
def aAe{t:LT}{l:List t.ty}{q:t.ty->Bool}{j:Nat}(hj:j<l.length)(h:q (t.nth l j)=true):l.any q=true:=
 lj.2 ⟨_,mg hj,by rw[<-t.nth_eq l hj];exact h⟩
def Gy{t:LT}{l:List t.ty}{q:t.ty->Bool}(h:aM (λj=>q (t.nth l j)=false) l.length):l.any q=false:=
 List.any_eq_false.2 λx hx=>by obtain⟨j,hj,rfl⟩:=jm hx;have:=h j hj;dsimp only at this;rw[t.nth_eq l hj]at this;grind
noncomputable def aDK:Con:=con (a1 (aL .V)) (λr=>[ROk r]) (λr=>aT.enc (kA r)
 )
def aCo:aDK.Okz 168:=bJ Q5 bh (λ_=>⟨_,rfl⟩) λr hp=>az (aC (kA r) λA=>aC (3:Int) λB=>aC (aEv r 0) λC=>aC (aEv r 1) λD=>aC (aEv r 2) λE=>aC (C.x+D.x+E.x) λF=>aC (C.y+D.y+E.y) λG=>ix 0 r.length/\ix 1 r.length/\aJ (C.x+D.x)/\ix 2 r.length/\aJ F/\ix 0 r.length/\ix 1 r.length/\aJ (C.y+D.y)/\ix 2 r.length/\aJ G/\B≠0/\(c5 F 3=0->B≠0/\(c5 G 3=0->B≠0/\aJ (fU F 3)/\B≠0/\aJ (fU G 3)/\fU F 3=A.x/\fU G 3=A.y/\1=A.den)/\
  (¬c5 G 3=0->C.x+D.x+E.x=A.x/\C.y+D.y+E.y=A.y/\3=A.den))/\
 (¬c5 F 3=0->C.x+D.x+E.x=A.x/\C.y+D.y+E.y=A.y/\3=A.den)) (by kernel_rfl) (by
  change ROk r at hp;have v:∀i,i<r.length->bd 10000 (aEv r i):=λi h=>hp.near _ (eC h);have l3:=hp.three;have v0:=v 0 (by omega);have v1:=v 1 (by omega);have v2:=v 2 (by omega);have m1:c5 ((aEv r 0).x+(aEv r 1).x+(aEv r 2).x) 3=0->c5 ((aEv r 0).y+(aEv r 1).y+(aEv r 2).y) 3=0->kA r=⟨fU ((aEv r 0).x+(aEv r 1).x+(aEv r 2).x) 3,fU ((aEv r 0).y+(aEv r 1).y+(aEv r 2).y) 3,1⟩:=λh1 h2=>if_pos ⟨h1,h2⟩;have m2:¬(c5 ((aEv r 0).x+(aEv r 1).x+(aEv r 2).x) 3=0/\c5 ((aEv r 0).y+(aEv r 1).y+(aEv r 2).y) 3=0)->kA r=⟨(aEv r 0).x+(aEv r 1).x+(aEv r 2).x,(aEv r 0).y+(aEv r 1).y+(aEv r 2).y,3⟩:=λh=>if_neg h;unfold bd at v0 v1 v2;have q1:=pO (x:=(aEv r 0).x+(aEv r 1).x+(aEv r 2).x) (g:=3) (B:=4000000000) (by omega);have q2:=pO (x:=(aEv r 0).y+(aEv r 1).y+(aEv r 2).y) (g:=3) (B:=4000000000) (by omega);have x0:ix 0 r.length:=⟨by omega,by omega⟩;have x1:ix 1 r.length:=⟨by omega,by omega⟩;have x2:ix 2 r.length:=⟨by omega,by omega⟩;refine⟨x0,x1,bW (by omega),x2,bW (by omega),x0,x1,bW (by omega),x2,bW (by omega),by decide,λh1=>⟨by decide,λh2=>⟨by decide,bW (by omega),by decide,bW (by omega),?_⟩,λh2=> ?_⟩,λh1=> ?_⟩
  .grind
  .grind
  grind)
noncomputable def Q3:=Q5.adk aCo
noncomputable def aDI:Con:=con (ac (aL .V) (a1 aT)) (λ(r,p)=>[ROk r,-1000000<=p.x,p.x<=1000000,-1000000<=p.y,p.y<=1000000,0<=p.den,p.den<=100]) (λ(r,p)=> .bool (l8 r p))
def aCm:aDI.Okz 170:=bJ Q3 (λ(r,p)=>[cnt 2 10 r.length (aM λi=>0<((aEv r ((i+1) % r.length)).x-(aEv r i).x)*(p.y-(aEv r i).y*p.den)-((aEv r ((i+1) % r.length)).y-(aEv r i).y)*(p.x-(aEv r i).x*p.den))]
  ) (λ(_,_)=>⟨_,rfl⟩) λ(r,p) hp=>az ((0=(0:Int)/\(0:Nat)<=r.length/\aM (λi=>0<((aEv r ((i+1) % r.length)).x-(aEv r i).x)*(p.y-(aEv r i).y*p.den)-((aEv r ((i+1) % r.length)).y-(aEv r i).y)*(p.x-(aEv r i).x*p.den)) 0)/\
 (∀x:Nat,aC (x+1) λA=>aC (x:Int) λB=>aC (aEv r x) λC=>aC (aEv r (A % r.length)) λE=>aC (aEy E C) λF=>aC (p.y-C.y*p.den) λG=>aC (p.x-C.x*p.den) λH=>x<=r.length/\aM (λi=>0<((aEv r ((i+1) % r.length)).x-(aEv r i).x)*(p.y-(aEv r i).y*p.den)-((aEv r ((i+1) % r.length)).y-(aEv r i).y)*(p.x-(aEv r i).x*p.den)) x->(B<r.length->ix B r.length/\aJ (B+1)/\(r.length:Int)≠0/\ix ((A % r.length:Nat):Int) r.length/\bd 1000000000 E/\bd 1000000000 C/\aJ (C.y*p.den)/\aJ G/\aJ (F.x*G)/\aJ (C.x*p.den)/\aJ H/\aJ (F.y*H)/\aJ (F.x*G-F.y*H)/\(F.x*G-F.y*H<=0->false=l8 r p)/\
   (¬F.x*G-F.y*H<=0->aJ (B+1)/\B+1=((x+1:Nat):Int)/\x+1<=r.length/\aM (λi=>0<((aEv r ((i+1) % r.length)).x-(aEv r i).x)*(p.y-(aEv r i).y*p.den)-((aEv r ((i+1) % r.length)).y-(aEv r i).y)*(p.x-(aEv r i).x*p.den)) A/\r.length-A<r.length-x))/\
  (¬B<r.length->true=l8 r p))) (by kernel_rfl) (by
  change ROk r/\ -1000000<=p.x/\p.x<=1000000/\ -1000000<=p.y/\p.y<=1000000/\0<=p.den/\p.den<=100 at hp;obtain⟨hr,px1,px2,py1,py2,pd1,pd2⟩:=hp;have l3:=hr.three;have hl:=hr.len;have v:∀i,i<r.length->bd 10000 (aEv r i):=λi h=>hr.near _ (eC h);have md:∀i:Nat,(i:Int)<r.length->(i+1) % r.length<r.length:=λi h=>bw _ (by omega);have x1:∀i:Nat,(i:Int)<r.length->ix (((i+1) % r.length:Nat):Int) r.length:=λi h=>eW (md i h);have b1:∀i:Nat,(i:Int)<r.length->bd 1000000000 (aEv r i):=λi h=>(v i (by omega)).mono;have b2:∀i:Nat,(i:Int)<r.length->bd 1000000000 (aEv r ((i+1) % r.length)):=λi h=>(v _ (md i h)).mono;have k:∀a:Int,-10000<=a/\a<=10000-> -1000000<=a*p.den/\a*p.den<=1000000:=λa h=>by have:=gm (x:=a) (y:=p.den) (A:=10000) (B:=100) ⟨h.1,h.2⟩ ⟨by omega,by omega⟩;omega
  have m:∀a b:Int,-20000<=a/\a<=20000-> -2000000<=b/\b<=2000000-> -40000000000<=a*b/\a*b<=40000000000:=λa b h1 h2=>by have:=gm (x:=a) (y:=b) (A:=20000) (B:=2000000) h1 h2;omega
  have w:∀i:Nat,(i:Int)<r.length->aJ ((aEv r i).y*p.den)/\aJ (p.y-(aEv r i).y*p.den)/\aJ ((aEy (aEv r ((i+1) % r.length)) (aEv r i)).x*(p.y-(aEv r i).y*p.den))/\aJ ((aEv r i).x*p.den)/\aJ (p.x-(aEv r i).x*p.den)/\aJ ((aEy (aEv r ((i+1) % r.length)) (aEv r i)).y*(p.x-(aEv r i).x*p.den))/\aJ ((aEy (aEv r ((i+1) % r.length)) (aEv r i)).x*(p.y-(aEv r i).y*p.den)-(aEy (aEv r ((i+1) % r.length)) (aEv r i)).y*(p.x-(aEv r i).x*p.den)):=λi h=>by
   have h1:=v i (by omega);have h2:=v _ (md i h);unfold bd at h1 h2;have k1:=k _ (show-10000<=(aEv r i).x/\(aEv r i).x<=10000 by omega);have k2:=k _ (show-10000<=(aEv r i).y/\(aEv r i).y<=10000 by omega);have d1: -20000<=(aEy (aEv r ((i+1) % r.length)) (aEv r i)).x/\(aEy (aEv r ((i+1) % r.length)) (aEv r i)).x<=20000:=by unfold aEy;dsimp only;omega
   have d2: -20000<=(aEy (aEv r ((i+1) % r.length)) (aEv r i)).y/\(aEy (aEv r ((i+1) % r.length)) (aEv r i)).y<=20000:=by unfold aEy;dsimp only;omega
   have m1:=m _ (p.y-(aEv r i).y*p.den) d1 (by omega);have m2:=m _ (p.x-(aEv r i).x*p.den) d2 (by omega);exact⟨bW (by omega),bW (by omega),bW (by omega),bW (by omega),bW (by omega),bW (by omega),bW (by omega)⟩
  have no:∀i:Nat,(i:Int)<r.length->(aEy (aEv r ((i+1) % r.length)) (aEv r i)).x*(p.y-(aEv r i).y*p.den)-(aEy (aEv r ((i+1) % r.length)) (aEv r i)).y*(p.x-(aEv r i).x*p.den)<=0->false=l8 r p:=λi h h2=>by rw[QK l3];symm;refine y9.2 ⟨i,cF.2 (by omega),?_⟩;intro h3;have:=of_decide_eq_true h3;unfold aEy at h2;grind
  have yes:∀i:Nat,¬(i:Int)<r.length->i<=r.length->aM (λi=>0<((aEv r ((i+1) % r.length)).x-(aEv r i).x)*(p.y-(aEv r i).y*p.den)-((aEv r ((i+1) % r.length)).y-(aEv r i).y)*(p.x-(aEv r i).x*p.den)) i->true=l8 r p:=λi h h2 h3=>by rw[QK l3];symm;refine bf.2 λj hj=>decide_eq_true (h3 j ?_);grind
  have nx:∀i:Nat,¬(aEy (aEv r ((i+1) % r.length)) (aEv r i)).x*(p.y-(aEv r i).y*p.den)-(aEy (aEv r ((i+1) % r.length)) (aEv r i)).y*(p.x-(aEv r i).x*p.den)<=0->0<((aEv r ((i+1) % r.length)).x-(aEv r i).x)*(p.y-(aEv r i).y*p.den)-((aEv r ((i+1) % r.length)).y-(aEv r i).y)*(p.x-(aEv r i).x*p.den):=λi h=>by unfold aEy at h;grind
  clear k m v md
  with_reducible ((repeat' first|apply cM|intro);all_goals repeat cases‹_/\_›)
  all_goals first|rfl|with_reducible solve_by_elim|(with_reducible first|assumption|rfl|exact(w _ ‹_›).1|exact(w _ ‹_›).2.1|exact(w _ ‹_›).2.2.1|exact(w _ ‹_›).2.2.2.1|exact(w _ ‹_›).2.2.2.2.1|exact(w _ ‹_›).2.2.2.2.2.1|exact(w _ ‹_›).2.2.2.2.2.2)|exact cT ‹_› (nx _ ‹_›)|omega|grind)
noncomputable def Q1:=Q3.adk aCm
noncomputable def aDJ:Con:=con (ac (aL .V) (a1 (aL .V))) (λ(a,b)=>[ROk a,ROk b]) (λ(a,b)=> .bool ((aH a).any λs=>c8 s b))
def aCn:aDJ.Okz 169:=bJ Q1 (λ(a,b)=>[cnt 2 10 (aH a).length (aM λi=>c8 (bB (aH a) i) b=false)]
  ) (λ(_,_)=>⟨_,rfl⟩) λ(a,b) hp=>az (aC (aH a) λB=>a.length<=1000/\(0=(0:Int)/\(0:Nat)<=B.length/\aM (λi=>c8 (bB B i) b=false) 0)/\
 (∀x:Nat,aC (x:Int) λA=>aC (bB B x) λC=>x<=B.length/\aM (λi=>c8 (bB B i) b=false) x->(A<B.length->ix A B.length/\x<B.length/\bd 10000 C.a/\bd 10000 C.b/\ROk b/\(c8 C b=true->true=fo B (λs=>c8 s b))/\
   (c8 C b=false->aJ (A+1)/\A+1=((x+1:Nat):Int)/\x+1<=B.length/\aM (λi=>c8 (bB B i) b=false) (x+1)/\B.length-(x+1)<B.length-x))/\
  (¬A<B.length->false=fo B (λs=>c8 s b)))) (by kernel_rfl) (by
  change ROk a/\ROk b at hp;obtain⟨ha,hb⟩:=hp;have la:=ha.three;have lb:=ha.len;have el:=Lh la;have e1:∀i:Nat,(i:Int)<(aH a).length->bd 10000 (bB (aH a) i).a/\bd 10000 (bB (aH a) i).b:=λi h=>by rw[jH (show i<(aH a).length by omega),Ab la];exact⟨ha.near _ (eC (by omega)),ha.near _ (eC (bw _ (by omega)))⟩
  have yes:∀i:Nat,(i:Int)<(aH a).length->c8 (bB (aH a) i) b=true->true=fo (aH a) (λs=>c8 s b):=λi h h2=>
   (aAe (t:= .S) (l:=aH a) (q:=λs=>c8 s b) (j:=i) (by omega) h2).symm
  have no:∀i:Nat,¬(i:Int)<(aH a).length->i<=(aH a).length->aM (λi=>c8 (bB (aH a) i) b=false) i->false=fo (aH a) (λs=>c8 s b):=λi h h2 h3=>by
   obtain rfl:i=(aH a).length:=by omega
   exact(Gy (t:= .S) (l:=aH a) (q:=λs=>c8 s b) h3).symm
  with_reducible ((repeat' first|apply cM|intro);all_goals repeat cases‹_/\_›)
  all_goals first|rfl|with_reducible solve_by_elim|(with_reducible first|assumption|rfl|exact(e1 _ ‹_›).1|exact(e1 _ ‹_›).2)|grind)
noncomputable def Q2:=Q1.adk aCn
noncomputable def aEm:Con:=con (ac (aL .V) (a1 (aL .V))) (λ(a,b)=>[ROk a,ROk b]) (λ(a,b)=> .bool (fH a b)
 )
def aCZ:aEm.Okz 110:=bJ Q2 (λ(_,_)=>[]) (λ(_,_)=>⟨_,rfl⟩) λ(a,b) hp=>az (aC (kA a) λA=>ROk a/\ROk b/\(fo (aH a) (λs=>c8 s b)=true->true=fH a b)/\
 (fo (aH a) (λs=>c8 s b)=false->ROk b/\ROk a/\(fo (aH b) (λs=>c8 s a)=true->true=fH a b)/\
  (fo (aH b) (λs=>c8 s a)=false->ROk a/\ROk b/\ -1000000<=A.x/\A.x<=1000000/\ -1000000<=A.y/\A.y<=1000000/\0<=A.den/\A.den<=100/\l8 b A=fH a b))) (by kernel_rfl) (by
  change ROk a/\ROk b at hp;obtain⟨ha,hb⟩:=hp;have c:=Z2 ha;have o:fH a b=((fo (aH a) λs=>c8 s b)||((fo (aH b) λs=>c8 s a)||l8 b (kA a))):=rfl;grind)
noncomputable def Rn:=Q2.adk aCZ
noncomputable def aEo:Con:=con (ac aSh (a1 (aL .V))) (λ(s,r)=>[Fit s,ROk r,(bQ s).length<=1000000,(∀e∈bQ s,ao e.a 10000=true/\ao e.b 10000=true)]) (λ(s,r)=> .bool (nk s r))
def aC1:aEo.Okz 108:=bJ Rn (λ(s,r)=>[cnt 2 10 (bQ s).length (aM λi=>c8 (bB (bQ s) i) r=false)]
  ) (λ(_,_)=>⟨_,rfl⟩) λ(s,r) hp=>az (aC (bQ s) λB=>Fit s/\(0=(0:Int)/\(0:Nat)<=B.length/\aM (λi=>c8 (bB B i) r=false) 0)/\
 (∀x:Nat,aC (x:Int) λA=>aC (bB B x) λC=>x<=B.length/\aM (λi=>c8 (bB B i) r=false) x->(A<B.length->ix A B.length/\bd 10000 C.a/\bd 10000 C.b/\ROk r/\(c8 C r=true->false=nk s r)/\
   (c8 C r=false->aJ (A+1)/\A+1=((x+1:Nat):Int)/\x+1<=B.length/\aM (λi=>c8 (bB B i) r=false) (x+1)/\B.length-(x+1)<B.length-x))/\
  (¬A<B.length->ROk r/\Fit s/\decide (eI s (kA r)=2)=nk s r))) (by kernel_rfl) (by
  change Fit s/\ROk r/\(bQ s).length<=1000000/\((∀e∈bQ s,ao e.a 10000=true/\ao e.b 10000=true))at hp;obtain⟨hf,hr,hl,he⟩:=hp;have e1:∀i:Nat,(i:Int)<(bQ s).length->bd 10000 (bB (bQ s) i).a:=λi h=>by rw[jH (by omega)];exact qE (he _ (mg _)).1
  have e2:∀i:Nat,(i:Int)<(bQ s).length->bd 10000 (bB (bQ s) i).b:=λi h=>by rw[jH (by omega)];exact qE (he _ (mg _)).2
  have t1:∀i:Nat,(i:Int)<(bQ s).length->c8 (bB (bQ s) i) r=true->false=nk s r:=λi h h2=>by unfold nk;rw[Bf (t:= .S) (l:=bQ s) (q:=λe=> !c8 e r) (j:=i) (by omega) (by rw[show c8 (LT.S.nth (bQ s) i) r=true from h2];rfl)];rfl
  have t3:∀x:Nat,¬(x:Int)<(bQ s).length->x<=(bQ s).length->aM (λi=>c8 (bB (bQ s) i) r=false) x->decide (eI s (kA r)=2)=nk s r:=λx h1 h2 h3=>by
   obtain rfl:x=(bQ s).length:=by omega
   unfold nk;rw[BD (t:= .S) (l:=bQ s) (q:=λe=> !c8 e r) (λj hj=>by show(!c8 (bB (bQ s) j) r)=true;rw[show c8 (bB (bQ s) j) r=false from h3 j hj];rfl),Bool.true_and,fg];unfold kA;simp
  clear he
  with_reducible ((repeat' first|apply cM|intro);all_goals repeat cases‹_/\_›)
  all_goals first|rfl|with_reducible solve_by_elim|(with_reducible first|assumption|rfl)|grind)
noncomputable def Ho:=Rn.adk aC1
def VOk(v:V):Prop:=aJ v.x/\aJ v.y
def B8(v:V):PV:= .agg [.int .i64 v.x,.int .i64 v.y]
def qF(a b:V):V:=⟨iq.wrap (a.x-b.x),iq.wrap (a.y-b.y)⟩
def uw(a b:V):Int:=iq.wrap (iq.wrap (a.x*b.y)-iq.wrap (a.y*b.x))
def sm(a b c:V):Int:=aEB (uw (qF b a) (qF c a)) 0
def Ng{a b:V}(ha:bd 1000000000 a)(hb:bd 1000000000 b):qF a b=aEy a b:=by unfold bd at ha hb;unfold qF aEy;rw[uG (bW (by omega)),uG (bW (by omega))]
def Wn{a b:V}(ha:bd 2000000000 a)(hb:bd 2000000000 b):uw a b=cross a b:=by have:=ms ha hb;unfold uw cross;rw[uG (x:=a.x*b.y) (bW (by omega)),uG (x:=a.y*b.x) (bW (by omega)),uG (bW (by omega))]
def XH{a b c:V}(ha:bd 1000000000 a)(hb:bd 1000000000 b)(hc:bd 1000000000 c):sm a b c=turn a b c:=by
 have e:∀n,aEB n 0=sgn n:=λn=>by unfold aEB sgn;grind
 unfold sm;rw[Ng hb ha,Ng hc ha,Wn (iZ hb ha) (iZ hc ha),e];rfl
noncomputable def aBx:Con:=con (ac aV (a1 aV)) (λ(_,_)=>[True]) (λ(a,b)=>aV.enc (qF a b))
def aBl:aBx.Okz 138:=yK (qC Ho.o) (raw:=λ_ _=>true
 ) (λ(_,_)=>[]) (λ(_,_)=>⟨_,rfl⟩) λ(a,b) hp=>az (zA iq (a.x-b.x)=(qF a b).x/\zA iq (a.y-b.y)=(qF a b).y) (by kernel_rfl) (by
 change True at hp;exact⟨rfl,rfl⟩)
noncomputable def Px:=Ho.adk aBl
noncomputable def aBy:Con:=con (ac aV (a1 aV)) (λ(_,_)=>[True]) (λ(a,b)=> .iqz (uw a b))
def aBm:aBy.Okz 111:=yK (qC Px.o) (raw:=λ_ _=>true
 ) (λ(_,_)=>[]) (λ(_,_)=>⟨_,rfl⟩) λ(a,b) hp=>az (zA iq (zA iq (a.x*b.y)-zA iq (a.y*b.x))=uw a b) (by kernel_rfl) (by
 change True at hp;rfl)
noncomputable def Py:=Px.adk aBm
noncomputable def aDb:Con:=con (ac aV (ac aV (a1 aV))) (λ(_,_,_)=>[True]) (λ(a,b,c)=> .iqz (sm a b c)
 )
def aBP:aDb.Okz 63:=bJ Py (λ(_,_,_)=>[]) (λ(_,_,_)=>⟨_,rfl⟩) λ(a,b,c) hp=>az (True/\True/\True/\aEB (uw (qF b a) (qF c a)) 0=sm a b c) (by kernel_rfl) (by change True at hp;exact⟨trivial,trivial,trivial,rfl⟩)
noncomputable def aBH:=Py.adk aBP
def cvZ(r:aE)(i n:Nat):Bool:=decide (n=i)||(decide (n=(i+1) % r.length)||decide (0<sm (aEv r i) (aEv r ((i+1) % r.length)) (aEv r n)))
def cvR(r:aE)(i:Nat):Bool:=(bV r.length).all (cvZ r i)&&ao (aEv r i) 2000
def cvN(r:aE)(i n:Nat):Bool:=decide (n=i)||(decide (n=(i+1) % r.length)||decide (0<turn (aEv r i) (aEv r ((i+1) % r.length)) (aEv r n)))
def WL{r:aE}:(r.all λv=>ao v 2000)=(bV r.length).all λi=>ao (aEv r i) 2000:=by
 rw[fg,bf,bf];constructor
 .intro h i hi;exact h _ (eC (cF.1 hi))
 .intro h v hv;obtain⟨i,hi,rfl⟩:=fN.1 hv;grind
def Zz(r:aE):da r=(decide (3<=r.length)&&(((bV r.length).all λi=>ao (aEv r i) 2000)&&(bV r.length).all λi=>(bV r.length).all (cvN r i))):=by
 have e:(λi=>(bV r.length).all λn=>decide (n=i)||decide (n=(i+1) % r.length)||decide (0<turn (aEv r i) (nxt r i) (aEv r n)))=λi=>(bV r.length).all (cvN r i):=by
  funext i;congr 1;funext n;exact Bool.or_assoc ..
 unfold da;rw[WL,e]
def Dw{v:V}(h:ao v 2000=true):bd 10000 v:=by unfold ao at h;simp only[bn,decide_eq_true_eq]at h;unfold bd;omega
def GK(r:aE):da r=(decide (3<=r.length)&&(bV r.length).all (cvR r)):=by
 rw[Zz]
 congr 1
 have key:((bV r.length).all λi=>ao (aEv r i) 2000)=true->∀i n,i<r.length->n<r.length->cvZ r i n=cvN r i n:=λh i n hi hn=>by have h:=bf.1 h;have b:∀i,i<r.length->bd 1000000000 (aEv r i):=λi hi=>(Dw (h i (cF.2 hi))).mono;unfold cvZ cvN;rw[XH (b _ hi) (b _ (bw _ (by omega))) (b _ hn)]
 rw[fg];constructor
 .intro h;rw[bn]at h;refine bf.2 λi hi=> ?_;unfold cvR;grind
 .intro h;have h:=bf.1 h;have h1:((bV r.length).all λi=>ao (aEv r i) 2000)=true:=bf.2 λi hi=>by have:=h i hi;unfold cvR at this;grind
  rw[bn];refine⟨h1,bf.2 λi hi=>bf.2 λn hn=> ?_⟩;rw[<-key h1 i n (cF.1 hi) (cF.1 hn)];have:=h i hi;unfold cvR at this;grind
def BQ{r:aE}(h:da r=true)(hl:r.length<=1000):ROk r:=by have:=CR.of h;exact⟨this.len,hl,λv hv=>Dw (this.near v hv)⟩
def Lw{q:Nat->Bool}{n:Nat}(h:aM (λj=>q j=true) n):(bV n).all q=true:=bf.2 λi hi=>h i (cF.1 hi)
def GT{q:Nat->Bool}{n i:Nat}(hi:i<n)(h:q i=false):(bV n).all q=false:=y9.2 ⟨i,cF.2 hi,by rw[h];simp⟩
noncomputable def aEp:Con:=con (a1 (aL .V)) (λr=>[r.length<=1000]) (λr=> .bool (da r))
def aC2:aEp.Okz 107:=bJ aBH (λr=>[lp 2 10 r.length (λi=>[aM (λi=>cvR r i=true) i]) [] bh bh λi=>[cnt 6 25 r.length (aM λn=>cvZ r i n=true) λn=>[jb 9 48 (!cvZ r i n)]]]
  ) (λ_=>⟨_,rfl⟩) λr hp=>az (aC (0:Int) λC=>aC (r.length:Int) λG=>(0=C/\(0:Nat)<=r.length/\aM (λi=>cvR r i=true) 0)/\
 (∀x:Nat,aC (x+1) λA=>aC (x:Int) λB=>aC (aEv r x) λE=>aC ((A % r.length:Nat):Int) λI=>aC (!ao E 2000) λJ=>x<=r.length/\aM (λi=>cvR r i=true) x->(B<r.length->ix B r.length/\aJ (B+1)/\G≠0/\ix I r.length/\(0=C/\(0:Nat)<=r.length/\aM (λn=>cvZ r x n=true) 0)/\
   (∀x_1:Nat,aC (x_1:Int) λD=>aC (!cvZ r x x_1) λF=>x_1<=r.length/\aM (λn=>cvZ r x n=true) x_1->(D<r.length->ix D r.length/\((¬D=x->aJ (B+1)/\G≠0/\(¬D=I->True/\decide (sm E (aEv r (A % r.length)) (aEv r x_1)<=0)=F)/\
       (¬(¬D=I)->false=F))/\
      (¬(¬D=x)->false=F))/\
     (∀y:Unit,(F=true->false=da r)/\
      (F=false->aJ (D+1)/\D+1=((x_1+1:Nat):Int)/\x_1+1<=r.length/\aM (λn=>cvZ r x n=true) (x_1+1)/\r.length-(x_1+1)<r.length-x_1)))/\
    (¬D<r.length->C<=2000/\(2000:Int)<=9000000000000000000/\(J=true->false=da r)/\
     (J=false->aJ (B+1)/\B+1=((x+1:Nat):Int)/\x+1<=r.length/\aM (λi=>cvR r i=true) A/\r.length-A<r.length-x))))/\
  (¬B<r.length->decide (3<=G)=da r))) (by kernel_rfl) (by
  change r.length<=1000 at hp;have x1:∀x:Nat,(x:Int)<r.length->ix (((x+1) % r.length:Nat):Int) r.length:=λx h=>eW (bw _ (by omega));have z1:∀x y:Nat,¬(y:Int)=x->¬(y:Int)=(((x+1) % r.length:Nat):Int)->decide (sm (aEv r x) (aEv r ((x+1) % r.length)) (aEv r y)<=0)=(!cvZ r x y):=λx y h1 h2=>by unfold cvZ;rw[decide_eq_false (show¬y=x by omega),decide_eq_false (show¬y=(x+1) % r.length by omega),Bool.false_or,Bool.false_or,<-decide_not];grind
  have z2:∀x y:Nat,¬¬(y:Int)=(((x+1) % r.length:Nat):Int)->false=(!cvZ r x y):=λx y h=>by unfold cvZ;grind
  have z3:∀x y:Nat,¬¬(y:Int)=x->false=(!cvZ r x y):=λx y h=>by unfold cvZ;grind
  have no:∀x y:Nat,(!cvZ r x y)=true->(x:Int)<r.length->(y:Int)<r.length->false=da r:=λx y h3 h1 h2=>by rw[GK,GT (i:=x) (by omega) (by unfold cvR;rw[GT (i:=y) (by omega) (nb' h3)];rfl)];simp
  have no2:∀x:Nat,(!ao (aEv r x) 2000)=true->(x:Int)<r.length->false=da r:=λx h3 h1=>by rw[GK,GT (i:=x) (by omega) (by unfold cvR;grind)];simp
  have st:∀x y:Nat,aM (λn=>cvZ r x n=true) y->¬(y:Int)<r.length->y<=r.length->(!ao (aEv r x) 2000)=false->cvR r x=true:=λx y h3 h1 h2 h4=>by
   obtain rfl:y=r.length:=by omega
   unfold cvR;rw[Lw h3,nb h4];rfl
  have fin:∀x:Nat,¬(x:Int)<r.length->x<=r.length->aM (λi=>cvR r i=true) x->decide (3<=(r.length:Int))=da r:=λx h1 h2 h3=>by
   obtain rfl:x=r.length:=by omega
   rw[GK,Lw h3,Bool.and_true];exact decide_eq_decide.2 (by omega)
  with_reducible ((repeat' first|apply cM|intro);all_goals repeat cases‹_/\_›)
  all_goals first|rfl|with_reducible solve_by_elim|(with_reducible first|assumption|rfl)|exact cT ‹_› (nb ‹_›)|exact cT ‹_› (st _ _ ‹_› ‹_› ‹_› ‹_›)|grind)
noncomputable def tE:=(Ho.adk R9).adk aC2
def fgn(v:List V)(p:V):Bool:= !v.any λu=>decide (p=u)
noncomputable def c82:Con:=con (ac (aL .V) (a1 aV)) (λ(l,_)=>[l.length<=1000000]) (λ(l,v)=> .bool (l.any λu=>decide (v=u))
 )
def k82:c82.Okz 82:=bJ tE (λ(_,_)=>[]) (λ(_,_)=>⟨_,rfl⟩) λ(l,v) hp=>az (l.length<=1000000/\decide (0<=fI (λu=>decide (v=u)) l)=fo l (λu=>decide (v=u))) (by kernel_rfl) (by change l.length<=1000000 at hp;exact⟨hp,ur _ _⟩)
noncomputable def t82:=tE.adk k82
noncomputable def aEq:Con:=con (ac aV (a1 aPR)) (λ(_,l)=>[l.length<=1000000]) (λ(v,l)=> .bool (fgn l v)
 )
def aC3:aEq.Okz 106:=bJ t82 (λ(_,_)=>[]) (λ(_,_)=>⟨_,rfl⟩) λ(v,l) hp=>az (l.length<=1000000/\(!fo l (λu=>decide (v=u)))=fgn l v) (by kernel_rfl) (by change l.length<=1000000 at hp;exact⟨hp,rfl⟩)
noncomputable def Rp:=t82.adk aC3
def QR:Ar (aE×Unit):=aCl 106 (ac aPR a0)
def QQ:Ar (aE×Unit):=aCl 109 (ac aPR a0)
noncomputable def aBv:Con:=con (ac (aL .V) (a1 QR)) (λ(l,c)=>[l.length<=1000000,c.1.length<=1000000]) (λ(l,c)=> .iqz (fI (fgn c.1) l))
def aBj:aBv.Okz 157:=bJ Rp (λ(l,c)=>[cnt 2 8 l.length (aM λj=>fgn c.1 (aEv l j)=false)]
  ) (λ(_,_)=>⟨_,rfl⟩) λ(l,c) hp=>az ((0=(0:Int)/\(0:Nat)<=l.length/\aM (λj=>fgn c.1 (aEv l j)=false) 0)/\
 (∀x:Nat,aC (x:Int) λA=>x<=l.length/\aM (λj=>fgn c.1 (aEv l j)=false) x->(A<l.length->ix A l.length/\c.1.length<=1000000/\(fgn c.1 (aEv l x)=true->A=fI (fgn c.1) l)/\
   (fgn c.1 (aEv l x)=false->aJ (A+1)/\A+1=((x+1:Nat):Int)/\x+1<=l.length/\aM (λj=>fgn c.1 (aEv l j)=false) (x+1)/\l.length-(x+1)<l.length-x))/\
  (¬A<l.length-> -1=fI (fgn c.1) l))) (by kernel_rfl) (by
  change l.length<=1000000/\c.1.length<=1000000 at hp
  with_reducible ((repeat' first|apply cM|intro);all_goals repeat cases‹_/\_›)
  all_goals first|rfl|exact qB (t:= .V) (by omega) ‹_› ‹_› |(obtain rfl:_=l.length:=ti ‹_› (by omega);exact sf (t:= .V) ‹_›)|grind)
noncomputable def Pv:=Rp.adk aBj
noncomputable def aDa:Con:=con (ac (aL .V) (a1 QR)) (λ(l,c)=>[l.length<=1000000,c.1.length<=1000000]) (λ(l,c)=> .bool (l.any (fgn c.1))
 )
def aBO:aDa.Okz 84:=bJ Pv (λ(_,_)=>[]) (λ(_,_)=>⟨_,rfl⟩) λ(l,c) hp=>az (l.length<=1000000/\c.fst.length<=1000000/\decide (0<=fI (fgn c.fst) l)=fo l (fgn c.1)) (by kernel_rfl) (by change l.length<=1000000/\c.1.length<=1000000 at hp;exact⟨hp.1,hp.2,ur _ _⟩)
noncomputable def QX:=Pv.adk aBO
noncomputable def aEn:Con:=con (ac (aL .V) (a1 aPR)) (λ(o,r)=>[ROk r,ROk o]) (λ(o,r)=> .bool (fH r o)
 )
def aC0:aEn.Okz 109:=bJ QX (λ(_,_)=>[]) (λ(_,_)=>⟨_,rfl⟩) λ(o,r) hp=>az (ROk r/\ROk o/\fH r o=fH r o) (by kernel_rfl) (by change ROk r/\ROk o at hp;grind)
noncomputable def Ro:=QX.adk aC0
noncomputable def aDS:Con:=con (ac (aL .R) (a1 QQ)) (λ(l,c)=>[l.length<=1000000,ROk c.1,(∀o∈l,ROk o)]) (λ(l,c)=> .iqz (fI (fH c.1) l))
def aCv:aDS.Okz 159:=bJ Ro (λ(l,c)=>[cnt 2 8 l.length (aM λj=>fH c.1 (aA l j)=false)]
  ) (λ(_,_)=>⟨_,rfl⟩) λ(l,c) hp=>az (aC (fH c.1) λC=>(0=(0:Int)/\(0:Nat)<=l.length/\aM (λj=>fH c.1 (aA l j)=false) 0)/\
 (∀x:Nat,aC (x:Int) λA=>aC (aA l x) λB=>x<=l.length/\aM (λj=>fH c.1 (aA l j)=false) x->(A<l.length->ix A l.length/\ROk c.1/\ROk B/\(fH c.1 B=true->A=fI C l)/\
   (fH c.1 B=false->aJ (A+1)/\A+1=((x+1:Nat):Int)/\x+1<=l.length/\aM (λj=>fH c.1 (aA l j)=false) (x+1)/\l.length-(x+1)<l.length-x))/\
  (¬A<l.length-> -1=fI C l))) (by kernel_rfl) (by
  change l.length<=1000000/\ROk c.1/\((∀o∈l,ROk o))at hp;have hm:∀x:Nat,(x:Int)<l.length->ROk (aA l x):=λx h=>hp.2.2 _ (iD (by omega))
  with_reducible ((repeat' first|apply cM|intro);all_goals repeat cases‹_/\_›)
  all_goals first|rfl|exact hm _ ‹_› |exact qB (t:= .R) (by omega) ‹_› ‹_› |(obtain rfl:_=l.length:=ti ‹_› (by omega);exact sf (t:= .R) ‹_›)|grind)
noncomputable def RC:=Ro.adk aCv
noncomputable def c86:Con:=con (ac (aL .R) (a1 QQ)) (λ(l,c)=>[l.length<=1000000,ROk c.1,(∀o∈l,ROk o)]) (λ(l,c)=> .bool (l.any (fH c.1))
 )
def k86:c86.Okz 86:=bJ RC (λ(_,_)=>[]) (λ(_,_)=>⟨_,rfl⟩) λ(l,c) hp=>az (l.length<=1000000/\ROk c.fst/\(∀o:aE,o∈l->ROk o)/\decide (0<=fI (fH c.fst) l)=fo l (fH c.1)) (by kernel_rfl) (by change l.length<=1000000/\ROk c.1/\((∀o∈l,ROk o))at hp;exact⟨hp.1,hp.2.1,hp.2.2,ur _ _⟩)
noncomputable def t86:=RC.adk k86
def XD{s:Shape}(h:VS s):∀e∈bQ s,ao e.a 10000=true/\ao e.b 10000=true:=by intro e he;unfold bQ at he;obtain⟨r,hr,her⟩:=cQ.1 he;exact XE (h.ring hr) her
def ccA(s:Shape)(r:aE):Bool:=(!da r||(r.any (fgn (vOf s))|| !nk s r))
def ccB(l:List aE)(i:Nat):Bool:=(l.take i).any (fH (aA l i))
def cc(s:Shape)(l:List aE)(i:Nat):Prop:=ccA s (aA l i)=false/\ccB l i=false
def arS(l:List aE)(k:Nat):Int:=((l.take k).map area).sum
def kj(s:Shape)(l:List aE):Bool:=bM s&&((bV l.length).all λi=> !ccA s (aA l i)&& !ccB l i)&&decide (arS l l.length=m8 s)
def NP{l:List aE}{x:Nat}(h:x<l.length):arS l x+area (aA l x)=arS l (x+1):=by unfold arS;rw[kw (by omega),dR,List.sum_append,lF (by omega)];simp
def NJ{s:Shape}{r:aE}(h:ccA s r=false):da r=true:=by unfold ccA at h;grind
def Ws{r:aE}(h:da r=true):near r=true:=by have:=(CR.of h).near;unfold near;grind
def Pk{l:List aE}(hl:∀x:Nat,x<l.length->(aA l x).length<=1000):∀x:Nat,x<=l.length->(∀j,j<x->near (aA l j)=true)-> -(40000000000*(x:Int))<=arS l x/\arS l x<=40000000000*(x:Int)
 |0,_,_=>by unfold arS;simp
 |x+1,h,hn=>by
  have h1:=Pk hl x (by omega) λj hj=>hn j (by omega);have h2:=vN (hn x (by omega)) (aA l x).length (bX _);have h3:=hl x (by omega);have e:ar (aA l x) (aA l x).length=area (aA l x):=rfl;rw[<-NP (show x<l.length by omega)];omega
noncomputable def c43:Con:=con (ac aSh (a1 (aL .R))) (λ(s,l)=>[Fit s,l.length<=1000,(∀r∈l,r.length<=1000)]) (λ(s,l)=> .bool (kj s l))
def k43:c43.Okz 43:=bJ t86 (λ(s,l)=>[lp 6 22 l.length (λk=>[aM (cc s l) k]) [] (λk=>[(7,.iqz (arS l k))]) bh λk=>[jb 10 41 (ccA s (aA l k)),lp 14 49 (aA l k).length bh [] (λj=>[(7,.iqz (arS l k+ar (aA l k) j))]) bh]]
  ) (λ(_,_)=>⟨_,rfl⟩) λ(s,l) hp=>az (aC (cc s l) λA=>Fit s/\(¬eOf s=0->false=kj s l)/\
 (¬(¬eOf s=0)->(0=(0:Int)/\0=arS l 0/\(0:Nat)<=l.length/\aM A 0)/\
  (∀x:Nat,aC (x:Int) λB=>aC (aA l x) λE=>aC (bD x l) λH=>aC (fH E) λJ=>x<=l.length/\aM A x->(B<l.length->ix B l.length/\(E.length<=1000/\((!da E)=true->true=ccA s E)/\
     ((!da E)=false->E.length<=1000000/\(vOf s).length<=1000000/\(fo E (fgn (vOf s))=true->true=ccA s E)/\
      (fo E (fgn (vOf s))=false->Fit s/\ROk E/\(bQ s).length<=1000000/\(∀e:aEx,e∈bQ s->ao e.a 10000=true/\ao e.b 10000=true)/\(!nk s E)=ccA s E)))/\
    (∀y:Unit,(ccA s E=true->false=kj s l)/\
     (ccA s E=false->(0<=B/\B<=l.length)/\H.length<=1000000/\ROk E/\(∀o:aE,o∈bD x l->ROk o)/\(fo H J=true->false=kj s l)/\
      (fo H J=false->(0=(0:Int)/\arS l x=arS l x+ar E 0/\(0:Nat)<=E.length)/\
       (∀x_1:Nat,aC (x_1+1) λC=>aC (x_1:Int) λD=>aC (aEv E (C % E.length)) λG=>aC (aEv E x_1) λI=>x_1<=E.length->(D<E.length->ix D E.length/\aJ (D+1)/\(E.length:Int)≠0/\ix ((C % E.length:Nat):Int) E.length/\cOK I G/\aJ (arS l x+ar E x_1+cross I G)/\aJ (D+1)/\D+1=((x_1+1:Nat):Int)/\arS l x+ar E x_1+cross I G=arS l x+ar E C/\x_1+1<=E.length/\E.length-C<E.length-x_1)/\
        (¬D<E.length->aJ (B+1)/\B+1=((x+1:Nat):Int)/\arS l x+ar E x_1=arS l (x+1)/\x+1<=l.length/\aM A (x+1)/\l.length-(x+1)<l.length-x))))))/\
   (¬B<l.length->Fit s/\decide (arS l x=(if bM s=true then m8 s else 0))=kj s l)))) (by kernel_rfl) (by
  change Fit s/\l.length<=1000/\((∀r∈l,r.length<=1000))at hp;obtain⟨hf,hl,hr⟩:=hp;have R:¬¬eOf s=0->bI s=true:=λh=>Oo h;have hvP:¬¬eOf s=0->bM s=true:=λh=>by rw[jW];exact R h
  have V:¬¬eOf s=0->VS s:=λh=>vsR (R h);have hv:=pf s;have hvl:(vOf s).length<=1000000:=by omega
  have he:¬¬eOf s=0->(bQ s).length<=1000000:=λh=>by have:=JT (V h);omega
  have hw:¬¬eOf s=0->∀e∈bQ s,ao e.a 10000=true/\ao e.b 10000=true:=λh=>XD (V h);have hr:∀x:Nat,(x:Int)<l.length->(aA l x).length<=1000:=λx h=>hr _ (iD (by omega));have hr6:∀x:Nat,(x:Int)<l.length->(aA l x).length<=1000000:=λx h=>by grind
  have c0:¬eOf s=0->false=kj s l:=λh=>by
   unfold kj;rw[jW];cases e:bI s with
   |false=>rfl
   |true=>exact absurd (by unfold eOf;rw[e];rfl) h
  have a1:∀x:Nat,(!da (aA l x))=true->true=ccA s (aA l x):=λx h=>by unfold ccA;rw[h];rfl
  have a3:∀x:Nat,fo (aA l x) (fgn (vOf s))=true->true=ccA s (aA l x):=λx h=>by unfold ccA;rw[h];simp
  have a4:∀x:Nat,(!da (aA l x))=false->fo (aA l x) (fgn (vOf s))=false->(!nk s (aA l x))=ccA s (aA l x):=λx h2 h3=>by unfold ccA;grind
  have tO:∀x:Nat,(!da (aA l x))=false->(x:Int)<l.length->ROk (aA l x):=λx h h2=>BQ (nb h) (hr x h2);have tO2:∀x:Nat,ccA s (aA l x)=false->(x:Int)<l.length->ROk (aA l x):=λx h h2=>BQ (NJ h) (hr x h2);have tO3:∀x:Nat,x<=l.length->aM (cc s l) x->∀o∈bD x l,ROk o:=λx hx h o ho=>by obtain⟨j,hj,rfl⟩:=jm ho;rw[lm]at hj;rw[List.getElem_take,<-lF (by omega)];exact tO2 j (h j (by omega)).1 (by omega)
  have tl:∀x:Nat,(bD x l).length<=1000000:=λx=>by rw[lm];omega
  have no:∀x:Nat,(ccA s (aA l x)=true\/fo (bD x l) (fH (aA l x))=true)->(x:Int)<l.length->false=kj s l:=λx h2 h=>by
   unfold kj;rw[show((bV l.length).all λi=> !ccA s (aA l i)&& !ccB l i)=false from y9.2 ⟨x,cF.2 (by omega),by
    rcases h2 with h2|h2
    .rw[h2];simp
    .rw[show ccB l x=true from h2];simp⟩]
   simp
  have nr:∀x:Nat,ccA s (aA l x)=false->near (aA l x)=true:=λx h=>Ws (NJ h);have b0:∀x i:Nat,ccA s (aA l x)=false->(i:Int)<(aA l x).length->cOK (aEv (aA l x) i) (aEv (aA l x) ((i+1) % (aA l x).length)):=λx i h h2=>by have h0:=mx (nr x h) (i:=i) (by omega) (M:=2000000000);have h1:=mx (nr x h) (i:=(i+1) % (aA l x).length) (bw _ (by omega)) (M:=2000000000);have:=ms h0 h1;unfold cOK;omega
  have x1:∀x i:Nat,(i:Int)<(aA l x).length->ix (((i+1) % (aA l x).length:Nat):Int) (aA l x).length:=λx i h=>eW (bw _ (by omega));have bS:∀x:Nat,aM (cc s l) x->x<=l.length-> -(40000000000*(x:Int))<=arS l x/\arS l x<=40000000000*(x:Int):=λx h hx=>Pk (λy hy=>hr y (by omega)) x hx λj hj=>nr j (h j hj).1;have sS:∀x i:Nat,arS l x+ar (aA l x) i+cross (aEv (aA l x) i) (aEv (aA l x) ((i+1) % (aA l x).length))=arS l x+ar (aA l x) (i+1):=λx i=>by rw[BC];omega
  have wS:∀x i:Nat,aM (cc s l) x->x<=l.length->ccA s (aA l x)=false->(x:Int)<l.length->(i:Int)<(aA l x).length->aJ (arS l x+ar (aA l x) i+cross (aEv (aA l x) i) (aEv (aA l x) ((i+1) % (aA l x).length))):=λx i h hx h2 h3 h4=>by rw[sS];have h5:=bS x h hx;have h6:=vN (nr x h2) (i+1) (by omega);have h7:=hr x h3;exact bW (by omega)
  have w1:∀x i:Nat,(i:Int)<(aA l x).length->(x:Int)<l.length->aJ ((i:Int)+1):=λx i h h2=>bW (by grind);have z0:arS l 0=0:=rfl;have z1:∀x,ar (aA l x) 0=0:=λx=>rfl;have z2:∀x,arS l x=arS l x+ar (aA l x) 0:=λx=>by grind
  have sE:∀x i:Nat,(x:Int)<l.length->¬(i:Int)<(aA l x).length->i<=(aA l x).length->arS l x+ar (aA l x) i=arS l (x+1):=λx i h h2 h3=>by
   obtain rfl:i=(aA l x).length:=by omega
   rw[<-NP (show x<l.length by omega)];rfl
  have st:∀x:Nat,aM (cc s l) x->ccA s (aA l x)=false->fo (bD x l) (fH (aA l x))=false->aM (cc s l) (x+1):=λx h h1 h2=>cT h ⟨h1,h2⟩;have yE:¬¬eOf s=0->∀x:Nat,aM (cc s l) x->¬(x:Int)<l.length->x<=l.length->decide (arS l x=(if bM s=true then m8 s else 0))=kj s l:=λh x h3 h1 h2=>by
   obtain rfl:x=l.length:=by omega
   unfold kj;rw[if_pos (hvP h),hvP h,show((bV l.length).all λi=> !ccA s (aA l i)&& !ccB l i)=true from bf.2 λi hi=>by obtain⟨g1,g2⟩:=h3 i (cF.1 hi);grind]
   simp
  clear V nr bS hvP R
  repeat' first|with_reducible apply cM|with_reducible intro
  all_goals repeat with_reducible cases‹_/\aM _ _›
  all_goals first|rfl|with_reducible solve_by_elim|with_reducible rfl|(with_reducible exact c0 ‹_›)|(with_reducible exact he ‹_›)|(with_reducible exact(hw ‹_› _ ‹_›).1)|(with_reducible exact(hw ‹_› _ ‹_›).2)|(with_reducible exact hr _ ‹_›)|(with_reducible exact hr6 _ ‹_›)|(with_reducible exact a1 _ ‹_›)|(with_reducible exact a3 _ ‹_›)|(with_reducible exact a4 _ ‹_› ‹_›)|(with_reducible exact tO _ ‹_› ‹_›)|(with_reducible exact tO2 _ ‹_› ‹_›)|(with_reducible exact tO3 _ ‹_› ‹_› _ ‹_›)|(with_reducible exact tl _)|(with_reducible exact no _ (.inl ‹_›) ‹_›)|(with_reducible exact no _ (.inr ‹_›) ‹_›)|(with_reducible first|exact sS _ _|exact z2 _)|exact z0.symm|(with_reducible exact yE ‹_› _ ‹_› ‹_› ‹_›)|grind)
noncomputable def t43:=t86.adk k43
def mmC(r o:aE):Bool:=da r&&(da o&&fH r o)
def mmR(a b:List aE)(i:Nat):Bool:=b.any λo=>mmC (aA a i) o
noncomputable def c46:Con:=con (ac (aL .R) (a1 (aL .R))) (λ(a,b)=>[a.length<=1000,(∀r∈a,r.length<=1000),b.length<=1000,(∀r∈b,r.length<=1000)]) (λ(a,b)=> .bool (aEF a b))
def k46:c46.Okz 46:=bJ t43 (λ(a,b)=>[lp 2 11 a.length (λi=>[aM (λi=>mmR a b i=false) i]) [] bh bh λi=>[cnt 5 17 b.length (aM λk=>mmC (aA a i) (aA b k)=false) λk=>[jb 8 31 (mmC (aA a i) (aA b k))]]]
  ) (λ(_,_)=>⟨_,rfl⟩) λ(a,b) hp=>az ((0=(0:Int)/\(0:Nat)<=a.length/\aM (λi=>mmR a b i=false) 0)/\
 (∀x:Nat,aC (x:Int) λA=>aC (aA a x) λC=>x<=a.length/\aM (λi=>mmR a b i=false) x->(A<a.length->ix A a.length/\(0=(0:Int)/\(0:Nat)<=b.length/\aM (λk=>mmC C (aA b k)=false) 0)/\
   (∀x_1:Nat,aC (x_1:Int) λB=>aC (aA b x_1) λD=>x_1<=b.length/\aM (λk=>mmC C (aA b k)=false) x_1->(B<b.length->ix B b.length/\(C.length<=1000/\(da C=true->D.length<=1000/\(da D=true->ROk C/\ROk D/\fH C D=mmC C D)/\
       (da D=false->false=mmC C D))/\
      (da C=false->false=mmC C D))/\
     (∀y:Unit,(mmC C D=true->true=aEF a b)/\
      (mmC C D=false->aJ (B+1)/\B+1=((x_1+1:Nat):Int)/\x_1+1<=b.length/\aM (λk=>mmC C (aA b k)=false) (x_1+1)/\b.length-(x_1+1)<b.length-x_1)))/\
    (¬B<b.length->aJ (A+1)/\A+1=((x+1:Nat):Int)/\x+1<=a.length/\aM (λi=>mmR a b i=false) (x+1)/\a.length-(x+1)<a.length-x)))/\
  (¬A<a.length->false=aEF a b))) (by kernel_rfl) (by
  change a.length<=1000/\((∀r∈a,r.length<=1000))/\b.length<=1000/\((∀r∈b,r.length<=1000))at hp;obtain⟨hla,ha,hlb,hb⟩:=hp;have la:∀x:Nat,(x:Int)<a.length->(aA a x).length<=1000:=λx h=>ha _ (iD (by omega));have lb:∀x:Nat,(x:Int)<b.length->(aA b x).length<=1000:=λx h=>hb _ (iD (by omega));have oa:∀x:Nat,da (aA a x)=true->(x:Int)<a.length->ROk (aA a x):=λx h h2=>BQ h (la x h2);have ob:∀x:Nat,da (aA b x)=true->(x:Int)<b.length->ROk (aA b x):=λx h h2=>BQ h (lb x h2);have m1:∀r o:aE,da r=true->da o=true->fH r o=mmC r o:=λr o h1 h2=>by unfold mmC;grind
  have m2:∀r o:aE,da o=false->false=mmC r o:=λr o h=>by unfold mmC;rw[h];simp
  have m3:∀r o:aE,da r=false->false=mmC r o:=λr o h=>by unfold mmC;rw[h];rfl
  have m4:∀r o:aE,da r=true->da o=true->(!GR r o)=mmC r o:=λr o h1 h2=>by rw[<-m1 r o h1 h2,T6 (CR.of h1) (CR.of h2)]
  have v9:∀r:aE,∀v,v∈r->da r=true->bd 1000000000 v:=λr v hv h=>(Dw ((CR.of h).near v hv)).mono;have yes:∀x y:Nat,mmC (aA a x) (aA b y)=true->(x:Int)<a.length->(y:Int)<b.length->true=aEF a b:=λx y h h1 h2=>
   (lj.2 ⟨_,iD (show x<a.length by omega),lj.2 ⟨_,iD (show y<b.length by omega),h⟩⟩).symm
  have st:∀x y:Nat,aM (λk=>mmC (aA a x) (aA b k)=false) y->¬(y:Int)<b.length->y<=b.length->mmR a b x=false:=λx y h h1 h2=>by
   obtain rfl:y=b.length:=by omega
   exact Gy (t:= .R) (l:=b) (q:=λo=>mmC (aA a x) o) h
  have fin:∀x:Nat,aM (λi=>mmR a b i=false) x->¬(x:Int)<a.length->x<=a.length->false=aEF a b:=λx h h1 h2=>by
   obtain rfl:x=a.length:=by omega
   exact(Gy (t:= .R) (l:=a) (q:=λr=>b.any λo=>da r&&(da o&&fH r o)) h).symm
  with_reducible ((repeat' first|apply cM|intro);all_goals repeat cases‹_/\_›)
  all_goals first|rfl|with_reducible solve_by_elim|(with_reducible first|assumption|rfl)|exact cT ‹_› (st _ _ ‹_› ‹_› ‹_›)|grind)
noncomputable def t46:=t43.adk k46
def rfP(k:Nat)(r:aE)(i:Nat):Bool:=(decide (k=0)&&decide (turn (aEv r ((i+r.length-1) % r.length)) (aEv r i) (aEv r ((i+1) % r.length))<0))||(decide (0<k)&&decide (0<turn (aEv r ((i+r.length-1) % r.length)) (aEv r i) (aEv r ((i+1) % r.length))))
def rfR(k:Nat)(r:aE)(i:Nat):Nat:=((bV i).filter (rfP k r)).length
def rfS(R:List aE):Nat->Nat
 |0=>0
 |k+1=>rfS R k+rfR k (aA R k) (aA R k).length
def qI(s:Shape):Nat:=if bM s=true then rfS (aD s) (aD s).length else 0
noncomputable def c53:Con:=con (a1 aSh) (λs=>[Fit s]) (λs=> .iqz (qI s:Nat))
def k53:c53.Okz 53:=bJ t46 (λs=>[lp 5 15 (aD s).length bh [] (λk=>[(3,.iqz (rfS (aD s) k:Nat))]) bh λk=>[lp 8 22 (aA (aD s) k).length bh [] (λi=>[(3,.iqz (rfS (aD s) k+rfR k (aA (aD s) k) i:Nat))]) bh λi=>[jb 12 61 (rfP k (aA (aD s) k) i),jU 13 [(3,.iqz (rfS (aD s) k+rfR k (aA (aD s) k) (i+1):Nat))]]]]
  ) (λ_=>⟨_,rfl⟩) λs hp=>az (aC (0:Nat) λC=>aC (aD s) λE=>aC (!bM s) λL=>Fit s/\(L=true->0=(qI s:Int))/\
 (L=false->Fit s/\C<s.outer.length/\(∀r:aE,r∈s.holes->C<r.length)/\(0=(0:Int)/\0=(rfS E 0:Int)/\C<=E.length)/\
  (∀x:Nat,aC (x:Int) λA=>aC (aA E x) λF=>aC (rfS E x:Int) λJ=>aC (F.length:Int) λK=>x<=E.length->(A<E.length->ix A E.length/\(0=(0:Int)/\J=((rfS E x+rfR x F 0:Nat):Int)/\C<=F.length)/\
    (∀x_1:Nat,aC (x_1+1) λB=>aC (x_1:Int) λD=>aC (aEv F (B % F.length)) λH=>aC (aEv F x_1) λI=>aC (D+F.length-1) λM=>aC (c5 M K) λN=>aC (aEv F N.toNat) λO=>aC ((rfS E x+rfR x F B:Nat):Int) λQ=>aC ((rfS E x+rfR x F x_1:Nat):Int) λS=>x_1<=F.length->(D<F.length->(ix D F.length/\aJ (D+F.length)/\aJ M/\K≠0/\ix N F.length/\aJ (D+1)/\K≠0/\ix ((B % F.length:Nat):Int) F.length/\bd 1000000000 O/\bd 1000000000 I/\bd 1000000000 H/\((A=0->(turn O I H<0->true=rfP x F x_1)/\
         (¬turn O I H<0->(0<A->decide (0<turn O I H)=rfP x F x_1)/\
          (¬0<A->false=rfP x F x_1)))/\
        (¬A=0->(0<A->decide (0<turn O I H)=rfP x F x_1)/\
         (¬0<A->false=rfP x F x_1)))/\
       (∀y:Unit,(rfP x F x_1=true->aJ (S+1)/\S+1=Q)/\
        (rfP x F x_1=false->S=Q)))/\
      (∀y:Unit,aJ (D+1)/\D+1=((x_1+1:Nat):Int)/\Q=Q/\x_1+1<=F.length/\F.length-B<F.length-x_1))/\
     (¬D<F.length->aJ (A+1)/\A+1=((x+1:Nat):Int)/\S=rfS E (x+1)/\x+1<=E.length/\E.length-(x+1)<E.length-x)))/\
   (¬A<E.length->J=qI s)))) (by kernel_rfl) (by
  change Fit s at hp;have V:(!bM s)=false->VS s:=λh=>(lz s).1 (nb h);have lR:(aD s).length<=2000:=by have:=hp.2.1;unfold aD;rw[gu];omega
  have e0:(!bM s)=true->0=(qI s:Int):=λh=>by unfold qI;grind
  have o1:(!bM s)=false->0<s.outer.length:=λh=>by have:=(V h).outer.three;omega
  have o2:(!bM s)=false->∀r∈s.holes,0<r.length:=λh r hr=>by have:=((V h).ring (show r∈aD s from bk _ hr)).three;omega
  have rg:(!bM s)=false->∀x:Nat,(x:Int)<(aD s).length->VR (aA (aD s) x):=λh x hx=>(V h).ring (iD (by omega));have l40:(!bM s)=false->∀x:Nat,(x:Int)<(aD s).length->(aA (aD s) x).length<=40:=λh x hx=>(rg h x hx).most;have tm:∀x i:Nat,(i:Int)<(aA (aD s) x).length->c5 ((i:Int)+(aA (aD s) x).length-1) ((aA (aD s) x).length:Int)=(((i+(aA (aD s) x).length-1) % (aA (aD s) x).length:Nat):Int):=λx i h=>by grind
  have x1:∀x i:Nat,(i:Int)<(aA (aD s) x).length->ix (c5 ((i:Int)+(aA (aD s) x).length-1) ((aA (aD s) x).length:Int)) (aA (aD s) x).length:=λx i h=>by rw[tm x i h];exact eW (bw _ (by omega))
  have x2:∀x i:Nat,(i:Int)<(aA (aD s) x).length->ix (((i+1) % (aA (aD s) x).length:Nat):Int) (aA (aD s) x).length:=λx i h=>eW (bw _ (by omega));have bN:(!bM s)=false->∀x:Nat,(x:Int)<(aD s).length->∀i:Nat,i<(aA (aD s) x).length->bd 1000000000 (aEv (aA (aD s) x) i):=λh x hx i hi=>mx (rg h x hx).near hi (by decide);have b1:(!bM s)=false->∀x i:Nat,(i:Int)<(aA (aD s) x).length->(x:Int)<(aD s).length->bd 1000000000 (aEv (aA (aD s) x) (c5 ((i:Int)+(aA (aD s) x).length-1) ((aA (aD s) x).length:Int)).toNat):=λh x i hi hx=>by rw[tm x i hi,jB];exact bN h x hx _ (bw _ (by omega))
  have b2:(!bM s)=false->∀x i:Nat,(i:Int)<(aA (aD s) x).length->(x:Int)<(aD s).length->bd 1000000000 (aEv (aA (aD s) x) i):=λh x i hi hx=>bN h x hx i (by omega);have b3:(!bM s)=false->∀x i:Nat,(i:Int)<(aA (aD s) x).length->(x:Int)<(aD s).length->bd 1000000000 (aEv (aA (aD s) x) ((i+1) % (aA (aD s) x).length)):=λh x i hi hx=>bN h x hx _ (bw _ (by omega));have p1:∀x i:Nat,(i:Int)<(aA (aD s) x).length->(x:Int)=0->turn (aEv (aA (aD s) x) (c5 ((i:Int)+(aA (aD s) x).length-1) ((aA (aD s) x).length:Int)).toNat) (aEv (aA (aD s) x) i) (aEv (aA (aD s) x) ((i+1) % (aA (aD s) x).length))<0->true=rfP x (aA (aD s) x) i:=λx i h h2 h3=>by rw[tm x i h,jB]at h3;unfold rfP;grind
  have p2:∀x i:Nat,(i:Int)<(aA (aD s) x).length->0<(x:Int)->decide (0<turn (aEv (aA (aD s) x) (c5 ((i:Int)+(aA (aD s) x).length-1) ((aA (aD s) x).length:Int)).toNat) (aEv (aA (aD s) x) i) (aEv (aA (aD s) x) ((i+1) % (aA (aD s) x).length)))=rfP x (aA (aD s) x) i:=λx i h h2=>by rw[tm x i h,jB];unfold rfP;rw[decide_eq_false (show¬x=0 by omega),decide_eq_true (show 0<x by omega)];simp
  have p3:∀x i:Nat,(i:Int)<(aA (aD s) x).length->¬turn (aEv (aA (aD s) x) (c5 ((i:Int)+(aA (aD s) x).length-1) ((aA (aD s) x).length:Int)).toNat) (aEv (aA (aD s) x) i) (aEv (aA (aD s) x) ((i+1) % (aA (aD s) x).length))<0->¬0<(x:Int)->false=rfP x (aA (aD s) x) i:=λx i h h3 h2=>by rw[tm x i h,jB]at h3;unfold rfP;grind
  have p4:∀x i:Nat,¬(x:Int)=0->¬0<(x:Int)->false=rfP x (aA (aD s) x) i:=λx i h h2=>by omega
  have q1:∀x i:Nat,rfP x (aA (aD s) x) i=true->rfR x (aA (aD s) x) (i+1)=rfR x (aA (aD s) x) i+1:=λx i h=>by unfold rfR;rw[rQ,qQ,List.filter_cons_of_pos h,gi];rfl
  have q2:∀x i:Nat,rfP x (aA (aD s) x) i=false->rfR x (aA (aD s) x) (i+1)=rfR x (aA (aD s) x) i:=λx i h=>by unfold rfR;rw[rQ,qQ,List.filter_cons_of_neg (by rw[h];simp)];simp
  have q3:∀x i:Nat,rfR x (aA (aD s) x) i<=i:=λx i=>by have:=List.length_filter_le (rfP x (aA (aD s) x)) (bV i);rw[IT]at this;exact this
  have q4:(!bM s)=false->∀x:Nat,x<=(aD s).length->rfS (aD s) x<=40*x:=λh x=>by
   induction x with
   |zero=>intro _;exact bX _
   |succ x ih=>
    intro hx;have h1:=ih (by omega);have h2:=q3 x (aA (aD s) x).length;have h3:=l40 h x (by omega);show rfS (aD s) x+rfR x (aA (aD s) x) (aA (aD s) x).length<=_;omega
  have w1:(!bM s)=false->∀x i:Nat,(i:Int)<(aA (aD s) x).length->(x:Int)<(aD s).length->aJ (((rfS (aD s) x+rfR x (aA (aD s) x) i:Nat):Int)+1):=λh x i hi hx=>by have h1:=q4 h x (by omega);have h2:=q3 x i;have h3:=l40 h x hx;exact bW (by omega)
  have w2:(!bM s)=false->∀x i:Nat,(i:Int)<(aA (aD s) x).length->(x:Int)<(aD s).length->aJ ((i:Int)+(aA (aD s) x).length)/\aJ ((i:Int)+(aA (aD s) x).length-1)/\aJ ((i:Int)+1):=λh x i hi hx=>by have h3:=l40 h x hx;exact⟨bW (by omega),bW (by omega),bW (by omega)⟩
  have w3:∀x:Nat,(x:Int)<(aD s).length->aJ ((x:Int)+1):=λx hx=>bW (by omega);have s1:∀x i:Nat,rfP x (aA (aD s) x) i=true->((rfS (aD s) x+rfR x (aA (aD s) x) i:Nat):Int)+1=((rfS (aD s) x+rfR x (aA (aD s) x) (i+1):Nat):Int):=λx i h=>by grind
  have s2:∀x i:Nat,rfP x (aA (aD s) x) i=false->((rfS (aD s) x+rfR x (aA (aD s) x) i:Nat):Int)=((rfS (aD s) x+rfR x (aA (aD s) x) (i+1):Nat):Int):=λx i h=>by rw[q2 x i h]
  have s3:∀x i:Nat,¬(i:Int)<(aA (aD s) x).length->i<=(aA (aD s) x).length->((rfS (aD s) x+rfR x (aA (aD s) x) i:Nat):Int)=rfS (aD s) (x+1):=λx i h h2=>by
   obtain rfl:i=(aA (aD s) x).length:=by omega
   rfl
  have s4:(!bM s)=false->∀x:Nat,¬(x:Int)<(aD s).length->x<=(aD s).length->(rfS (aD s) x:Int)=qI s:=λh x h1 h2=>by
   obtain rfl:x=(aD s).length:=by omega
   unfold qI;grind
  have s5:∀x:Nat,(rfS (aD s) x:Int)=((rfS (aD s) x+rfR x (aA (aD s) x) 0:Nat):Int):=λx=>rfl;clear V rg bN tm q1 q2 q3 q4
  repeat' first|with_reducible apply cM|with_reducible intro
  all_goals repeat with_reducible cases‹_/\_›
  all_goals first|rfl|with_reducible solve_by_elim|(with_reducible first|assumption|rfl|exact o2 ‹_› _ ‹_› |exact b1 ‹_› _ _ ‹_› ‹_› |exact b2 ‹_› _ _ ‹_› ‹_› |exact b3 ‹_› _ _ ‹_› ‹_› |exact w1 ‹_› _ _ ‹_› ‹_› |exact(w2 ‹_› _ _ ‹_› ‹_›).1|exact(w2 ‹_› _ _ ‹_› ‹_›).2.1|exact(w2 ‹_› _ _ ‹_› ‹_›).2.2|exact s4 ‹_› _ ‹_› ‹_› |exact s5 _)|omega|(unfold ix;omega)|(unfold aJ;omega))
noncomputable def t53:=t46.adk k53
def sqR:aE:=[⟨0,0⟩,⟨3,0⟩,⟨3,3⟩,⟨0,3⟩]
def awR:aE:=[⟨0,0⟩,⟨2,1⟩,⟨4,0⟩,⟨2,4⟩]
instance(lt:Int->Int->Bool)(l:List Int):Decidable (OrdOn lt l):=decidable_of_iff ((∀x∈l,∀y∈l,∀z∈l,lt x y=true->lt y z=true->lt x z=true)/\(∀x∈l,∀y∈l,lt x y=true->lt y x=false)/\(∀x∈l,∀y∈l,lt x y=false->lt y x=false->x=y)) ⟨λh=>⟨h.1,h.2.1,h.2.2⟩,λh=>⟨h.1,h.2,h.3⟩⟩
instance(v:List V)(L:List (List Int))(i j:Nat):Decidable (ArOk v L i j):=decidable_of_iff (i<L.length/\(j:Int)∈af L i/\(∀x∈af L i,0<=x/\x.toNat<v.length)/\(af L i).length<=1000000) ⟨λh=>⟨h.1,h.2.1,h.2.2.1,h.2.2.2⟩,λh=>⟨h.1,h.2,h.3,h.4⟩⟩
instance(s:Shape):Decidable (GOk s):=inferInstanceAs (Decidable (∀k,k<(vOf s).length->0<(af (oD s) k).length/\(∀x∈af (oD s) k,0<=x/\x.toNat<(vOf s).length)/\OrdOn (ltA (vOf s) k) (af (oD s) k)))
instance(s:Shape):Decidable (SOk s):=inferInstanceAs (Decidable (∀k,k<(pG s).length->ArOk (vOf s) (sG s k).1 (aY (pG s) k).1 (aY (pG s) k).2/\ArOk (vOf s) (sG s k).1 (aY (pG s) k).2 (aY (pG s) k).1/\(aY (pG s) k).2≠(aY (pG s) k).1))
def PcB(s:Shape):Prop:=(∀i,i<(soG s).length->∀x∈af (soG s) i,ArOk (vOf s) (soG s) i x.toNat/\ArOk (vOf s) (soG s) x.toNat i)/\(∀h∈hsG s,ArOk (vOf s) (soG s) h.2 h.1)/\(∀i,i<(vOf s).length->0<=co (nG s) i)/\
 ∀k,k<(hsG s).length->0<(trc (vOf s) (soG s) (trU (vOf s)) (pcK s k).1 (aY (hsG s) k) []).2.length->(trc (vOf s) (soG s) (trU (vOf s)) (pcK s k).1 (aY (hsG s) k) []).2.length<=1000/\0<(dQ (trc (vOf s) (soG s) (trU (vOf s)) (pcK s k).1 (aY (hsG s) k) []).2).length
def PcB.ok{s:Shape}(h:PcB s):qM s:=by
 refine⟨λi j hj=> ?_,h.2⟩;have hi:i<(soG s).length:=by
  rcases Nat.lt_or_ge i (soG s).length with h1|h1
  .exact h1
  .unfold af at hj;grind
 have:=h.1 i hi _ hj;grind
instance(s:Shape):Decidable (PcB s):=by unfold PcB;infer_instance
def sqS:Shape:=⟨sqR,[]⟩
def awS:Shape:=⟨awR,[]⟩
def G8:GOk sqS/\SOk sqS/\PcB sqS:=by decide+kernel
def Hi:GOk awS/\SOk awS/\PcB awS:=by decide+kernel
def P4:bM sqS=true/\pcG sqS=[sqR] :=by decide+kernel
def QM:bM awS=true/\pcG awS=[[⟨0,0⟩,⟨2,1⟩,⟨2,4⟩],[⟨4,0⟩,⟨2,4⟩,⟨2,1⟩]] :=by decide+kernel
def Hj:kj awS [[⟨0,0⟩,⟨2,1⟩,⟨2,4⟩],[⟨4,0⟩,⟨2,4⟩,⟨2,1⟩]] =true/\aEF [sqR] [[⟨0,0⟩,⟨2,1⟩,⟨2,4⟩],[⟨4,0⟩,⟨2,4⟩,⟨2,1⟩]] =true/\qI awS=1:=by decide+kernel
def aAo:Fit sqS:=⟨by decide,by decide,λr h=>(cG h).elim⟩
def Gx:Fit awS:=⟨by decide,by decide,λr h=>(cG h).elim⟩
def aBa:eV sqS=0:=by unfold eV;rw[P4.1];rfl
def aBB:eV awS=0:=by unfold eV;rw[QM.1];rfl
noncomputable def c41:Con:=con (a0) (λ_=>[]) (λ_=> .bool true)
def k41:c41.Okz 41:=bJ t53 (λ_=>[(10002,.mk Unit (λ_ _=>some ()) [] bh (λ_=>[(1,.lst .V sqR)]) bh (λ_=>0) bh),(10003,.mk Unit (λ_ _=>some ()) [7] bh (λ_=>[(2,.ptr 7 0)]) (λ_=>[(7,.box 26 [.lst .V awR,.nil])]) (λ_=>0) bh)]
  ) (λ_=>⟨_,rfl⟩) λ_ _=>az ([(⟨0,0⟩:V),(⟨3,0⟩:V),(⟨3,3⟩:V),(⟨0,3⟩:V)] =sqR/\
 (∀y:Unit,[(⟨0,0⟩:V),(⟨2,1⟩:V),(⟨4,0⟩:V),(⟨2,4⟩:V)] =awR/\
  (∀y_1:Unit,Fit (⟨sqR,([] :List (List V))⟩:Shape)/\(bM (⟨sqR,([] :List (List V))⟩:Shape)=true->GOk (⟨sqR,([] :List (List V))⟩:Shape)/\SOk (⟨sqR,([] :List (List V))⟩:Shape)/\qM (⟨sqR,([] :List (List V))⟩:Shape))/\Fit (⟨awR,([] :List (List V))⟩:Shape)/\(bM (⟨awR,([] :List (List V))⟩:Shape)=true->GOk (⟨awR,([] :List (List V))⟩:Shape)/\SOk (⟨awR,([] :List (List V))⟩:Shape)/\qM (⟨awR,([] :List (List V))⟩:Shape))/\(eV (⟨sqR,([] :List (List V))⟩:Shape)=0->(eV (⟨awR,([] :List (List V))⟩:Shape)=0->(pcG (⟨sqR,([] :List (List V))⟩:Shape)).length<=1000000/\(∀r:aE,r∈pcG (⟨sqR,([] :List (List V))⟩:Shape)->r.length<=100000)/\((pcG (⟨sqR,([] :List (List V))⟩:Shape)==[sqR])=true->(((pcG (⟨awR,([] :List (List V))⟩:Shape)).length:Int)=2->Fit (⟨awR,([] :List (List V))⟩:Shape)/\(pcG (⟨awR,([] :List (List V))⟩:Shape)).length<=1000/\(∀r:aE,r∈pcG (⟨awR,([] :List (List V))⟩:Shape)->r.length<=1000)/\(kj (⟨awR,([] :List (List V))⟩:Shape) (pcG (⟨awR,([] :List (List V))⟩:Shape))=true->(pcG (⟨sqR,([] :List (List V))⟩:Shape)).length<=1000/\(∀r:aE,r∈pcG (⟨sqR,([] :List (List V))⟩:Shape)->r.length<=1000)/\(pcG (⟨awR,([] :List (List V))⟩:Shape)).length<=1000/\(∀r:aE,r∈pcG (⟨awR,([] :List (List V))⟩:Shape)->r.length<=1000)/\(aEF (pcG (⟨sqR,([] :List (List V))⟩:Shape)) (pcG (⟨awR,([] :List (List V))⟩:Shape))=true->Fit (⟨awR,([] :List (List V))⟩:Shape)/\decide ((qI (⟨awR,([] :List (List V))⟩:Shape):Int)=1)=true)/\
        (aEF (pcG (⟨sqR,([] :List (List V))⟩:Shape)) (pcG (⟨awR,([] :List (List V))⟩:Shape))=false->false=true))/\
       (kj (⟨awR,([] :List (List V))⟩:Shape) (pcG (⟨awR,([] :List (List V))⟩:Shape))=false->false=true))/\
      (¬((pcG (⟨awR,([] :List (List V))⟩:Shape)).length:Int)=2->false=true))/\
     ((pcG (⟨sqR,([] :List (List V))⟩:Shape)==[sqR])=false->false=true))/\
    (¬eV (⟨awR,([] :List (List V))⟩:Shape)=0->false=true))/\
   (¬eV (⟨sqR,([] :List (List V))⟩:Shape)=0->false=true)))) (by kernel_rfl) (by
  rw[show(⟨sqR,([] :List (List V))⟩:Shape)=sqS from rfl,show(⟨awR,([] :List (List V))⟩:Shape)=awS from rfl,aBa,aBB,P4.2,QM.2,Hj.1,Hj.2.1,Hj.2.2];have lo:∀n:Nat,4<=n->∀r∈([[⟨0,0⟩,⟨2,1⟩,⟨2,4⟩],[⟨4,0⟩,⟨2,4⟩,⟨2,1⟩]] :List aE),r.length<=n:=λn hn r hr=>by grind
  have lq:∀n:Nat,4<=n->∀r∈[sqR],r.length<=n:=λn hn r hr=>by rw[bZ.1 hr];exact hn
  refine⟨rfl,λ_=>⟨rfl,λ_=>⟨aAo,λ_=>⟨G8.1,G8.2.1,G8.2.2.ok⟩,Gx,λ_=>⟨Hi.1,Hi.2.1,Hi.2.2.ok⟩,⟨λ_=>⟨λ_=>⟨by decide,lq _ (by decide),⟨λ_=>⟨λ_=>⟨Gx,by decide,lo _ (by decide),⟨λ_=>⟨by decide,lq _ (by decide),by decide,lo _ (by decide),⟨λ_=>⟨Gx,by decide⟩,λh=>(by cases h)⟩⟩,λh=>(by cases h)⟩⟩,λh=>absurd (by decide) h⟩,λh=>absurd h (by decide)⟩⟩,λh=>absurd rfl h⟩,λh=>absurd rfl h⟩⟩⟩⟩)
section
open Go.ChangeShapes Go.WideShapes Go.ChangeAt Go.RowKit Go.Joins Go.Deep
def Tryz.own:ownKnob ak.godebug=none:=by kernel_rfl
def Tryz.laidOut:laidOutB ak=true:=by kernel_rfl
def Z3:ak.cellsOf 26=2:=by kernel_rfl
def O0:ak.cellsOf 44=2:=by kernel_rfl
def Z4:ak.cellsOf 23=1:=by kernel_rfl
def Z6:ak.bytesOf 44=16:=by kernel_rfl
def Z7:ak.bytesOf 23=24:=by kernel_rfl
def Kv{C:bE}:∀(l:List aEw) (b o:Nat),(∀i (h:i<l.length),C b (o+i*2) (.int .i64 l[i].x)/\C b (o+i*2+1) (.int .i64 l[i].y))->cL C (fe l) b o
 |[],b,o,_=>by show cL C [] b o;unfold cL;trivial
 |v::l,b,o,h=>by
  show cL C (.int .i64 v.x:: .int .i64 v.y::fe l) b o;have h0:=h 0 (by simp);unfold cL;refine⟨⟨_,by simpa using h0.1,rfl,by unfold aU;rfl⟩,?_⟩;unfold cL;refine⟨⟨_,by simpa using h0.2,rfl,by unfold aU;rfl⟩,?_⟩;refine Kv l b (o+1+1) λi hi=> ?_;have:=h (i+1) (by grind);grind
def J4{C:bE}:∀(l:List aE) (b o:Nat),(∀i (h:i<l.length),∃u,C b (o+i) u/\u.oneCell'=true/\aU C (gL l[i]) u)->cL C (l.map gL) b o
 |[],b,o,_=>by simp only[List.map_nil];unfold cL;trivial
 |r::l,b,o,h=>by
  simp only[cv];unfold cL;refine⟨h 0 (by simp),J4 l b (o+1) λi hi=> ?_⟩;have:=h (i+1) (by grind);grind
section
variable {H:Type} {enc:TypeId×Value->H} {w:World} {base:Nat} {spare:Nat->Bool} {held:Bool}
def K5{fuel:Nat}{v:Value}{y:DataW H×List MemPlace}(h:DataW.trod enc ak w base spare held fuel 23 [v] =some y):
  ∃r:aE,aU (mM w) (gL r) v/\v.oneCell'=true/\∀B,(∀n∈mj ak 23 y.1,n<=B)->r.length*16<=B:=by
 rcases open_slice_pairs Sn Ir O0 rfl rfl (by kernel_rfl) (by kernel_rfl) h with⟨h1,h2⟩|⟨a,len,cap,m,n,V0,V1,D0,D1,P0,P1,h1,_,hl,_,hm,hx,hc⟩
 .simp only[nY,and_true]at h1;subst h1;refine⟨[],?_,rfl,λB _=>by simp⟩;unfold gL aU;exact⟨none,0,rfl,bX _,λ_=>⟨rfl,rfl⟩,λad e=>by cases e⟩
 .simp only[nY,and_true]at h1;subst h1;have hlm:len<=m:=by rw[hm];split<;>omega
  have hint:∀i,i<m->∃p:Int×Int,V0 i= .int .i64 p.1/\V1 i= .int .i64 p.2:=by intro i hi;obtain⟨_,_,g3,g4⟩:=hc i hi;obtain⟨p,hp,_⟩:=I2 pF g3;obtain⟨q,hq,_⟩:=I2 pF g4;simp only[nY,and_true]at hp hq;exact⟨(p,q),hp,hq⟩
  obtain⟨f,hf⟩:=choose_lt (α:=Int×Int) (p:=λi p=>V0 i= .int .i64 p.1/\V1 i= .int .i64 p.2) hint;refine⟨(bV len).map λi=>⟨(f i).1,(f i).2⟩,?_,rfl,λB hB=> ?_⟩
  .unfold gL aU;refine⟨some a,cap,by simp,by grind,(λe=>by cases e),λad e=> ?_⟩;cases e;refine⟨λhpos=> ?_,Kv _ _ _ λi hi=> ?_⟩
   .have h0:=(hc 0 (by grind)).1;simpa[Cp]using I3 h0
   .simp only[db,IT]at hi;obtain⟨g1,g2,_⟩:=hc i (by omega);obtain⟨e0,e1⟩:=hf i (by omega);have hs:a.spot=none:=by simpa[Cp]using I3 (hc 0 (by omega)).1
    obtain⟨b,off,sp⟩:=a;dsimp only at hs;subst hs;rw[e0]at g1;rw[e1]at g2;simp only[jR,qP];unfold mM;rw[v8]at g1 g2;grind
  .have:=hB ((len+(m-len))*16) (by rw[hx];simp[mj,Sn,Z6]);grind
def Uo{fuel:Nat}{v:Value}{y:DataW H×List MemPlace}(h:DataW.trod enc ak w base spare held fuel 24 [v] =some y):
  ∃l:List aE,aU (mM w) (oJ l) v/\v.oneCell'=true/\∀B,(∀n∈mj ak 24 y.1,n<=B)->l.length*24<=B/\∀r∈l,r.length*16<=B:=by
 rcases open_slice1 C5 Z4 h with⟨h1,h2⟩|⟨a,len,cap,m,n,V,D,Pl,h1,_,hl,_,hm,hx,hc⟩
 .simp only[nY,and_true]at h1;subst h1;refine⟨[],?_,rfl,λB _=>⟨by simp,λr hr=>by cases hr⟩⟩;unfold oJ aU;grind
 .simp only[nY,and_true]at h1;subst h1;have hlm:len<=m:=by rw[hm];split<;>omega
  have hring:∀i,i<m->∃r:aE,aU (mM w) (gL r) (V i)/\(V i).oneCell'=true/\∀B,(∀n∈mj ak 23 (D i),n<=B)->r.length*16<=B:=λi hi=>K5 (hc i hi).2;obtain⟨f,hf⟩:=choose_lt (α:=aE) (p:=λi r=>aU (mM w) (gL r) (V i)/\(V i).oneCell'=true/\∀B,(∀n∈mj ak 23 (D i),n<=B)->r.length*16<=B) hring;refine⟨(bV len).map f,?_,rfl,λB hB=> ?_⟩
  .unfold oJ aU;refine⟨some a,cap,by simp,by grind,(λe=>by cases e),λad e=> ?_⟩;cases e;refine⟨λhpos=> ?_,J4 _ _ _ λi hi=> ?_⟩
   .have h0:=(hc 0 (by grind)).1;simpa[Cp]using I3 h0
   .simp only[db,IT]at hi;have g1:=(hc i (by omega)).1;have hs:a.spot=none:=by simpa[Cp]using I3 (hc 0 (by omega)).1
    obtain⟨b,off,sp⟩:=a;dsimp only at hs;subst hs;rw[v8]at g1;simp only[jR,qP];exact⟨V i,g1,(hf i (by omega)).2.1,(hf i (by omega)).1⟩
  .have hw:∀x,x∈mj ak 24 (DataW.slice ((bV len).map D) ((bV (m-len)).map λj=>D (len+j)))->x<=B:=by rw[hx]at hB;exact hB
   have hmem:∀{l:List (DataW H)} {d:DataW H} {x:Nat},d∈l->x∈mj ak 23 d->x∈DataW.weightsAll ak 23 l:=by
    intro l;induction l with
    |nil=>grind
    |cons e l ih=>
     intro d x hd hx;simp only[DataW.weightsAll,bi];grind
   refine⟨?_,λr hr=> ?_⟩
   .have:=hw ((len+(m-len))*24) (by simp[mj,C5,Z7]);grind
   .obtain⟨i,hi,rfl⟩:=bR.1 hr;have hi:=cF.1 hi;refine(hf i (by omega)).2.2 B λx hx2=>hw x ?_;simp only[mj,C5,aj,bi];grind
def Un{r:Reach}{b0:Nat}{v:Value}{d:DataW H}{p:List MemPlace}(hv:Value.okWide ak w r b0 26 v)(h:DataW.Trod enc ak w base spare held 26 v d p)(hw:∀n∈mj ak 26 d,n<=reachBytes):
  ∃s:Shape,aU (mM w) (kM s) v/\mN s:=by
 obtain⟨v0,v1,y0,y1,n,rfl,rfl,_,h0,h1⟩:=open_agg2 Sp (by kernel_rfl) Z3 hv h;obtain⟨ro,g1,g2,g3⟩:=K5 h0;obtain⟨rs,g4,g5,g6⟩:=Uo h1;have hB:reachBytes<=140737488351232:=of_decide_eq_true (by kernel_rfl);have k1:=g3 reachBytes λx hx=>hw x (by simp only[mj,Sp,cv,Sq,bi];exact .inl hx);have k2:=g6 reachBytes λx hx=>hw x (by simp only[mj,Sp,cv,Sq,bi];grind);refine⟨⟨ro,rs⟩,?_,by grind,by grind,λq hq=>by grind⟩;unfold kM aU;refine⟨[v0,v1],rfl,?_,?_⟩
 .unfold ae;refine⟨v0,[v1],rfl,g1,?_⟩;unfold ae;exact⟨v1,[],rfl,g4,by unfold ae;rfl⟩
 .intro u hu;grind
def LP{n:Int}(h:(Lit.int .i64 n).wf=true):aJ n:=by simp[Lit.wf,IntKind.min,IntKind.max,IntKind.signed,IntKind.bits]at h;unfold aJ;omega
def Xx{r:Reach}{b0:Nat}{v:Value}{d:DataW H}{p:List MemPlace}(hv:Value.okWide ak w r b0 44 v)(h:DataW.Trod enc ak w base spare held 44 v d p):
  ∃a:aEw,aU (mM w) (B8 a) v/\VOk a:=by
 obtain⟨v0,v1,y0,y1,n,rfl,_,_,h0,h1⟩:=open_agg2 Ir (by kernel_rfl) O0 hv h;obtain⟨a,ha,_,wa⟩:=I2 pF h0;obtain⟨b,hb,_,wb⟩:=I2 pF h1;simp only[nY,and_true]at ha hb;subst ha hb;refine⟨⟨a,b⟩,?_,LP wa,LP wb⟩;unfold B8 aU;refine⟨[.int .i64 a,.int .i64 b],rfl,?_,?_⟩
 .unfold ae;refine⟨.int .i64 a,[.int .i64 b],rfl,by unfold aU;rfl,?_⟩;unfold ae;exact⟨.int .i64 b,[],rfl,by unfold aU;rfl,by unfold ae;rfl⟩
 .intro u hu;simp only[aj,cG,or_false]at hu;rcases hu with rfl|rfl<;>rfl
end
section
variable {H:Type} {enc:TypeId×Value->H} {w:World} {base:Nat} {spare:Nat->Bool} {held:Bool}
end
def aAu{f:FuncId}{xs:List SV}{r:SV}{B:List PV}{q:PV}(h:∃A q,avs xs=A.map .p/\r.av= .p q/\Sat ak false f A q)(hB:avs xs=B.map .p)(hq:r.av= .p q):Sat ak false f B q:=by
 obtain⟨A,q',h1,h2,h3⟩:=h;rw[hq]at h2;cases h2;rw[hB]at h1;have:B=A:=by have:=congrArg bK h1;rw[dS,dS]at this;cases this;rfl
 grind
def aBC(s:Shape):(aSh.enc s).av= .p (kM s):=by show eJ [.p (.sl s.outer.length (fe s.outer)),.p (.sl s.holes.length (LT.R.enc s.holes))] =_;rw[tH];rfl
def aA2(v:aEw):(aV.enc v).av= .p (B8 v):=rfl
end
def CU(p:V)(e:S):List V:=if e.a=p then [e.b]else if e.b=p then [e.a]else []
def oR(l:List S)(p:V):List V:=l.flatMap (CU p)
def s9(l:List S)(p q:V):Bool:=decide (0<=turn p (fQ (oR l p) p q true) (fQ (oR l p) p q false))
def nQ(s:Shape)(K:List S)(k:Nat):List S:=bQ s++K++(dOf s).drop k
def yS(l:List S)(d:S):Bool:= !s9 l d.a d.b|| !s9 l d.b d.a
def kpR(s:Shape):Nat->List S
 |0=>[]
 |k+1=>if yS (nQ s (kpR s k) k) (bB (dOf s) k)=true then kpR s k++[bB (dOf s) k]else kpR s k
def stR(s:Shape):List S:=if eOf s=0 then kpR s (dOf s).length else []
def F5(s:Shape):∀k,k<=(dOf s).length->∀e∈kpR s k,e∈dOf s
 |0,_,e,he=>by cases he
 |k+1,h,e,he=>by
  unfold kpR at he;split at he
  .rcases bi.1 he with he|he
   .exact F5 s k (by omega) e he
   .rw[bZ.1 he,jH (by omega)];grind
  .exact F5 s k (by omega) e he
def hU(s:Shape)(k:Nat):List S:=aH s.outer++(s.holes.take k).flatMap λr=>aH r.reverse
def aBG(d:S):List S:=[d,⟨d.b,d.a⟩]
def hUT(s:Shape)(k:Nat):List S:=hU s s.holes.length++((stR s).take k).flatMap aBG
def hsR(s:Shape):List S:=hUT s (stR s).length
def adR(s:Shape):List S:=hU s s.holes.length++stR s
def nxQ(A:List S)(e:S):V:=fQ (oR A e.b) e.b e.a true
def nxI(H:List S)(b q:V)(k0:Nat):Nat->Nat
 |0=>k0
 |m+1=>if(bB H m).a=b/\(bB H m).b=q then m else nxI H b q k0 m
def nxB(H A:List S)(k:Nat):Nat:=nxI H (bB H k).b (nxQ A (bB H k)) k H.length
def trB(H A:List S):Nat->List Bool->Nat->List V->List Bool×List V
 |0,U,_,r=>(U,r)
 |f+1,U,k,r=>if oZ U k=true then(U,r)else trB H A f (U.set k true) (nxB H A k) (r++[(bB H k).a])
def pcB(H A:List S):Nat->List Bool×List aE
 |0=>(cS H.length false,[])
 |k+1=>((trB H A ((pcB H A k).1.count false) (pcB H A k).1 k []).1,if 0<(trB H A ((pcB H A k).1.count false) (pcB H A k).1 k []).2.length then mR (pcB H A k).2 (c7 (dQ (trB H A ((pcB H A k).1.count false) (pcB H A k).1 k []).2))else(pcB H A k).2)
abbrev TrB:=List Bool×Nat×List V
structure TB(H A:List S)(U0:List Bool)(k0:Nat)(y:TrB):Prop where
 len:y.1.length=H.length
 lt:y.2.1<H.length
 run:trB H A (y.1.count false) y.1 y.2.1 y.2.2=trB H A (U0.count false) U0 k0 []
 cnt:y.2.2.length+y.1.count false<=H.length
 pts:∀u∈y.2.2,bd 1000000000 u
def Oy:∀{l:List Bool} {i:Nat},i<l.length->oZ l i=false->l.count false=(l.set i true).count false+1
 |b::l,0,_,h=>by
  have:b=false:=h;grind
 |b::l,i+1,hi,h=>by
  have ih:=Oy (l:=l) (i:=i) (by grind) h;grind
def PN{H:List S}{b q:V}{k0 n:Nat}(h:k0<n):∀m,m<=n->nxI H b q k0 m<n
 |0,_=>h
 |m+1,hm=>by
  unfold nxI;split
  .omega
  .exact PN h m (by omega)
def aAk{H A:List S}{f:Nat}{U:List Bool}{k:Nat}{r:List V}(h:oZ U k=true):trB H A f U k r=(U,r):=by
 cases f with
 |zero=>rfl
 |succ f=>exact if_pos h
def Yt{H A:List S}{f:Nat}{U:List Bool}{k:Nat}{r:List V}(h:oZ U k=false):trB H A (f+1) U k r=trB H A f (U.set k true) (nxB H A k) (r++[(bB H k).a]):=if_neg (by grind)
def TB.step{H A:List S}{U0:List Bool}{k0:Nat}{y:TrB}(T:TB H A U0 k0 y)(hb:∀e∈H,bd 1000000000 e.a)(h:oZ y.1 y.2.1=false):TB H A U0 k0 (y.1.set y.2.1 true,nxB H A y.2.1,y.2.2++[(bB H y.2.1).a])/\(y.1.set y.2.1 true).count false<y.1.count false:=by
 have hl:=T.len;have hlt:=T.lt;have c:=Oy (show y.2.1<y.1.length by omega) h;have hc:=T.cnt;refine⟨⟨by grind,PN hlt _ (bX _),?_,?_,?_⟩,by omega⟩
 .dsimp only;rw[<-T.run,c,Yt h]
 .grind
 .intro u hu;rcases bi.1 hu with hu|hu
  .exact T.pts u hu
  .rw[bZ.1 hu];refine hb _ ?_;rw[jH hlt];grind
def E4(H A:List S)(k:Nat):pcB H A (k+1)=((trB H A ((pcB H A k).1.count false) (pcB H A k).1 k []).1,if 0<(trB H A ((pcB H A k).1.count false) (pcB H A k).1 k []).2.length then mR (pcB H A k).2 (c7 (dQ (trB H A ((pcB H A k).1.count false) (pcB H A k).1 k []).2))else(pcB H A k).2):=rfl
def pbU(s:Shape)(k:Nat):List Bool:=(pcB (hsR s) (adR s) k).1
def pbR(s:Shape)(k:Nat):List aE:=(pcB (hsR s) (adR s) k).2
def TBs(s:Shape)(k:Nat)(y:TrB):Prop:=TB (hsR s) (adR s) (pbU s k) k y
def TBs.start{s:Shape}{k:Nat}(h:(pbU s k).length=(hsR s).length)(hk:k<(hsR s).length):TBs s k (pbU s k,(k,([] :List V))) where
 len:=h
 lt:=hk
 run:=rfl
 cnt:=by grind
 pts:=λu hu=>(cG hu).elim
def TBs.stop{s:Shape}{k:Nat}{y:TrB}(T:TBs s k y)(h:oZ y.1 y.2.1=true):trB (hsR s) (adR s) ((pbU s k).count false) (pbU s k) k [] =(y.1,y.2.2):=by rw[<-T.run];exact aAk h
def TBs.u{s:Shape}{k:Nat}{y:TrB}(T:TBs s k y)(h:oZ y.1 y.2.1=true):y.1=pbU s (k+1):=by have e:=T.stop h;unfold pbU at e|-;rw[E4,e]
def TBs.yes{s:Shape}{k:Nat}{y:TrB}(T:TBs s k y)(h:oZ y.1 y.2.1=true)(h0:0<(y.2.2.length:Int)):mR (pbR s k) (c7 (dQ y.2.2))=pbR s (k+1):=by have e:=T.stop h;unfold pbU at e;unfold pbR;rw[E4,e];grind
def TBs.no{s:Shape}{k:Nat}{y:TrB}(T:TBs s k y)(h:oZ y.1 y.2.1=true)(h0:¬0<(y.2.2.length:Int)):pbR s k=pbR s (k+1):=by have e:=T.stop h;unfold pbU at e;unfold pbR;rw[E4,e];grind
def Nw{r:aE}{e:S}(h:e∈aH r):e.a∈r/\e.b∈r:=by
 unfold aH at h;split at h
 .cases h
 .obtain⟨i,hi,rfl⟩:=bR.1 h;have hi:=cF.1 hi;exact⟨eC hi,eC (bw _ (by omega))⟩
def nJ(A:List (Nat×Nat))(L:List (List Int)):List (List Int):=A.foldl (λL p=>both L p.1 p.2) L
def zM(A B:List (Nat×Nat))(L:List (List Int)):nJ (A++B) L=nJ B (nJ A L):=C3
def KG(p:Nat×Nat)(A:List (Nat×Nat))(L:List (List Int)):nJ (p::A) L=nJ A (both L p.1 p.2):=rfl
def Br(base m:Nat):List (Nat×Nat):=(bV m).map λt=>(base+t,base+(t+1) % m)
def sW(R:List aE):Nat->List (Nat×Nat)
 |0=>[]
 |k+1=>sW R k++Br (bs R k) (aA R k).length
def MO(base m:Nat)(L:List (List Int)):∀i,rgO base m i L=nJ ((bV i).map λt=>(base+t,base+(t+1) % m)) L
 |0=>rfl
 |i+1=>by
  unfold rgO;rw[MO base m L i,rQ,dR,zM];rfl
def ML(R:List aE)(L:List (List Int)):∀k,rsO R k L=nJ (sW R k) L
 |0=>rfl
 |k+1=>by
  unfold rsO sW;rw[ML R L k,zM,MO];rfl
def ND(v:List V)(D:List S)(L:List (List Int)):∀k,k<=D.length->dgO v D k L=nJ ((dgP v D).take k) L
 |0,_=>rfl
 |k+1,h=>by
  have hk:k<(dgP v D).length:=by unfold dgP;rw[db];omega
  have hD:k<D.length:=by omega
  have e:(dgP v D)[k] =(ct v D[k].a,ct v D[k].b):=by simp only[dgP,jR]
  unfold dgO;rw[ND v D L k (by omega),kw hk,zM,e,jH hD];rfl
def m6(s:Shape):List (Nat×Nat):=sW (aD (aK s)) (aD (aK s)).length++dgP (vOf s) (dOf s)
def OO(s:Shape):oD s=nJ (m6 s) (cS (vOf s).length []):=by unfold oD oB m6;rw[ND _ _ _ _ (bX _),ML,zM,ip (by unfold dgP;grind)]
def FB{L:List (List Int)}{a b c:Nat}{x:Int}(h:a<L.length):x∈af (iR L a b) c↔x∈af L c\/(c=a/\x=b):=by unfold iR;rw[uT];grind
def E9{L:List (List Int)}{a b c:Nat}{x:Int}(h1:a<L.length)(h2:b<L.length):x∈af (both L a b) c↔x∈af L c\/(c=a/\x=b)\/(c=b/\x=a):=by unfold both;rw[FB (by rw[xZ];exact h2),FB h1,or_assoc]
def Mo:∀(A:List (Nat×Nat)) {L:List (List Int)} {c:Nat} {x:Int},(∀p∈A,p.1<L.length/\p.2<L.length)->(x∈af (nJ A L) c↔x∈af L c\/∃j:Nat,x=j/\((c,j)∈A\/(j,c)∈A))
 |[],L,c,x,_=>by
  show x∈af L c↔_;simp
 |p::A,L,c,x,h=>by
  obtain⟨h1,h2⟩:=h p bo;rw[KG,Mo A (λq hq=>by rw[Ai];grind),E9 h1 h2];grind
def Kc{L:List (List Int)}{a b:Nat}(h:∀c,(af L c).Nodup)(hb:(b:Int)∉af L a):∀c,(af (iR L a b) c).Nodup:=λc=>by unfold iR;rw[uT];grind
def KF:∀(A:List (Nat×Nat)) {L:List (List Int)},(∀p∈A,p.1<L.length/\p.2<L.length/\p.1≠p.2)->(∀c,(af L c).Nodup)->(∀p∈A,(p.2:Int)∉af L p.1/\(p.1:Int)∉af L p.2)->A.Pairwise (λp q=>p≠q/\p≠(q.2,q.1))->∀c,(af (nJ A L) c).Nodup
 |[],L,_,hn,_,_=>hn
 |p::A,L,h,hn,hm,hp=>by
  obtain⟨h1,h2,h3⟩:=h p bo;obtain⟨m1,m2⟩:=hm p bo;obtain⟨q1,q2⟩:=gh.1 hp;rw[KG];refine KF A (λq hq=>by rw[Ai];grind) ?_ (λq hq=> ?_) q2
  .unfold both;refine Kc (Kc hn m1) λg=> ?_;rcases(FB h1).1 g with g|⟨g,_⟩
   .exact m2 g
   omega
  .have hq2:=hm q (bk _ hq);have hne:=q1 q hq;obtain⟨a,b⟩:=p;obtain⟨c,d⟩:=q;rw[E9 h1 h2,E9 h1 h2];grind
section
def phi(v:List aEw)(p:Nat×Nat):S:=⟨aEv v p.1,aEv v p.2⟩
def EE{a b:List aEw}{i:Nat}(h:i<a.length):aEv (a++b) i=aEv a i:=by unfold aEv;grind
def K6{a b:List aEw}(i:Nat):aEv (a++b) (a.length+i)=aEv b i:=by unfold aEv;grind
def xU:∀(R:List aE) (k t:Nat),k<R.length->t<(aA R k).length->aEv R.flatten (bs R k+t)=aEv (aA R k) t
 |r::R,0,t,_,ht=>by
  have e:bs (r::R) 0=0:=rfl;rw[e,jo,mX];exact EE ht
 |r::R,k+1,t,hk,ht=>by
  have e:bs (r::R) (k+1)=r.length+bs R k:=by unfold bs;rw[List.take_succ_cons,mX,gi]
  rw[e,Nat.add_assoc,mX,K6];exact xU R k t (by grind) ht
def Xp{R:List aE}{k:Nat}(hk:k<R.length){p:Nat×Nat}(h:p∈Br (bs R k) (aA R k).length):p.1<R.flatten.length/\p.2<R.flatten.length:=by have h1:=qu hk;have h2:=vL R (k+1);obtain⟨t,ht,rfl⟩:=bR.1 h;have ht:=cF.1 ht;have:=bw (t+1) (show 0<(aA R k).length by omega);omega
def Ks{R:List aE}:∀k,k<=R.length->∀p∈sW R k,p.1<R.flatten.length/\p.2<R.flatten.length
 |0,_,p,h=>by cases h
 |k+1,hk,p,h=>by
  rcases bi.1 h with h|h
  .exact Ks k (by omega) p h
  .exact Xp (by omega) h
def V5{R:List aE}{k:Nat}(hk:k<R.length)(h2:2<=(aA R k).length):(Br (bs R k) (aA R k).length).map (phi R.flatten)=aH (aA R k):=by unfold Br aH;rw[if_neg (by omega),di];refine lk λt ht=> ?_;have ht:=cF.1 ht;have e1:=xU R k t hk ht;have e2:=xU R k ((t+1) % (aA R k).length) hk (bw _ (by omega));show phi R.flatten (bs R k+t,bs R k+(t+1) % (aA R k).length)=bO (aA R k) t;unfold phi;dsimp only;rw[e1,e2];rfl
def J2{R:List aE}(h2:∀r∈R,2<=r.length):∀k,k<=R.length->(sW R k).map (phi R.flatten)=(R.take k).flatMap aH
 |0,_=>rfl
 |k+1,hk=>by
  unfold sW;rw[dR,J2 h2 k (by omega),V5 (by omega) (h2 _ (iD (by omega))),kw (by omega),vz,lF (by omega)];simp
def qm{v:List aEw}{u:aEw}(h:u∈v):aEv v (ct v u)=u:=by have hl:=mB h;have:=List.findIdx_getElem (xs:=v) (p:=λx=>decide (u=x)) (w:=hl);unfold aEv;rw[dw,List.getElem?_eq_getElem hl];exact(of_decide_eq_true this).symm
def Zx{v:List aEw}{D:List S}(h:∀d∈D,d.a∈v/\d.b∈v):(dgP v D).map (phi v)=D:=by
 unfold dgP;rw[di];have:∀d∈D,(phi v∘λd:S=>(ct v d.a,ct v d.b)) d=d:=λd hd=>by show phi v (ct v d.a,ct v d.b)=d;unfold phi;dsimp only;rw[qm (h d hd).1,qm (h d hd).2]
 rw[lk this,List.map_id']
section
variable {s:Shape}
def pU(h:bI s=true):aK s=eP s:=by unfold aK;rw[if_pos (by rw[jW];exact h)]
def nt(h:bI s=true):vOf s=(aD (aK s)).flatten:=by rw[sO h,pU h];rfl
def AR(h:bI s=true):∀r∈aD (aK s),2<=r.length:=by
 intro r hr;rw[pU h]at hr;have V:=vsR h;have key:∀q∈aD s,2<=q.length:=λq hq=>by have:=(V.ring hq).three;omega
 unfold aD eP at hr;rcases aj.1 hr with e|hr
 .rw[e,lv];exact key _ bo
 .have hr2:=(l0 _).mem_iff.1 hr;obtain⟨q,hq,rfl⟩:=bR.1 hr2;rw[lv];exact key _ (bk _ hq)
def KE(h:bI s=true):(m6 s).map (phi (vOf s))=bQ (eP s)++dOf s:=by
 unfold m6;rw[dR,Zx λd hd=>(ut (by rw[jW];exact h)).2 d hd]
 congr 1
 rw[nt h,J2 (AR h) _ (bX _),tg,pU h];rfl
def xK(h:bI s=true):∀p∈m6 s,p.1<(vOf s).length/\p.2<(vOf s).length:=by
 intro p hp;unfold m6 at hp;rcases bi.1 hp with hp|hp
 .rw[nt h];exact Ks _ (bX _) p hp
 .exact HU (by rw[jW];exact h) hp
end
end
section
section
variable {s:Shape}
def xD(h:bI s=true):(vOf s).Perm (bz s):=by rw[sO h];exact ri s
def Dz(h:bI s=true):(vOf s).Nodup:=(xD h).nodup_iff.2 (vsR h).nodup
def tgR(h:bI s=true):Tg s (dOf s):=by rw[GI h];exact Pu (vsR h) (λx=>(xD h).mem_iff) (Dz h)
def Jk{D:List S}(T:Tg s D){e:S}(he:e∈bQ s):swp e∉bQ s:=λhf=>by
 unfold bQ at he hf;obtain⟨r,hr,her⟩:=cQ.1 he;obtain⟨q,hq,heq⟩:=cQ.1 hf;by_cases hrq:r=q
 .subst hrq;unfold aD at hr;rcases aj.1 hr with g|g
  .subst g;exact(ww T her).2 (ww T heq).1
  .exact(xM T g her).2 (xM T g heq).1
 .exact(rn T hr hq hrq (v:=e.a) (Nw her).1 heq).2 rfl
def Lg{r:aE}(h:2<=r.length):(aH r).map S.a=r:=by unfold aH;rw[if_neg (by omega),di];refine List.ext_getElem (by simp) λi h1 h2=> ?_;rw[jR,qP];exact nth_eq h2
def FK:∀{l:List aE},(∀r∈l,2<=r.length)->(l.flatMap aH).map S.a=l.flatten
 |[],_=>rfl
 |r::l,h=>by
  rw[fG,dR,Lg (h r bo),FK λq hq=>h q (bk _ hq),mX]
def TE(h:bI s=true):(bQ (eP s)).Nodup:=by
 have e:(bQ (eP s)).map S.a=vOf s:=by rw[nt h,<-FK (AR h),pU h];rfl
 have hn:=Dz h;rw[<-e]at hn;exact Cg (λ{a b} hne (e:a=b)=>hne (by rw[e])) (i8.1 hn)
def Uy(h:bI s=true):(m6 s).Pairwise λp q=>p≠q/\p≠(q.2,q.1):=by
 have T:=tgR h;have key:((m6 s).map (phi (vOf s))).Pairwise λe f=>e≠f/\e≠swp f:=by
  rw[KE h,List.pairwise_append];refine⟨?_,?_,?_⟩
  .refine Cd (λ{e f} he hf hne=>⟨hne,λg=> ?_⟩) (TE h);rw[zG]at he hf;rw[g]at he;exact Jk T hf he
  .exact T.once.imp λ{a b} h=>h
  .intro e he d hd;rw[zG]at he;exact mo T hd he
 rw[i8]at key;exact key.imp λ{p q} h=>⟨λe=>h.1 (by rw[e]),λe=>h.2 (by rw[e];rfl)⟩
def pQ(h:bI s=true){i j:Nat}(hi:i<(vOf s).length)(hj:j<(vOf s).length)(e:aEv (vOf s) i=aEv (vOf s) j):i=j:=mA (Dz h) hi hj e
def EI(h:bI s=true){i j:Nat}(hi:i<(vOf s).length)(hj:j<(vOf s).length):((i,j)∈m6 s\/(j,i)∈m6 s)↔sides s (dOf s) (aEv (vOf s) i) (aEv (vOf s) j):=by
 have m:∀{a b:Nat},a<(vOf s).length->b<(vOf s).length->((a,b)∈m6 s↔(⟨aEv (vOf s) a,aEv (vOf s) b⟩:S)∈bQ s++dOf s):=λ{a b} ha hb=>by
  rw[bi,<-zG,<-bi,<-KE h,bR];constructor
  .intro g;exact⟨_,g,rfl⟩
  .rintro⟨⟨c,d⟩,g,e⟩;obtain⟨g1,g2⟩:=xK h _ g;have e1:aEv (vOf s) c=aEv (vOf s) a:=congrArg S.a e;have e2:aEv (vOf s) d=aEv (vOf s) b:=congrArg S.b e;have e1:=pQ h g1 ha e1;have e2:=pQ h g2 hb e2;grind
 rw[m hi hj,m hj hi];rfl
def BU(n c:Nat):af (cS n ([] :List Int)) c=[] :=by unfold af;grind
def un(h:bI s=true){i:Nat}(hi:i<(vOf s).length){x:Int}:x∈af (oD s) i↔∃j:Nat,x=j/\j<(vOf s).length/\sides s (dOf s) (aEv (vOf s) i) (aEv (vOf s) j):=by
 rw[OO,Mo _ (λp hp=>by rw[y7];exact xK h p hp),BU];constructor
 .rintro(g|⟨j,rfl,g⟩)
  .cases g
  .have hj:j<(vOf s).length:=by
    rcases g with g|g
    .exact(xK h _ g).2
    .exact(xK h _ g).1
   exact⟨j,rfl,hj,(EI h hi hj).1 g⟩
 .rintro⟨j,rfl,hj,g⟩;exact .inr ⟨j,rfl,(EI h hi hj).2 g⟩
def Aq(h:bI s=true){a b:V}(g:sides s (dOf s) a b):a≠b:=(tgR h).segs.ne g
def X3(h:bI s=true)(c:Nat):(af (oD s) c).Nodup:=by rw[OO];refine KF _ (λp hp=> ?_) (λc=>by rw[BU];grind) (λp hp=>by rw[BU,BU];grind) (Uy h) c;rw[y7];obtain⟨h1,h2⟩:=xK h p hp;refine⟨h1,h2,λe=> ?_⟩;have:=(EI h h1 h2).1 (.inl hp);rw[e]at this;exact Aq h this rfl
def xv(v:List V)(p x y:Nat):lW v p x y<0↔alt (aEy (aEv v x) (aEv v p)) (aEy (aEv v y) (aEv v p)):=by
 unfold lW;dsimp only;generalize aEy (aEv v x) (aEv v p)=a;generalize aEy (aEv v y) (aEv v p)=b;have ht:0<turn ⟨0,0⟩ a b↔0<cross a b:=by
  have e:cross (aEy a ⟨0,0⟩) (aEy b ⟨0,0⟩)=cross a b:=by unfold cross aEy;simp
  unfold turn sgn;rw[e];split
  .omega
  .omega
 have hh:∀u:V,iJ u=if gY u then 0 else 1:=λu=>by unfold iJ gY;omega
 rw[hh,hh];unfold alt;grind
end
end
section
def vtx(v:List V)(x:Int):V:=aEv v x.toNat
def eZ(v:List V)(L:List (List Int))(i:Nat):List V:=(af L i).map (vtx v)
section
variable {s:Shape}
def nP(h:bI s=true):Net (bz s) (sides s (dOf s)):=(tgR h).segs.net
def MZ(h:bI s=true){i:Nat}(hi:i<(vOf s).length):∃j,j<(vOf s).length/\(⟨aEv (vOf s) i,aEv (vOf s) j⟩:S)∈bQ s:=by
 have hm:aEv (vOf s) i∈(bQ (eP s)).map S.a:=by
  have e:(bQ (eP s)).map S.a=vOf s:=by rw[nt h,<-FK (AR h),pU h];rfl
  rw[e];exact eC hi
 obtain⟨⟨a,b⟩,he,e⟩:=bR.1 hm;have e:a=aEv (vOf s) i:=e;subst e;have hb:b∈vOf s:=by unfold bQ at he;obtain⟨r,hr,her⟩:=cQ.1 he;rw[sO h];exact kY.2 ⟨r,hr,(Nw her).2⟩
 obtain⟨j,hj,e⟩:=fN.1 hb;rw[zG,e]at he;grind
def gok(h:bI s=true):GOk s:=λk hk=>by
 have N:=nP h;have cell:∀x∈af (oD s) k,∃j:Nat,x=j/\j<(vOf s).length/\sides s (dOf s) (aEv (vOf s) k) (aEv (vOf s) j):=λx hx=>(un h hk).1 hx;have nzz:∀{j:Nat},sides s (dOf s) (aEv (vOf s) k) (aEv (vOf s) j)->nz (aEy (aEv (vOf s) j) (aEv (vOf s) k)):=λg=>kN (N.ne g).symm;refine⟨?_,λx hx=> ?_,⟨?_,?_,?_⟩⟩
 .obtain⟨j,hj,he⟩:=MZ h hk;exact I1 ((un h hk).2 ⟨j,rfl,hj,.inl (fT _ he)⟩)
 .grind
 .intro x hx y hy z hz h1 h2;obtain⟨a,rfl,ha,ga⟩:=cell x hx;obtain⟨b,rfl,hb,gb⟩:=cell y hy;obtain⟨c,rfl,hc,gc⟩:=cell z hz;unfold ltA at*;rw[decide_eq_true_eq,xv,jB,jB]at*;exact XA (nzz ga) (nzz gb) (nzz gc) h1 h2
 .intro x hx y hy h1;obtain⟨a,rfl,ha,ga⟩:=cell x hx;obtain⟨b,rfl,hb,gb⟩:=cell y hy;unfold ltA at*;rw[decide_eq_true_eq,xv]at h1;rw[decide_eq_false_iff_not,xv];exact FX h1
 .intro x hx y hy h1 h2;obtain⟨a,rfl,ha,ga⟩:=cell x hx;obtain⟨b,rfl,hb,gb⟩:=cell y hy;unfold ltA at*;rw[decide_eq_false_iff_not,xv,jB,jB]at h1 h2;by_cases e:a=b
  .rw[e]
  .exfalso;have hne:aEv (vOf s) a≠aEv (vOf s) b:=λg=>e (pQ h ha hb g);exact h2 (aAf (nzz ga) (nzz gb) (N.fanApart ga gb hne) h1)
def Fz(h:bI s=true){i:Nat}(hi:i<(vOf s).length):(af (oG s) i).Perm (af (oD s) i):=by unfold oG;rw[xy _ _ _ _ (by rw[x7];exact hi),if_pos hi];exact uA _ _
def aC8(h:bI s=true){i:Nat}(hi:i<(vOf s).length):aEG (aEv (vOf s) i) (eZ (vOf s) (oG s) i):=by
 have N:=nP h;have P:=Fz h hi;have g:=(gok h i hi).2.2;refine aAW N (λx hx=> ?_) ?_
 .obtain⟨y,hy,rfl⟩:=bR.1 hx;obtain⟨j,rfl,_,gj⟩:=(un h hi).1 (P.mem_iff.1 hy);unfold vtx;grind
 .unfold eZ;rw[i8];have hs:(af (oG s) i).Pairwise λa b=>ltA (vOf s) i b a=false:=by unfold oG;rw[xy _ _ _ _ (by rw[x7];exact hi),if_pos hi];exact DG g _ λ_ h=>h
  have hn:(af (oG s) i).Nodup:=P.nodup_iff.2 (X3 h i);refine Cd (λ{a b} ha hb q=> ?_) (List.Pairwise.and hs hn);have ha:=P.mem_iff.1 ha;have hb:=P.mem_iff.1 hb;cases e:ltA (vOf s) i a b with
  |true=>
   unfold ltA at e;rw[decide_eq_true_eq,xv]at e;exact e
  |false=>exact absurd (g.tot a ha b hb e q.1) q.2
def YT(h:bI s=true){i:Nat}(hi:i<(vOf s).length){x:V}:x∈eZ (vOf s) (oG s) i↔sides s (dOf s) (aEv (vOf s) i) x:=by
 have P:=Fz h hi;unfold eZ;rw[bR];constructor
 .rintro⟨y,hy,rfl⟩;obtain⟨j,rfl,_,gj⟩:=(un h hi).1 (P.mem_iff.1 hy);unfold vtx;grind
 .intro g;have hx:x∈vOf s:=(xD h).mem_iff.2 ((nP h).mem ((nP h).symm g));obtain⟨j,hj,rfl⟩:=fN.1 hx;exact⟨j,P.mem_iff.2 ((un h hi).2 ⟨j,rfl,hj,g⟩),by unfold vtx;grind⟩
end
end
section
def Wd{l:List S}{p x:V}(h:∀e∈l,e.a≠e.b):x∈oR l p↔eY l p x:=by
 unfold oR eY;rw[cQ];constructor
 .rintro⟨⟨a,b⟩,he,hx⟩;unfold CU at hx;grind
 .rintro(g|g)
  .exact⟨_,g,by unfold CU;grind⟩
  .refine⟨_,g,?_⟩;have:=h _ g;unfold CU;grind
def Of{l:List Int}{x:Int}(h:x∈l):∃ha:fR l x<l.length,l[fR l x] =x:=by have ha:=Oe h;refine⟨ha,?_⟩;have:=List.findIdx_getElem (xs:=l) (p:=λu=>decide (x=u)) (w:=ha);exact(of_decide_eq_true this).symm
def Jp{v:List V}{L:List (List Int)}{i j:Nat}{p:V}{l:List V}(F:aEG p (eZ v L i))(hl:∀x,x∈l↔x∈eZ v L i)(hm:(j:Int)∈af L i):aEv v (iM L i j (-1))=fQ l p (aEv v j) true:=by
 obtain⟨ha,e⟩:=Of hm;have hlen:(eZ v L i).length=(af L i).length:=db ..;have ha2:fR (af L i) (j:Int)<(eZ v L i).length:=by omega
 have e2:(eZ v L i)[fR (af L i) (j:Int)] =aEv v j:=by simp only[eZ,jR,e,vtx,jB]
 have hk:(fR (af L i) (j:Int)+(eZ v L i).length-1) % (eZ v L i).length<(eZ v L i).length:=bw _ (by omega);have:=F.prev hl ha2 hk rfl;rw[e2]at this;rw[this];unfold iM;dsimp only;have e3:((fR (af L i) (j:Int):Int)+ -1+(af L i).length).toNat=fR (af L i) (j:Int)+(af L i).length-1:=by omega
 rw[e3];simp only[eZ,jR,db,vtx]
 congr 2
 exact oF (by grind)
def UR{v:List V}{L:List (List Int)}{i j:Nat}{p:V}{l:List V}(F:aEG p (eZ v L i))(hl:∀x,x∈l↔x∈eZ v L i)(hm:(j:Int)∈af L i):aEv v (iM L i j 1)=fQ l p (aEv v j) false:=by
 obtain⟨ha,e⟩:=Of hm;have hlen:(eZ v L i).length=(af L i).length:=db ..;have ha2:fR (af L i) (j:Int)<(eZ v L i).length:=by omega
 have e2:(eZ v L i)[fR (af L i) (j:Int)] =aEv v j:=by simp only[eZ,jR,e,vtx,jB]
 have hk:(fR (af L i) (j:Int)+1) % (eZ v L i).length<(eZ v L i).length:=bw _ (by omega);have:=F.next hl ha2 hk rfl;rw[e2]at this;rw[this];unfold iM;dsimp only;have e3:((fR (af L i) (j:Int):Int)+1+(af L i).length).toNat % (af L i).length=(fR (af L i) (j:Int)+1) % (af L i).length:=by rw[show((fR (af L i) (j:Int):Int)+1+(af L i).length).toNat=fR (af L i) (j:Int)+1+(af L i).length by omega,oj]
 rw[e3];simp only[eZ,jR,db,vtx]
 congr 2
 exact oF (by grind)
def ZX{v:List V}{L:List (List Int)}{i j:Nat}{A:List S}(F:aEG (aEv v i) (eZ v L i))(hl:∀x,x∈oR A (aEv v i)↔x∈eZ v L i)(hm:(j:Int)∈af L i):gq v L i j=s9 A (aEv v i) (aEv v j):=by unfold gq s9;rw[Jp F hl hm,UR F hl hm]
section
variable {s:Shape}
def Zl(h:bI s=true){i:Nat}(hi:i<(vOf s).length):∃u,(⟨u,aEv (vOf s) i⟩:S)∈bQ s:=by
 have hm:aEv (vOf s) i∈bz s:=(xD h).mem_iff.1 (eC hi);unfold bz at hm;obtain⟨r,hr,hx⟩:=kY.1 hm;obtain⟨t,ht,e⟩:=fN.1 hx;have h3:=((vsR h).ring hr).three;refine⟨aEv r ((t+r.length-1) % r.length),cQ.2 ⟨r,hr,?_⟩⟩;unfold aH;rw[if_neg (by omega)];refine bR.2 ⟨(t+r.length-1) % r.length,cF.2 (bw _ (by omega)),?_⟩;have e2:((t+r.length-1) % r.length+1) % r.length=t:=by rw[kX,show t+r.length-1+1=t+r.length by omega,oj,dp ht]
 show bO r ((t+r.length-1) % r.length)=_;unfold bO nxt;rw[e2,e]
end
end
section
abbrev AK(s:Shape)(k:Nat):List aEx:=nQ s (kpR s k) k
def HK(s:Shape)(k:Nat)(e:aEx):Prop:=e∈jQ (iK s) (kpR s k++(dOf s).drop k)
def nxK(s:Shape)(k:Nat)(e:aEx):V:=fQ (oR (AK s k) e.b) e.b e.a true
structure Stg(s:Shape)(k:Nat):Prop where
 fan:∀i,i<(vOf s).length->aEG (aEv (vOf s) i) (eZ (vOf s) (sG s k).1 i)
 rng:∀i,i<(vOf s).length->∀x∈af (sG s k).1 i,∃j:Nat,x=j/\j<(vOf s).length
 mem:∀i,i<(vOf s).length->∀x,eY (AK s k) (aEv (vOf s) i) x↔x∈eZ (vOf s) (sG s k).1 i
 kept:(sG s k).2.map (phi (vOf s))=kpR s k
 faceQ:∃F,aEH (nxK s k) (HK s k) F/\∃TL,All3 (bz s) (sides s (dOf s)) (dB s) TL/\lQ TL F
def Stg.face{s:Shape}{k:Nat}(S:Stg s k):∃F,aEH (nxK s k) (HK s k) F:=let⟨F,h,_⟩:=S.faceQ;⟨F,h⟩
def Fan.sub{p:V}{L M:List V}(F:aEG p L)(h:M.Sublist L):aEG p M where
 nz:=λx hx=>F.nz x (h.subset hx)
 apart:=λx hx y hy=>F.apart x (h.subset hx) y (h.subset hy)
 sorted:=F.sorted.sublist h
def Fan.nil(p:V):aEG p [] :=⟨λ_ h=>(cG h).elim,λ_ h=>(cG h).elim,tT⟩
def Faces.congr{nx:aEx->V}{H G:aEx->Prop}{F:List (List V)}(Fc:aEH nx H F)(h:∀e,H e↔G e):aEH nx G F:=⟨Fc.cx,Fc.once,λe=>(Fc.all e).trans (h e),Fc.next⟩
section
variable {s:Shape}
def Mp(s:Shape):∀k,k<=(dOf s).length->∀e∈kpR s k,∃m,∃hm:m<(dOf s).length,m<k/\(dOf s)[m] =e
 |0,_,e,he=>by cases he
 |k+1,h,e,he=>by
  unfold kpR at he;have up:∀e∈kpR s k,∃m,∃hm:m<(dOf s).length,m<k+1/\(dOf s)[m] =e:=λe he=>by obtain⟨m,hm,h1,h2⟩:=Mp s k (by omega) e he;grind
  split at he
  .rcases bi.1 he with he|he
   .exact up e he
   .rw[bZ.1 he,jH (by omega)];grind
  grind
def Pp{k:Nat}(hk:k<=(dOf s).length):∀e∈AK s k,e∈bQ s++dOf s:=λe he=>by
 unfold AK nQ at he;rcases bi.1 he with he|he
 .rcases bi.1 he with he|he
  .grind
  .exact fB _ (F5 s k hk e he)
 grind
def pc{k:Nat}(hk:k<=(dOf s).length){a b:V}(h:eY (AK s k) a b):sides s (dOf s) a b:=h.imp (Pp hk _) (Pp hk _)
def aBE(h:bI s=true){k:Nat}(hk:k<=(dOf s).length):∀e∈AK s k,e.a≠e.b:=λe he=>Aq h (pc hk (.inl he))
def OH(h:bI s=true){m k:Nat}(hm:m<(dOf s).length)(hk:k<(dOf s).length)(hne:m≠k):(dOf s)[m]≠(dOf s)[k]/\(dOf s)[m]≠swp (dOf s)[k] :=by
 have T:=(tgR h).once;rw[om]at T;rcases Nat.lt_or_gt_of_ne hne with g|g
 .exact T m k hm hk g
 .have:=T k m hk hm g;exact⟨this.1.symm,λe=>this.2 (by rw[e];rfl)⟩
def sV(h:bI s=true){k:Nat}(hk:k<=(dOf s).length){e:aEx}(he:HK s k e):eY (AK s k) e.a e.b:=by
 unfold HK jQ at he;rw[bi,bi,kg,sJ (tgR h)]at he;unfold AK nQ eY;rw[kD];rcases he with⟨g,_⟩|g|g
 .exact g.imp (fT _) (fT _)
 .simp_all
 .exact .inr (fB _ g)
def xV(h:bI s=true){k:Nat}(hk:k<=(dOf s).length){p x:V}:x∈oR (AK s k) p↔eY (AK s k) p x:=Wd (aBE h hk)
def Lv(h:bI s=true){a b:V}(g:sides s (dOf s) a b):a∈vOf s:=(xD h).mem_iff.2 ((nP h).mem g)
def Stg.start(h:bI s=true):Stg s 0:=by
 have T:=tgR h;have N:=nP h;have e0:AK s 0=bQ s++dOf s:=by unfold AK nQ kpR;simp
 refine⟨λi hi=>aC8 h hi,λi hi x hx=> ?_,λi hi x=> ?_,rfl,?_⟩
 .obtain⟨j,e,hj,_⟩:=(un h hi).1 ((Fz h hi).mem_iff.1 hx);grind
 .rw[e0];exact(YT h hi).symm
 .obtain⟨TL,A⟩:=Ls N (dB s) (vsR h).nodup;have eD:kpR s 0++(dOf s).drop 0=dOf s:=by unfold kpR;simp
  refine⟨_,Faces.congr (aAX T.filled A (DS:=jQ (iK s) (dOf s)) ?_ (Ad T (sJ T)) ?_) λe=>by unfold HK;rw[eD],TL,A,lQ.start TL⟩
  .refine Dr T (KX T) λe he=> ?_;rcases((sJ T e).1 he).1 with g|g
   .exact .inl g
   .exact .inr g
  .intro a b c t;exact Tri.next N t λx=>by rw[xV h (jS _),e0];rfl
def Stg.ar(h:bI s=true){k:Nat}(S:Stg s k){i j:Nat}(hi:i<(vOf s).length)(hj:j<(vOf s).length)(g:eY (AK s k) (aEv (vOf s) i) (aEv (vOf s) j)):ArOk (vOf s) (sG s k).1 i j:=by
 refine⟨by rw[x5];exact hi,?_,λx hx=> ?_,?_⟩
 .obtain⟨y,hy,e⟩:=bR.1 ((S.mem i hi _).1 g);obtain⟨m,rfl,hm⟩:=S.rng i hi y hy;unfold vtx at e;rw[jB]at e;rw[<-pQ h hm hj e];exact hy
 .obtain⟨m,rfl,hm⟩:=S.rng i hi x hx;omega
 .have hn:=(S.fan i hi).nodup;have e:eZ (vOf s) (sG s k).1 i=((af (sG s k).1 i).map Int.toNat).map (aEv (vOf s)):=by unfold eZ;rw[di];rfl
  rw[e]at hn;have hn2:((af (sG s k).1 i).map Int.toNat).Nodup:=Cg (λ{a b} hne (e:a=b)=>hne (by rw[e])) (i8.1 hn);have:=AU (vOf s).length _ hn2 λx hx=>by obtain⟨y,hy,rfl⟩:=bR.1 hx;obtain⟨m,rfl,hm⟩:=S.rng i hi y hy;omega
  rw[db]at this;have:=pf s;omega
def OC(h:bI s=true){k:Nat}(hk:k<(dOf s).length):(aY (pG s) k).1<(vOf s).length/\(aY (pG s) k).2<(vOf s).length/\aEv (vOf s) (aY (pG s) k).1=(dOf s)[k].a/\aEv (vOf s) (aY (pG s) k).2=(dOf s)[k].b:=by
 have hd:=(ut (s:=s) (by rw[jW];exact h)).2 _ (mg hk);have hp:k<(pG s).length:=by rw[qx];exact hk
 have e:aY (pG s) k=(ct (vOf s) (dOf s)[k].a,ct (vOf s) (dOf s)[k].b):=by rw[oA hp];simp only[pG,dgP,jR]
 rw[e];exact⟨mB hd.1,mB hd.2,qm hd.1,qm hd.2⟩
def Stg.need(h:bI s=true){k:Nat}(hk:k<=(dOf s).length)(S:Stg s k){i j:Nat}(hi:i<(vOf s).length)(hj:j<(vOf s).length)(g:eY (AK s k) (aEv (vOf s) i) (aEv (vOf s) j)):gq (vOf s) (sG s k).1 i j=s9 (AK s k) (aEv (vOf s) i) (aEv (vOf s) j):=
 ZX (S.fan i hi) (λx=>by rw[xV h hk,S.mem i hi]) (S.ar h hi hj g).mem
end
end
section
def XO{α:Type}{l:List α}{a b c:α}(ha:a∈l)(hb:b∈l)(hc:c∈l)(h1:a≠b)(h2:b≠c)(h3:a≠c):3<=l.length:=by obtain⟨i,hi,rfl⟩:=io.1 ha;obtain⟨j,hj,rfl⟩:=io.1 hb;obtain⟨k,hk,rfl⟩:=io.1 hc;grind
def JS{l:List Int}{q x:Int}:x∈uc l q↔x∈l/\x≠q:=by unfold uc;grind
open Classical in
noncomputable def vT(v:List V)(L:List (List Int))(p:V):List V:=if p∈v then eZ v L (ct v p)else []
section
variable {s:Shape}
def uV(h:bI s=true){k:Nat}(hk:k<=(dOf s).length)(S:Stg s k)(p x:V):eY (AK s k) p x↔x∈vT (vOf s) (sG s k).1 p:=by
 unfold vT;by_cases hp:p∈vOf s
 .rw[if_pos hp,<-S.mem _ (mB hp),qm hp]
 .rw[if_neg hp];exact⟨λg=>(hp (Lv h (pc hk g))).elim,λg=>(cG g).elim⟩
def YS{k:Nat}(S:Stg s k)(p:V):aEG p (vT (vOf s) (sG s k).1 p):=by
 unfold vT;by_cases hp:p∈vOf s
 .rw[if_pos hp];have:=S.fan _ (mB hp);rw[qm hp]at this;exact this
 .rw[if_neg hp];exact Fan.nil p
def L4(h:bI s=true){k:Nat}(hk:k<=(dOf s).length)(S:Stg s k){i:Nat}(hi:i<(vOf s).length){x:V}{d:aEx}(hd:d∈dOf s)(hx:eY (AK s k) (aEv (vOf s) i) x)(he:d=⟨aEv (vOf s) i,x⟩\/d=⟨x,aEv (vOf s) i⟩):3<=(vT (vOf s) (sG s k).1 (aEv (vOf s) i)).length:=by
 have T:=tgR h;obtain⟨j,hj,e1⟩:=MZ h hi;obtain⟨u,e2⟩:=Zl h hi;have up:∀e∈bQ s,e∈AK s k:=λe he=>by unfold AK nQ;grind
 have m1:=(uV h hk S _ _).1 (.inl (up _ e1));have m2:=(uV h hk S _ _).1 (.inr (up _ e2));have m3:=(uV h hk S _ _).1 hx;refine XO m1 m2 m3 (λe=> ?_) (λe=> ?_) (λe=> ?_)
 .rw[<-e]at e2;exact Jk T e1 e2
 .subst e;have g:=mo T hd e2;rcases he with he|he
  .exact g.2 (by rw[he];rfl)
  grind
 .have g:=mo T hd e1;rw[e]at g;rcases he with he|he
  .grind
  .exact g.2 (by rw[he];rfl)
def sT{k:Nat}(hk:k<(dOf s).length):(dOf s).drop k=(dOf s)[k] ::(dOf s).drop (k+1):=(List.drop_eq_getElem_cons hk)
def aA7(h:bI s=true){k:Nat}(hk:k<(dOf s).length):∀e∈bQ s++(kpR s k++(dOf s).drop (k+1)),e≠(dOf s)[k]/\e≠swp (dOf s)[k] :=λe he=>by
 rcases bi.1 he with he|he
 .exact mo (tgR h) (mg hk) he
 .rcases bi.1 he with he|he
  .obtain⟨m,hm,h1,rfl⟩:=Mp s k (by omega) e he;exact OH h hm hk (by omega)
  .obtain⟨m,hm,rfl⟩:=io.1 he;rw[List.getElem_drop];rw[IS]at hm;exact OH h (by omega) hk (by omega)
def Stg.step(h:bI s=true){k:Nat}(hk:k<(dOf s).length)(S:Stg s k):Stg s (k+1):=by
 obtain⟨hi,hj,ea,eb⟩:=OC h hk;have hd:=mg hk;have eN:bB (dOf s) k=(dOf s)[k] :=jH hk;have gd:eY (AK s k) (dOf s)[k].a (dOf s)[k].b:= .inl (by unfold AK nQ;rw[sT hk];grind);have gd':eY (AK s k) (dOf s)[k].b (dOf s)[k].a:=gd.symm;have n1:=S.need h (by omega) hi hj (by grind);have n2:=S.need h (by omega) hj hi (by grind);rw[ea,eb]at n1 n2;have kd:kpR s (k+1)=if yS (AK s k) (dOf s)[k] =true then kpR s k++[(dOf s)[k]]else kpR s k:=by rw[<-eN];rfl
 by_cases hkeep:yS (AK s k) (dOf s)[k] =true
 .rw[if_pos hkeep]at kd;have eA:AK s (k+1)=AK s k:=by unfold AK nQ;rw[kd,sT hk];simp
  have eH:kpR s (k+1)++(dOf s).drop (k+1)=kpR s k++(dOf s).drop k:=by rw[kd,sT hk];simp
  have eG:=yN (s:=s) (k:=k) (by rw[n1,n2];unfold yS at hkeep;grind)
  refine⟨λi hi=>by rw[eG];exact S.fan i hi,λi hi=>by rw[eG];exact S.rng i hi,λi hi x=>by rw[eG,eA];exact S.mem i hi x,?_,?_⟩
  .rw[eG,kd,dR,S.kept]
   congr 1
   show [phi (vOf s) (aY (pG s) k)] =_;unfold phi;rw[ea,eb]
  .obtain⟨F,Fc,FQ⟩:=S.faceQ;have e1:nxK s (k+1)=nxK s k:=by unfold nxK;rw[eA]
   rw[e1];exact⟨F,Faces.congr Fc λe=>by unfold HK;rw[eH],FQ⟩
 .rw[if_neg hkeep]at kd;have hn:s9 (AK s k) (dOf s)[k].a (dOf s)[k].b=true/\s9 (AK s k) (dOf s)[k].b (dOf s)[k].a=true:=by unfold yS at hkeep;rw[Bool.or_eq_true,Cc,Cc,not_or,Bool.not_eq_false,Bool.not_eq_false]at hkeep;exact hkeep
  have eG:=Gh (s:=s) (k:=k) (by grind) (by grind);have hneV:=Aq h (pc (by omega) gd);have hij:(aY (pG s) k).1≠(aY (pG s) k).2:=λe=>hneV (by grind);have off:=aA7 h hk;have eA:AK s (k+1)=bQ s++(kpR s k++(dOf s).drop (k+1)):=by unfold AK nQ;rw[kd,kD]
  have eA0:∀e,e∈AK s k↔e∈AK s (k+1)\/e=(dOf s)[k] :=λe=>by rw[eA];unfold AK nQ;rw[sT hk];grind
  have sd:∀p x,eY (AK s (k+1)) p x↔eY (AK s k) p x/\¬((p=(dOf s)[k].a/\x=(dOf s)[k].b)\/(p=(dOf s)[k].b/\x=(dOf s)[k].a)):=λp x=>by
   unfold eY;rw[eA0,eA0];rw[<-eA]at off;constructor
   .intro g;refine⟨g.imp .inl .inl,?_⟩;rintro(⟨rfl,rfl⟩|⟨rfl,rfl⟩)
    .rcases g with g|g
     .grind
     .exact(off _ g).2 rfl
    .rcases g with g|g
     .exact(off _ g).2 rfl
     grind
   grind
  have lenG:=x5 s k;have at':∀c,af (sG s (k+1)).1 c=if c=(aY (pG s) k).1 then uc (af (sG s k).1 (aY (pG s) k).1) (aY (pG s) k).2 else if c=(aY (pG s) k).2 then uc (af (sG s k).1 (aY (pG s) k).2) (aY (pG s) k).1 else af (sG s k).1 c:=λc=>by
   rw[eG];unfold By;dsimp only;rw[uT];by_cases h1:c=(aY (pG s) k).1
   .grind
   .rw[if_neg λg=>h1 g.1,if_neg h1,uT];grind
  have sub':∀c,(af (sG s (k+1)).1 c).Sublist (af (sG s k).1 c):=λc=>by
   rw[at'];split
   .rename_i e;rw[e];exact List.filter_sublist
   .split
    .rename_i e;rw[e];exact List.filter_sublist
    grind
  have vin:∀{c m:Nat},c<(vOf s).length->m<(vOf s).length->∀x∈af (sG s k).1 c,(vtx (vOf s) x=aEv (vOf s) m↔x=(m:Int)):=λ{c m} hc hm x hx=>by obtain⟨t,rfl,ht⟩:=S.rng c hc x hx;unfold vtx;rw[jB];exact⟨λe=>by rw[pQ h ht hm e],λe=>by grind⟩
  have S':∀c,c<(vOf s).length->∀x,eY (AK s (k+1)) (aEv (vOf s) c) x↔x∈eZ (vOf s) (sG s (k+1)).1 c:=λc hc x=>by
   rw[sd,S.mem c hc,<-ea,<-eb];unfold eZ;rw[at'];by_cases h1:c=(aY (pG s) k).1
   .subst h1;rw[if_pos rfl];simp only[bR,JS];grind
   .rw[if_neg h1];by_cases h2:c=(aY (pG s) k).2
    .subst h2;rw[if_pos rfl];simp only[bR,JS];grind
    .rw[if_neg h2];constructor
     .grind
     .refine λg=>⟨g,?_⟩;rintro(⟨g,_⟩|⟨g,_⟩)
      .exact h1 (pQ h hc hi g)
      .exact h2 (pQ h hc hj g)
  refine⟨λc hc=>Fan.sub (S.fan c hc) ((sub' c).map _),λc hc x hx=>S.rng c hc x ((sub' c).subset hx),S',?_,?_⟩
  .rw[eG,kd];exact S.kept
  .obtain⟨F,Fc,TL,A3,PQ⟩:=S.faceQ;have hs:∀e,HK s k e->sides s (dOf s) e.a e.b:=λe he=>pc (by omega) (sV h (by omega) he);have inD:(dOf s)[k]∈kpR s k++(dOf s).drop k:=by rw[sT hk];exact fB _ bo
   have h1:HK s k ⟨(dOf s)[k].a,(dOf s)[k].b⟩:=by unfold HK jQ;exact fB _ (fT _ inD)
   have h2:HK s k ⟨(dOf s)[k].b,(dOf s)[k].a⟩:=by unfold HK jQ;refine fB _ (fB _ (kg.2 inD))
   have t1:=L4 h (by omega) S hi hd (by rw[ea];exact gd) (.inl (by rw[ea]));have t2:=L4 h (by omega) S hj hd (by rw[eb];exact gd') (.inr (by rw[eb]));rw[ea]at t1;rw[eb]at t2;obtain⟨F',Fc',FJ⟩:=aEH.dropR (nP h) (l:=oR (AK s k)) (l':=oR (AK s (k+1))) (L:=vT (vOf s) (sG s k).1) Fc (YS S) (λp x=>by rw[xV h (by omega),uV h (by omega) S]) hs
    (λe he=>(uV h (by omega) S _ _).1 (sV h (by omega) he).symm) (λp x=>by rw[xV h (by omega),sd,uV h (by omega) S]) h1 h2 t1 t2 (of_decide_eq_true hn.1) (of_decide_eq_true hn.2)
   refine⟨F',Faces.congr Fc' λe=> ?_,TL,A3,PQ.joined FJ⟩;unfold HK jQ;rw[kd,sT hk];simp only[bi,aj,kg];have o1:e∈iK s->e≠(dOf s)[k]/\e≠swp (dOf s)[k] :=λg=>by
    rcases((sJ (tgR h) e).1 g).1 with q|q
    .simp_all
    .have:=off _ (fT _ q);exact⟨λe'=>this.2 (by rw[e'];rfl),λe'=>this.1 (by rw[e'];rfl)⟩
   have o2:e∈kpR s k\/e∈(dOf s).drop (k+1)->e≠(dOf s)[k]/\e≠swp (dOf s)[k] :=λg=>off _ (fB _ (bi.2 g));have o3:swp e∈kpR s k\/swp e∈(dOf s).drop (k+1)->e≠(dOf s)[k]/\e≠swp (dOf s)[k] :=λg=>by have:=off _ (fB _ (bi.2 g));exact⟨λe'=>this.2 (by rw[e']),λe'=>this.1 (by rw[e'];rfl)⟩
   constructor
   .rintro⟨g|(g|g|g)|(g|g|g),q1,q2⟩
    .exact .inl g
    .grind
    .simp_all
    .grind
    .grind
    .exact absurd (show e=⟨(dOf s)[k].b,(dOf s)[k].a⟩ by rw[<-g];rfl) q2
    grind
   .rintro(g|(g|g)|(g|g))
    .exact⟨.inl g,o1 g⟩
    .exact⟨.inr (.inl (.inl g)),o2 (.inl g)⟩
    .exact⟨.inr (.inl (.inr (.inr g))),o2 (.inr g)⟩
    .exact⟨.inr (.inr (.inl g)),o3 (.inl g)⟩
    .exact⟨.inr (.inr (.inr (.inr g))),o3 (.inr g)⟩
end
end
section
section
variable {s:Shape}
def n9(h:bI s=true):∀k,k<=(dOf s).length->Stg s k
 |0,_=>Stg.start h
 |k+1,hk=>Stg.step h (by omega) (n9 h k (by omega))
def sok(h:bI s=true):SOk s:=λk hk=>by rw[qx]at hk;have S:=n9 h k (by omega);obtain⟨hi,hj,ea,eb⟩:=OC h hk;have gd:eY (AK s k) (dOf s)[k].a (dOf s)[k].b:= .inl (by unfold AK nQ;rw[sT hk];grind);refine⟨S.ar h hi hj (by grind),S.ar h hj hi (by rw[ea,eb];exact gd.symm),λe=> ?_⟩;exact Aq h (pc (by omega) gd) (by grind)
end
end
section
def AT(l:List Int)(a c:Nat)(x:Int):co (l.set a x) c=if c=a/\a<l.length then x else co l c:=by unfold co;grind
def Fq(n base m:Nat)(N:List Int):∀i,i<=m->∀c,¬(base<=c/\c<base+m)->co (rgN n base m i N) c=co N c
 |0,_,c,_=>rfl
 |i+1,hi,c,hc=>by
  have ih:=Fq n base m N i (by omega) c hc;have:=bw (i+1) (show 0<m by omega);unfold rgN;split
  .rw[AT,if_neg (by omega)];exact ih
  .rw[AT,if_neg (by omega)];exact ih
def MP(base m:Nat)(N:List Int)(hN:base+m<=N.length):∀i,i<=m->∀t,t<i->co (rgN 0 base m i N) (base+t)=((base+(t+1) % m:Nat):Int)
 |0,_,t,ht=>by omega
 |i+1,hi,t,ht=>by
  unfold rgN;rw[if_pos rfl,AT];by_cases e:t=i
  .subst e;rw[if_pos ⟨rfl,by rw[xg];omega⟩]
  .rw[if_neg (by omega)];exact MP base m N hN i (by omega) t (by omega)
def aAL{m t i:Nat}(h:t<i)(hi:i<m):(t+1) % m≠(i+1) % m:=by
 rw[dp (show t+1<m by omega)];by_cases e:i+1=m
 .simp_all
 .rw[dp (by omega)];omega
def Nv{n:Nat}(hn:n≠0)(base m:Nat)(N:List Int)(hN:base+m<=N.length):∀i,i<=m->∀t,t<i->co (rgN n base m i N) (base+(t+1) % m)=((base+t:Nat):Int)
 |0,_,t,ht=>by omega
 |i+1,hi,t,ht=>by
  have:=bw (i+1) (show 0<m by omega);unfold rgN;rw[if_neg hn,AT];by_cases e:t=i
  .subst e;rw[if_pos ⟨rfl,by rw[xg];omega⟩]
  .have:=aAL (m:=m) (show t<i by omega) (by omega);rw[if_neg (by omega)];exact Nv hn base m N hN i (by omega) t (by omega)
def Z8{R:List aE}{a b:Nat}(h:a<b)(hb:b<=R.length):bs R a+(aA R a).length<=bs R b:=by
 rw[qu (by omega)];obtain⟨d,rfl⟩:∃d,b=a+1+d:=⟨b-(a+1),by omega⟩;clear h hb;induction d with
 |zero=>grind
 |succ d ih=>
  refine cO ih ?_;unfold bs;rw[show a+1+(d+1)=a+1+d+1 by omega,rW,wJ,gi];omega
def PH{R:List aE}{N:List Int}(hN:R.flatten.length<=N.length):∀k,k<=R.length->∀a,a<k->∀t,t<(aA R a).length->
  (a=0->co (rsN R k N) (bs R a+t)=((bs R a+(t+1) % (aA R a).length:Nat):Int))/\(a≠0->co (rsN R k N) (bs R a+(t+1) % (aA R a).length)=((bs R a+t:Nat):Int))
 |0,_,a,ha,t,ht=>by omega
 |k+1,hk,a,ha,t,ht=>by
  have hl:bs R k+(aA R k).length<=(rsN R k N).length:=by rw[Fo];have h1:=qu (R:=R) (k:=k) (by omega);have h2:=vL R (k+1);omega
  have hm:=bw (t+1) (show 0<(aA R a).length by omega);unfold rsN;by_cases e:a=k
  .subst e;refine⟨λh0=> ?_,λh0=>Nv h0 _ _ _ hl _ (bX _) t ht⟩;subst h0;exact MP _ _ _ hl _ (bX _) t ht
  .have ih:=PH hN k (by omega) a (by omega) t ht;have hb:=Z8 (R:=R) (a:=a) (b:=k) (by omega) (by omega);exact⟨λh0=>by rw[Fq _ _ _ _ _ (bX _) _ (by omega)];exact ih.1 h0,λh0=>by rw[Fq _ _ _ _ _ (bX _) _ (by omega)];exact ih.2 h0⟩
def KR:∀(R:List aE) (i:Nat),i<R.flatten.length->∃k,k<R.length/\∃t,t<(aA R k).length/\i=bs R k+t
 |[],i,h=>by simp at h
 |r::R,i,h=>by
  by_cases h1:i<r.length
  .exact⟨0,by simp,i,h1,by show i=0+i;omega⟩
  .rw[mX,gi]at h;obtain⟨k,hk,t,ht,e⟩:=KR R (i-r.length) (by omega);refine⟨k+1,by grind,t,ht,?_⟩;have e2:bs (r::R) (k+1)=r.length+bs R k:=by unfold bs;rw[List.take_succ_cons,mX,gi]
   omega
section
variable {s:Shape}
def Bu(h:bI s=true){a t:Nat}(ha:a<(aD (aK s)).length)(ht:t<(aA (aD (aK s)) a).length):
  (a=0->co (nG s) (bs (aD (aK s)) a+t)=((bs (aD (aK s)) a+(t+1) % (aA (aD (aK s)) a).length:Nat):Int))/\(a≠0->co (nG s) (bs (aD (aK s)) a+(t+1) % (aA (aD (aK s)) a).length)=((bs (aD (aK s)) a+t:Nat):Int)):=
 PH (by rw[y7,nt h];omega) _ (bX _) a ha t ht
def TN(h:bI s=true){a:Nat}(ha:a<(aD (aK s)).length)(h0:a≠0):∃q∈s.holes,aA (aD (aK s)) a=c7 q:=by
 rw[pU h]at ha|-;obtain⟨b,rfl⟩:∃b,a=b+1:=⟨a-1,by omega⟩;have hb:b<(eP s).holes.length:=by unfold aD at ha;simpa using ha
 have hm:aA (eP s).holes b∈(eP s).holes:=iD hb;obtain⟨q,hq,e⟩:=bR.1 ((l0 _).mem_iff.1 hm);exact⟨q,hq,e.symm⟩
def Kt(h:bI s=true):aA (aD (aK s)) 0=c7 s.outer:=by rw[pU h];rfl
def Ol{r:aE}{e:S}(he:e∈aH r):∃t,t<r.length/\e=⟨aEv r t,aEv r ((t+1) % r.length)⟩:=by
 unfold aH at he;split at he
 .cases he
 .obtain⟨t,ht,rfl⟩:=bR.1 he;exact⟨t,cF.1 ht,rfl⟩
def Oc{r:aE}(h2:2<=r.length){t:Nat}(ht:t<r.length):(⟨aEv r t,aEv r ((t+1) % r.length)⟩:S)∈aH r:=by unfold aH;rw[if_neg (by omega)];exact bR.2 ⟨t,cF.2 ht,rfl⟩
def Gm(h:bI s=true){i:Nat}(hi:i<(vOf s).length):∃j:Nat,co (nG s) i=j/\j<(vOf s).length/\(⟨aEv (vOf s) i,aEv (vOf s) j⟩:S)∈iK s:=by
 have hi2:=hi;rw[nt h]at hi2;obtain⟨k,hk,t,ht,e⟩:=KR _ i hi2;have h2:=AR h _ (iD hk);have hl:bs (aD (aK s)) k+(aA (aD (aK s)) k).length<=(vOf s).length:=by have h1:=qu hk;have h3:=vL (aD (aK s)) (k+1);rw[nt h];omega
 have fl:∀u,u<(aA (aD (aK s)) k).length->aEv (vOf s) (bs (aD (aK s)) k+u)=aEv (aA (aD (aK s)) k) u:=λu hu=>by rw[nt h];exact xU _ k u hk hu
 have hm:∀u,u % (aA (aD (aK s)) k).length<(aA (aD (aK s)) k).length:=λu=>bw _ (by omega);by_cases h0:k=0
 .refine⟨_,by rw[e];exact(Bu h hk ht).1 h0,by have:=hm (t+1);omega,?_⟩;rw[e,fl t ht,fl _ (hm _)];have g:=Oc h2 ht;unfold iK;refine fT _ ((rZ s.outer _).1 ?_);subst h0;rw[Kt h]at g|-;exact g
 .have ht0:=hm (t+(aA (aD (aK s)) k).length-1);have et:((t+(aA (aD (aK s)) k).length-1) % (aA (aD (aK s)) k).length+1) % (aA (aD (aK s)) k).length=t:=by rw[kX,show t+(aA (aD (aK s)) k).length-1+1=t+(aA (aD (aK s)) k).length by omega,oj,dp ht]
  have g:=(Bu h hk ht0).2 h0;have g2:=Oc h2 ht0;rw[et]at g g2;refine⟨_,by rw[e];exact g,by omega,?_⟩;rw[e,fl t ht,fl _ ht0];obtain⟨q,hq,eq⟩:=TN h hk h0;unfold iK;refine fB _ (kg.2 (cQ.2 ⟨q,hq,(rZ q _).1 ?_⟩));rw[<-eq];exact g2
end
end
section
section
variable {s:Shape}
def aAJ(h:bI s=true){e:aEx}(he:e∈iK s):∃i j:Nat,i<(vOf s).length/\co (nG s) i=j/\e=⟨aEv (vOf s) i,aEv (vOf s) j⟩:=by
 have fl:∀{k:Nat},k<(aD (aK s)).length->∀u,u<(aA (aD (aK s)) k).length->aEv (vOf s) (bs (aD (aK s)) k+u)=aEv (aA (aD (aK s)) k) u:=λ{k} hk u hu=>by rw[nt h];exact xU _ k u hk hu
 have hl:∀{k:Nat},k<(aD (aK s)).length->bs (aD (aK s)) k+(aA (aD (aK s)) k).length<=(vOf s).length:=λ{k} hk=>by have h1:=qu hk;have h3:=vL (aD (aK s)) (k+1);rw[nt h];omega
 unfold iK at he;rcases bi.1 he with he|he
 .have he2:=(rZ s.outer e).2 he;rw[<-Kt h]at he2;obtain⟨t,ht,e1⟩:=Ol he2;have hk:0<(aD (aK s)).length:=by unfold aD;simp
  have hm:=bw (t+1) (show 0<(aA (aD (aK s)) 0).length by omega);refine⟨bs (aD (aK s)) 0+t,_,by grind,(Bu h hk ht).1 rfl,?_⟩;grind
 .rw[kg]at he;obtain⟨q,hq,heq⟩:=cQ.1 he;have hb:c7 q∈(eP s).holes:=(l0 _).mem_iff.2 (bR.2 ⟨q,hq,rfl⟩);obtain⟨a,ha,ea⟩:∃a,a<(eP s).holes.length/\aA (eP s).holes a=c7 q:=by obtain⟨a,ha,e⟩:=io.1 hb;exact⟨a,ha,by rw[lF ha];exact e⟩
  have hk:a+1<(aD (aK s)).length:=by rw[pU h];unfold aD;rw[gu];omega
  have er:aA (aD (aK s)) (a+1)=c7 q:=by rw[pU h];exact ea
  have he2:=(rZ q _).2 heq;rw[<-er]at he2;obtain⟨t,ht,e1⟩:=Ol he2;have hm:=bw (t+1) (show 0<(aA (aD (aK s)) (a+1)).length by omega);refine⟨bs (aD (aK s)) (a+1)+(t+1) % (aA (aD (aK s)) (a+1)).length,_,by grind,(Bu h hk ht).2 (by omega),?_⟩;rw[fl hk t ht,fl hk _ hm];have e2:e=swp (swp e):=rfl;rw[e2,e1];rfl
def HL(s:Shape):aEx->Prop:=HK s (dOf s).length
def Po{e:aEx}:HL s e↔e∈iK s\/e∈kpR s (dOf s).length\/swp e∈kpR s (dOf s).length:=by unfold HL HK jQ;rw[List.drop_length,List.append_nil,bi,bi,kg]
def Yx(h:bI s=true):(spG s).map (phi (vOf s))=kpR s (dOf s).length:=by have S:=(n9 h _ (bX _)).kept;unfold spG;rw[qx];exact S
def xm(h:bI s=true){e:aEx}:e∈(hsG s).map (phi (vOf s))↔HL s e:=by
 rw[Po];unfold hsG;rw[dR,bi];refine or_congr ?_ ?_
 .unfold nxP;rw[di];constructor
  .intro g;obtain⟨i,hi,rfl⟩:=bR.1 g;have hi:=cF.1 hi;obtain⟨j,ej,hj,he⟩:=Gm h hi;show phi (vOf s) (i,(co (nG s) i).toNat)∈_;rw[ej,jB];exact he
  .intro g;obtain⟨i,j,hi,ej,e1⟩:=aAJ h g;refine bR.2 ⟨i,cF.2 hi,?_⟩;show phi (vOf s) (i,(co (nG s) i).toNat)=e;rw[ej,jB,e1];rfl
 .rw[<-Yx h,bR,bR,bR];constructor
  .rintro⟨p,hp,rfl⟩;obtain⟨q,hq,hpq⟩:=cQ.1 hp;unfold ic at hpq;rcases aj.1 hpq with e1|hpq
   .grind
   .rw[bZ.1 hpq];exact .inr ⟨q,hq,rfl⟩
  .rintro(⟨p,hp,rfl⟩|⟨p,hp,e1⟩)
   .exact⟨p,cQ.2 ⟨p,hp,bo⟩,rfl⟩
   .refine⟨(p.2,p.1),cQ.2 ⟨p,hp,bk _ bo⟩,?_⟩;have:e=swp (phi (vOf s) p):=by rw[e1];rfl
    rw[this];rfl
end
end
section
def MU:∀(a:V) (l:List V),cN a l=(bV l.length).map λi=>(⟨aEv (a::l) i,aEv (a::l) (i+1)⟩:aEx)
 |a,[] =>rfl
 |a,x::l=>by
  have ih:=MU x l;show(⟨a,x⟩:aEx)::cN x l=_;rw[ih,gu,List.range_succ_eq_map,cv,di];rfl
def Ot{r:List V}(h:0<r.length):cyc r=(bV r.length).map λi=>(⟨aEv r i,aEv r ((i+1) % r.length)⟩:aEx):=by
 cases r with
 |nil=>simp at h
 |cons a l=>
  show cN a (l++[a])=_;rw[MU,gi,vl,gu];refine lk λi hi=> ?_;have hi:=cF.1 hi;have e1:aEv (a::(l++[a])) i=aEv (a::l) i:=EE (a:=a::l) (b:=[a]) (by omega);rw[e1];by_cases h2:i+1<l.length+1
  .have e2:aEv (a::(l++[a])) (i+1)=aEv (a::l) (i+1):=EE (a:=a::l) (b:=[a]) (by omega);rw[e2,dp h2]
  .have e3:i+1=l.length+1:=by omega
   have e2:aEv (a::(l++[a])) ((a::l).length+0)=aEv [a] 0:=K6 (a:=a::l) (b:=[a]) 0;rw[e3,kV];rw[show l.length+1=(a::l).length+0 from rfl,e2];rfl
def UY{r:List V}(hn:r.Nodup){k:Nat}(hk:k<r.length):u7 r k=fS r (aEv r k):=by
 have c:=Ot (r:=r) (by omega);have m1:(⟨aEv r ((k+r.length-1) % r.length),aEv r k⟩:aEx)∈cyc r:=by rw[c];refine bR.2 ⟨(k+r.length-1) % r.length,cF.2 (bw _ (by omega)),?_⟩;rw[kX,show k+r.length-1+1=k+r.length by omega,oj,dp hk]
 have m2:(⟨aEv r k,aEv r ((k+1) % r.length)⟩:aEx)∈cyc r:=by rw[c];exact bR.2 ⟨k,cF.2 hk,rfl⟩
 rw[fg,sL];unfold u7;rw[decide_eq_true_eq];constructor
 .grind
 .rintro⟨a,b,ha,hb,h⟩;have e2:=A6 hn hb m2 rfl;have e1:a=aEv r ((k+r.length-1) % r.length):=by
   rw[c]at ha;obtain⟨t,ht,e⟩:=bR.1 ha;have ht:=cF.1 ht;have ea:aEv r t=a:=congrArg aEx.a e;have eb:aEv r ((t+1) % r.length)=aEv r k:=congrArg aEx.b e;have:=mA hn (bw _ (by omega)) hk eb;rw[<-ea,<-this];by_cases h3:t+1<r.length
   .rw[dp h3,show t+1+r.length-1=t+r.length by omega,oj,dp ht]
   .rw[show t+1=r.length by omega,kV,jo,dp (by omega),show t=r.length-1 by omega]
  grind
def JP{r:List V}(hn:r.Nodup):∀k,k<=r.length->gE r k=(r.take k).filter (fS r)
 |0,_=>rfl
 |k+1,h=>by
  have hk:k<r.length:=by omega
  rw[w9,JP hn k (by omega),kw hk,qQ,UY hn hk,nth_eq hk];grind
def wV{r:List V}(hn:r.Nodup):dQ r=r.filter (fS r):=by unfold dQ;rw[JP hn _ (bX _),tg]
def gC(r:List V):List V:=c7 (dQ r)
def Zr{r:List V}(hn:r.Nodup){k l:List V}(e:r=k++l):gC (l++k)=gC r:=by subst e;have hn2:(l++k).Nodup:=List.perm_append_comm.nodup_iff.1 hn;unfold gC;rw[wV hn,wV hn2];exact Wq hn
section
variable {s:Shape}
def x4(s:Shape):soG s=(sG s (dOf s).length).1:=by unfold soG;rw[qx]
def He(h:bI s=true):∀p∈hsG s,p.1<(vOf s).length/\p.2<(vOf s).length:=λp hp=>by
 unfold hsG at hp;rcases bi.1 hp with hp|hp
 .unfold nxP at hp;obtain⟨i,hi,rfl⟩:=bR.1 hp;have hi:=cF.1 hi;obtain⟨j,ej,hj,_⟩:=Gm h hi;omega
 .obtain⟨q,hq,hpq⟩:=cQ.1 hp;have hq2:q∈pG s:=Nj _ _ _ _ (bX _) q hq;have:=HU (by rw[jW];exact h) hq2;unfold ic at hpq;grind
def F9(h:bI s=true){p:Nat×Nat}(hp:p∈hsG s):eY (AK s (dOf s).length) (aEv (vOf s) p.1) (aEv (vOf s) p.2):=
 sV h (bX _) ((xm h).1 (bR.2 ⟨p,hp,rfl⟩))
def pc1(h:bI s=true)(i j:Nat)(hm:(j:Int)∈af (soG s) i):ArOk (vOf s) (soG s) i j/\ArOk (vOf s) (soG s) j i:=by
 have S:=n9 h _ (bX _);rw[x4]at hm|-;have hi:i<(vOf s).length:=by
  by_cases hi:i<(vOf s).length
  .exact hi
  .have:af (sG s (dOf s).length).1 i=[] :=by unfold af;rw[dw,List.getElem?_eq_none (by rw[x5];omega)];rfl
   grind
 obtain⟨m,e,hm2⟩:=S.rng i hi _ hm;have hj:j<(vOf s).length:=by have:=Int.ofNat.inj e;omega
 have g:eY (AK s (dOf s).length) (aEv (vOf s) i) (aEv (vOf s) j):=(S.mem i hi _).2 (bR.2 ⟨_,hm,by unfold vtx;grind⟩);exact⟨S.ar h hi hj g,S.ar h hj hi g.symm⟩
def pc2(h:bI s=true):∀p∈hsG s,ArOk (vOf s) (soG s) p.2 p.1:=λp hp=>by have S:=n9 h _ (bX _);obtain⟨h1,h2⟩:=He h p hp;rw[x4];exact S.ar h h2 h1 (F9 h hp).symm
def pc3(h:bI s=true):∀i,i<(vOf s).length->0<=co (nG s) i:=λi hi=>by obtain⟨j,ej,_,_⟩:=Gm h hi;omega
def ZL(h:bI s=true){p q:Nat×Nat}(hp:p.1<(vOf s).length/\p.2<(vOf s).length)(hq:q.1<(vOf s).length/\q.2<(vOf s).length)(e:phi (vOf s) p=phi (vOf s) q):p=q:=
 Prod.ext (pQ h hp.1 hq.1 (congrArg aEx.a e)) (pQ h hp.2 hq.2 (congrArg aEx.b e))
def Fe(h:bI s=true):∀(f:Nat) (U:List (Nat×Nat)) (p:Nat×Nat) (r:List V),(∀q∈U,q.1<(vOf s).length/\q.2<(vOf s).length)->p.1<(vOf s).length->p.2<(vOf s).length->
  eY (AK s (dOf s).length) (aEv (vOf s) p.1) (aEv (vOf s) p.2)->
  tr (nxK s (dOf s).length) f (U.map (phi (vOf s))) (phi (vOf s) p) r=((trc (vOf s) (soG s) f U p r).1.map (phi (vOf s)),(trc (vOf s) (soG s) f U p r).2)/\∀q∈(trc (vOf s) (soG s) f U p r).1,q.1<(vOf s).length/\q.2<(vOf s).length
 |0,U,p,r,hU,_,_,_=>⟨rfl,hU⟩
 |f+1,U,p,r,hU,h1,h2,hs=>by
  have S:=n9 h _ (bX _);have hin:phi (vOf s) p∈U.map (phi (vOf s))↔p∈U:=by
   constructor
   .intro g;obtain⟨q,hq,e⟩:=bR.1 g;rw[<-ZL h (hU q hq) ⟨h1,h2⟩ e];exact hq
   .grind
  by_cases hp:p∈U
  .rw[PA hp,Bk (hin.2 hp)];grind
  .rw[NW hp,GV λg=>hp (hin.1 g)];have A:=S.ar h h2 h1 hs.symm;have ar:=A.around (-1);obtain⟨ar1,ar2⟩:=ar;have e1:nxK s (dOf s).length (phi (vOf s) p)=aEv (vOf s) (iM (soG s) p.2 p.1 (-1)):=by rw[x4];exact(Jp (S.fan _ h2) (λx=>(xV h (bX _)).trans (S.mem _ h2 x)) A.mem).symm
   have e2:(⟨(phi (vOf s) p).b,nxK s (dOf s).length (phi (vOf s) p)⟩:aEx)=phi (vOf s) (nxH (soG s) p):=by rw[e1];rfl
   have hU2:∀q∈U++[p],q.1<(vOf s).length/\q.2<(vOf s).length:=λq hq=>by grind
   have hs2:eY (AK s (dOf s).length) (aEv (vOf s) (nxH (soG s) p).1) (aEv (vOf s) (nxH (soG s) p).2):=by rw[x4];refine(S.mem _ h2 _).2 (bR.2 ⟨_,ar1,?_⟩);unfold vtx;rw[jB];rfl
   have ih:=Fe h f (U++[p]) (nxH (soG s) p) (r++[aEv (vOf s) p.1]) hU2 h2 (by rw[x4];exact ar2) hs2;rw[dR]at ih;rw[e2];exact ih
end
end
section
section
variable {s:Shape}
def Ld(h:bI s=true){F:List (List V)}(Fc:aEH (nxK s (dOf s).length) (HL s) F){r:List V}(hr:r∈F):∀e∈cyc r,sides s (dOf s) e.a e.b:=λe he=>
 pc (bX _) (sV h (bX _) ((Fc.all e).1 (cQ.2 ⟨r,hr,he⟩)))
def M5(h:bI s=true){F:List (List V)}(Fc:aEH (nxK s (dOf s).length) (HL s) F){r:List V}(hr:r∈F):r.length<=(vOf s).length:=by
 have c:=Fc.cx r hr;have hv:∀u∈r,u∈vOf s:=λu hu=>by
  have hu2:u∈(cyc r).map S.a:=by rw[sK];exact hu
  obtain⟨e,he,rfl⟩:=bR.1 hu2;exact Lv h (Ld h Fc hr e he)
 have hn:(r.map (ct (vOf s))).Nodup:=by unfold o9;rw[i8];refine Cd (λ{a b} ha hb hne e=>hne ?_) c.nodup;have e1:=qm (hv a ha);rw[e,qm (hv b hb)]at e1;exact e1.symm
 have:=AU (vOf s).length _ hn λx hx=>by obtain⟨u,hu,rfl⟩:=bR.1 hx;exact mB (hv u hu)
 grind
def EX(h:bI s=true){F:List (List V)}(Fc:aEH (nxK s (dOf s).length) (HL s) F):∀r∈F,r.length<=trU (vOf s):=λr hr=>by have h1:=M5 h Fc hr;have h2:=(Fc.cx r hr).three;unfold trU;have:(vOf s).length*1<=(vOf s).length*(vOf s).length:=Nat.mul_le_mul_left _ (by omega);omega
def Wb{F:List (List V)}(Fc:aEH (nxK s (dOf s).length) (HL s) F):∀r∈F,∀k l,r=k++l->gC (l++k)=gC r:=λr hr _ _ e=>Zr (Fc.cx r hr).nodup e
def E2(h:bI s=true):∀k,k<=(hsG s).length->nM (nxK s (dOf s).length) (trU (vOf s)) gC (((hsG s).take k).map (phi (vOf s))) ([],[])=((pcK s k).1.map (phi (vOf s)),(pcK s k).2)/\∀q∈(pcK s k).1,q.1<(vOf s).length/\q.2<(vOf s).length
 |0,_=>⟨rfl,λq hq=>(cG hq).elim⟩
 |k+1,hk=>by
  obtain⟨ih,hr⟩:=E2 h k (by omega);have hkl:k<(hsG s).length:=by omega
  have hm:(hsG s)[k]∈hsG s:=mg hkl;obtain⟨l1,l2⟩:=He h _ hm;obtain⟨sim,hr2⟩:=Fe h (trU (vOf s)) (pcK s k).1 (hsG s)[k] [] hr l1 l2 (F9 h hm);rw[kw hkl,dR,List.map_singleton,Jb,ih];dsimp only;rw[sim,uR,oA hkl];exact⟨rfl,hr2⟩
def XN(h:bI s=true){F:List (List V)}(Fc:aEH (nxK s (dOf s).length) (HL s) F){k:Nat}(hk:k<(hsG s).length)(h0:0<(trc (vOf s) (soG s) (trU (vOf s)) (pcK s k).1 (aY (hsG s) k) []).2.length):
  ∃r∈F,∃a b,r=a++b/\(trc (vOf s) (soG s) (trU (vOf s)) (pcK s k).1 (aY (hsG s) k) []).2=b++a:=by
 obtain⟨ih,hr⟩:=E2 h k (by omega);have hm:(hsG s)[k]∈hsG s:=mg hk;obtain⟨l1,l2⟩:=He h _ hm;obtain⟨sim,_⟩:=Fe h (trU (vOf s)) (pcK s k).1 (hsG s)[k] [] hr l1 l2 (F9 h hm);have I:=MY Fc (EX h Fc) (g:=gC) (((hsG s).take k).map (phi (vOf s))) ([],[]) (tR.nil F) λe he=>by obtain⟨p,hp,rfl⟩:=bR.1 he;exact(xm h).1 (bR.2 ⟨p,List.mem_of_mem_take hp,rfl⟩)
 rw[ih]at I;rw[oA hk]at h0|-;rcases NY Fc (EX h Fc) I (e:=phi (vOf s) (hsG s)[k]) ((xm h).1 (bR.2 ⟨_,hm,rfl⟩))with t|⟨r,hrF,a,b,e,t,_⟩
 .grind
 grind
def R3(h:bI s=true):qM s:=by
 refine⟨pc1 h,pc2 h,pc3 h,λk hk h0=> ?_⟩;obtain⟨F,Fc⟩:=(n9 h _ (bX _)).face;obtain⟨r,hr,a,b,e,et⟩:=XN h Fc hk h0;have c:=Fc.cx r hr;have hl:=M5 h Fc hr;have hv:=pf s;have c2:CX (b++a):=by rw[e]at c;exact c.swap
 have hp:(cyc (b++a)).Perm (cyc r):=by rw[e];exact kG a b
 rw[et];refine⟨?_,?_⟩
 .grind
 .rw[wV c2.nodup];exact List.length_pos_iff.2 (c2.corner (nP h) λq hq=>Ld h Fc hr q (hp.mem_iff.1 hq))
def E3(h:bI s=true){F:List (List V)}(Fc:aEH (nxK s (dOf s).length) (HL s) F):(pcK s (hsG s).length).2.Perm (F.map gC):=by have g:=EC Fc (EX h Fc) (Wb Fc) ((hsG s).map (phi (vOf s))) ([],[]) [] F (λe he=>(xm h).1 he) (.refl _) (λe=>by simp) (.refl _) λr hr e he=>(xm h).2 ((Fc.all e).1 (cQ.2 ⟨r,hr,he⟩));have e:=(E2 h (hsG s).length (bX _)).1;grind
end
end
def wn{r:aE}(hn:r.Nodup):(aH r).Nodup:=by
 by_cases h2:r.length<2
 .unfold aH;grind
 .rw[<-Lg (r:=r) (by omega)]at hn;exact Cg (λ{a b} hne (e:a=b)=>hne (by rw[e])) (i8.1 hn)
section
section
variable {s:Shape}
end
end
section
section
variable {s:Shape} {u:V}
end
end
section
section
variable {s:Shape}
def xh(h:bI s=true):(pcG s).Perm (pcK s (hsG s).length).2:=by unfold pcG;rw[jW,if_pos h];exact zW _
def WB(h:bI s=true):(pcG s).Pairwise λa b=>dA a b<0:=by
 obtain⟨F,Fc⟩:=(n9 h _ (bX _)).face;have hg:F.map gC=F.map lV:=lk λr hr=>by unfold gC;rw[wV (Fc.cx r hr).nodup];rfl
 have hn:(pcG s).Nodup:=by rw[(xh h).nodup_iff,(E3 h Fc).nodup_iff,hg];exact Fc.corners (nP h) λe he=>pc (bX _) (sV h (bX _) he)
 have hs:(pcG s).Pairwise ia:=by unfold pcG;rw[jW,if_pos h];exact I4 _ [] tT
 refine(List.Pairwise.and hs hn).imp λ{a b} ⟨h1,h2⟩=> ?_;have:dA a b≠0:=λe=>h2 (wX _ _ e);unfold ia at h1;omega
def aAC(h:bI s=true):(pcG s).length<=100000:=by
 rw[(xh h).length_eq];have h1:=Fw s (hsG s).length;have h2:=BG (vOf s) (pG s) (oG s) (pG s).length;have h3:=Zy s;have h4:(vOf s).length<=80:=by rw[sO h];exact Ek (vsR h)
 have h0:=Og s;rw[qx]at h2;have h5:(spG s).length<=(dOf s).length:=by unfold spG sG;rw[qx];exact h2
 omega
def aAB(h:bI s=true):∀r∈pcG s,r.length<=1000:=λr hr=>
 Fv (R3 h) _ (bX _) r ((xh h).mem_iff.1 hr)
def ZM(h:bI s=true):∀r∈pcG s,∀v∈r,v∈bz s:=λr hr v hv=>by obtain⟨F,Fc⟩:=(n9 h _ (bX _)).face;obtain⟨q,hq,rfl⟩:=bR.1 ((E3 h Fc).mem_iff.1 ((xh h).mem_iff.1 hr));unfold gC at hv;rw[(uF _).mem_iff]at hv;have hv:=Ec q _ (bX _) v hv;rw[<-sK q]at hv;obtain⟨e,he,rfl⟩:=bR.1 hv;exact(nP h).mem (pc (bX _) (sV h (bX _) ((Fc.all e).1 (cQ.2 ⟨q,hq,he⟩))))
end
end
def WC{s:Shape}(h:bI s=true){q:Pt}(hq:c6 q=true)(hd:0<q.den):((∃r∈pcG s,LW r (p3 q))↔eL s q≠0)/\
  ∀r∈pcG s,LS r (p3 q)->eL s q=2/\∀r'∈pcG s,LW r' (p3 q)->r'=r:=by
 obtain⟨F,Fc,TL,A,P⟩:=(n9 h _ (bX _)).faceQ;have T:=tgR h;have N:=nP h;have hs:∀r∈F,∀e∈cyc r,sides s (dOf s) e.a e.b:=λr hr e he=>pc (bX _) (sV h (bX _) ((Fc.all e).1 (cQ.2 ⟨r,hr,he⟩)));have hm:∀r,r∈pcG s↔∃f∈F,lV f=r:=λr=>by
  have hg:F.map gC=F.map lV:=lk λr hr=>by unfold gC;rw[wV (Fc.cx r hr).nodup];rfl
  rw[(xh h).mem_iff,(E3 h Fc).mem_iff,hg,bR]
 have w:∀f∈F,LW (lV f) (p3 q)↔LW f (p3 q):=λf hf=>(Fc.cx f hf).corners N (hs f hf) false _;have st:∀f∈F,LS (lV f) (p3 q)↔LS f (p3 q):=λf hf=>(Fc.cx f hf).corners N (hs f hf) true _;refine⟨?_,λr hr hr2=> ?_⟩
 .rw[<-KT T hq hd A P Fc.cx];constructor
  .rintro⟨r,hr,g⟩;obtain⟨f,hf,rfl⟩:=(hm r).1 hr;exact⟨f,hf,(w f hf).1 g⟩
  .rintro⟨f,hf,g⟩;exact⟨_,(hm _).2 ⟨f,hf,rfl⟩,(w f hf).2 g⟩
 .obtain⟨f,hf,rfl⟩:=(hm r).1 hr;have he:∀e∈bQ s,∃r∈F,e∈cyc r\/swp e∈cyc r:=λe hem=>by
   have hd:e∈iK s\/swp e∈iK s:=by unfold iK;rw[xN,bi]at hem;rw[bi,bi,kg,kg,show swp (swp e)=e from rfl];grind
   have up:∀{d:S},d∈iK s->∃r∈F,d∈cyc r:=λ{d} g=>cQ.1 ((Fc.all d).2 (Po.2 (.inl g)));rcases hd with g|g
   .obtain⟨r,hr,k⟩:=up g;exact⟨r,hr,.inl k⟩
   .obtain⟨r,hr,k⟩:=up g;exact⟨r,hr,.inr k⟩
  obtain⟨g1,g2⟩:=Zs T hq hd A P Fc.cx he hf ((st f hf).1 hr2);refine⟨g1,λr' hr' k=> ?_⟩;obtain⟨f',hf',rfl⟩:=(hm r').1 hr';rw[g2 f' hf' ((w f' hf').1 k)]
section
noncomputable def tLM:=((((((u8.adk R7).adk k91).adk k35).adk k58).adk k16).adk k48).adk k41
noncomputable def c47:Con:=con (a1 aSh) (λs=>[mN s]) (λs=> .bool (jM s&&bI s))
def k47:c47.Okz 47:=bJ tLM (λ_=>[]
  ) (λ_=>⟨_,rfl⟩) λs hp=>az (mN s/\(jM s=true->Fit s/\bI s=(jM s&&bI s))/\
 (jM s=false->false=(jM s&&bI s))) (by kernel_rfl) (by change mN s at hp;exact⟨hp,λh=>⟨M3 hp h,by rw[h];rfl⟩,λh=>by rw[h];rfl⟩)
section
variable {s:Shape}
end
end
noncomputable def tLI:=u8.adk k70
def lst(r:List V)(p:V):Nat->Int
 |0=>1
 |i+1=>min (lst r p i) (turn (aEv r i) (aEv r ((i+1) % r.length)) p)
def inB(p:V)(r:List V):Bool:=decide (0<=lst r p r.length)
def stB(p:V)(r:List V):Bool:=decide (0<lst r p r.length)
def fL(l:List aE)(p:V)(k:Nat):Nat:=(l.take k).countP (inB p)
def gU(l:List aE)(p:V)(k:Nat):Nat:=(l.take k).countP (stB p)
noncomputable def c49:Con:=con (ac (aL .R) (a1 aV)) (λ(l,p)=>[l.length<=1000000,(∀r∈l,r.length<=100000),(∀r∈l,∀v∈r,bd 1000000000 v),bd 1000000000 p]) (λ(l,p)=> .tup [.iqz (fL l p l.length:Nat),.iqz (gU l p l.length:Nat)])
def k49:c49.Okz 49:=bJ tLI (λ(l,p)=>[lp 3 14 l.length bh [] (λk=>[(6,.iqz (fL l p k:Nat)),(7,.iqz (gU l p k:Nat))]) bh (λi=>[lp 7 20 (aA l i).length bh [] (λk=>[(10,.iqz (lst (aA l i) p k))]) bh,jU 13 [(6,.iqz (fL l p (i+1):Nat))],jU 15 [(6,.iqz (fL l p (i+1):Nat)),(7,.iqz (gU l p (i+1):Nat))]])]
  ) (λ(_,_)=>⟨_,rfl⟩) λ(l,p) hp=>az ((0=(0:Int)/\0=(fL l p 0:Int)/\0=(gU l p 0:Int)/\(0:Nat)<=l.length)/\
 (∀x:Nat,x<=l.length->((x:Int)<l.length->(ix (x:Int) l.length/\(0=(0:Int)/\1=lst (aA l x) p 0/\(0:Nat)<=(aA l x).length)/\
    (∀x_1:Nat,x_1<=(aA l x).length->((x_1:Int)<(aA l x).length->ix (x_1:Int) (aA l x).length/\aJ ((x_1:Int)+1)/\((aA l x).length:Int)≠0/\ix (((x_1+1) % (aA l x).length:Nat):Int) (aA l x).length/\bd 1000000000 (aEv (aA l x) x_1)/\bd 1000000000 (aEv (aA l x) ((x_1+1) % (aA l x).length))/\bd 1000000000 p/\aJ ((x_1:Int)+1)/\(x_1:Int)+1=((x_1+1:Nat):Int)/\Min.min (lst (aA l x) p x_1) (turn (aEv (aA l x) x_1) (aEv (aA l x) ((x_1+1) % (aA l x).length)) p)=lst (aA l x) p (x_1+1)/\x_1+1<=(aA l x).length/\(aA l x).length-(x_1+1)<(aA l x).length-x_1)/\
     (¬(x_1:Int)<(aA l x).length->((0<=lst (aA l x) p x_1->aJ ((fL l p x:Int)+1)/\(fL l p x:Int)+1=fL l p (x+1))/\
       (¬0<=lst (aA l x) p x_1->(fL l p x:Int)=fL l p (x+1)))/\
      (∀y:Unit,(0<lst (aA l x) p x_1->aJ ((gU l p x:Int)+1)/\(fL l p (x+1):Int)=fL l p (x+1)/\(gU l p x:Int)+1=gU l p (x+1))/\
       (¬0<lst (aA l x) p x_1->(fL l p (x+1):Int)=fL l p (x+1)/\(gU l p x:Int)=gU l p (x+1))))))/\
   (∀y:Unit,aJ ((x:Int)+1)/\(x:Int)+1=((x+1:Nat):Int)/\(fL l p (x+1):Int)=fL l p (x+1)/\(gU l p (x+1):Int)=gU l p (x+1)/\x+1<=l.length/\l.length-(x+1)<l.length-x))/\
  (¬(x:Int)<l.length->(fL l p x:Int)=fL l p l.length/\(gU l p x:Int)=gU l p l.length))) (by kernel_rfl) (by
  change l.length<=1000000/\((∀r∈l,r.length<=100000))/\((∀r∈l,∀v∈r,bd 1000000000 v))/\bd 1000000000 p at hp;obtain⟨h1,h2,h3,h4⟩:=hp;have tk:∀(f:aE->Bool) (x:Nat),(x:Int)<l.length->(l.take (x+1)).countP f=(l.take x).countP f+if f (aA l x)=true then 1 else 0:=λf x hx=>by rw[kw (show x<l.length by omega),List.countP_append,lF (show x<l.length by omega),List.countP_singleton]
  have le:∀(f:aE->Bool) (x:Nat),(l.take x).countP f<=l.length:=λf x=>cO List.countP_le_length (List.length_take_le' ..);have i1:∀x:Nat,aJ ((fL l p x:Int)+1):=λx=>bW (by have:=le (inB p) x;unfold fL;omega);have i2:∀x:Nat,aJ ((gU l p x:Int)+1):=λx=>bW (by have:=le (stB p) x;unfold gU;omega);have hr:∀x:Nat,(x:Int)<l.length->aA l x∈l:=λx hx=>iD (by omega);refine⟨⟨rfl,rfl,rfl,jS _⟩,λx hx=>⟨λk1=>⟨⟨eW (by omega),⟨rfl,rfl,jS _⟩,λy hy=>⟨λk2=> ?_,λk2=> ?_⟩⟩,λ_=>⟨bW (by omega),by omega,rfl,rfl,by omega,by omega⟩⟩,λk=> ?_⟩⟩
  .have m:=hr x k1;have b:=h3 _ m;have n:=h2 _ m;have c1:y<(aA l x).length:=by omega
   have c2:(y+1) % (aA l x).length<(aA l x).length:=bw _ (by omega);exact⟨eW c1,bW (by omega),by omega,eW c2,b _ (eC c1),b _ (eC c2),h4,bW (by omega),by omega,rfl,by omega,by omega⟩
  .have e:y=(aA l x).length:=by omega
   subst e;refine⟨⟨λg=>⟨i1 x,?_⟩,λg=> ?_⟩,λ_=>⟨λg=>⟨i2 x,rfl,?_⟩,λg=>⟨rfl,?_⟩⟩⟩
   .unfold fL;rw[tk _ x k1,if_pos (show inB p (aA l x)=true from decide_eq_true g)];omega
   .unfold fL;rw[tk _ x k1,if_neg (show¬inB p (aA l x)=true from λh=>g (of_decide_eq_true h))];omega
   .unfold gU;rw[tk _ x k1,if_pos (show stB p (aA l x)=true from decide_eq_true g)];omega
   .unfold gU;rw[tk _ x k1,if_neg (show¬stB p (aA l x)=true from λh=>g (of_decide_eq_true h))];omega
  .rw[show x=l.length by omega];exact⟨rfl,rfl⟩)
noncomputable def tLW:=((u8.adk SD).adk k35).adk k73
def whV(s:Shape)(p:V):Int:=if ao p 8000=true then eL s (fD p)else 0
noncomputable def c37:Con:=con (ac aSh (a1 aV)) (λ(s,_)=>[Fit s]) (λ(s,p)=> .iqz (whV s p)
 )
def k37:c37.Okz 37:=bJ tLW (λ(_,_)=>[]) (λ(_,_)=>⟨_,rfl⟩) λ(s,p) hp=>az ((0:Int)<=8000/\(8000:Int)<=1000000000000/\((!ao p 8000)=true->0=whV s p)/\
 ((!ao p 8000)=false->Fit s/\eL s (fD p)=whV s p)) (by kernel_rfl) (by
  change Fit s at hp;have e1:(!ao p 8000)=true->0=whV s p:=λh=>by unfold whV;rw[if_neg (by rw[nb' h];decide)]
  have e2:(!ao p 8000)=false->eL s (fD p)=whV s p:=λh=>by unfold whV;rw[if_pos (nb h)]
  exact⟨by decide,by decide,e1,λh=>⟨hp,e2 h⟩⟩)
def XG{a b p:V}:0<=turn a b p↔0<=ev (lin a b) (pt p):=by rw[dO];unfold turn sgn;split<;>(try split)<;>omega
def XF{a b p:V}:0<turn a b p↔0<ev (lin a b) (pt p):=by rw[dO];unfold turn sgn;split<;>(try split)<;>omega
def Gp(r:List V)(p:V):∀n,(0<=lst r p n↔∀i,i<n->0<=turn (aEv r i) (aEv r ((i+1) % r.length)) p)/\(0<lst r p n↔∀i,i<n->0<turn (aEv r i) (aEv r ((i+1) % r.length)) p)
 |0=>by simp[lst]
 |n+1=>by
  obtain⟨h1,h2⟩:=Gp r p n;have e:lst r p (n+1)=min (lst r p n) (turn (aEv r n) (aEv r ((n+1) % r.length)) p):=rfl;rw[e];constructor
  .rw[show(0<=min (lst r p n) (turn (aEv r n) (aEv r ((n+1) % r.length)) p))↔(0<=lst r p n/\0<=turn (aEv r n) (aEv r ((n+1) % r.length)) p) by omega,h1];constructor
   .rintro⟨g1,g2⟩ i hi;rcases Nat.lt_succ_iff_lt_or_eq.1 hi with h|rfl
    .exact g1 i h
    .exact g2
   .intro g;exact⟨λi hi=>g i (by omega),g n (by omega)⟩
  .rw[show(0<min (lst r p n) (turn (aEv r n) (aEv r ((n+1) % r.length)) p))↔(0<lst r p n/\0<turn (aEv r n) (aEv r ((n+1) % r.length)) p) by omega,h2];constructor
   .rintro⟨g1,g2⟩ i hi;rcases Nat.lt_succ_iff_lt_or_eq.1 hi with h|rfl
    .exact g1 i h
    .exact g2
   .intro g;exact⟨λi hi=>g i (by omega),g n (by omega)⟩
def Ou{r:List V}{f:S->Prop}:(∀e∈cyc r,f e)↔∀i,i<r.length->f ⟨aEv r i,aEv r ((i+1) % r.length)⟩:=by
 rcases Nat.eq_zero_or_pos r.length with h0|h0
 .have:r=[] :=mc.1 h0;subst this;simp[cyc]
 .rw[Ot h0];simp
def F7{p:V}{r:List V}:inB p r=true↔LW r (pt p):=by unfold inB LW;rw[decide_eq_true_eq,(Gp r p _).1,Ou];simp only[XG]
def Nl{p:V}{r:List V}:stB p r=true↔LS r (pt p):=by unfold stB LS;rw[decide_eq_true_eq,(Gp r p _).2,Ou];simp only[XF]
def JO{α:Type}{f:α->Bool}{r:α}:∀{l:List α},l.Nodup->(∀x∈l,f x=true->x=r)->l.countP f<=1
 |[],_,_=>by simp
 |x::l,hn,h=>by
  obtain⟨h1,h2⟩:=List.nodup_cons.1 hn;rw[List.countP_cons];split
  .rename_i hx;have e:=h x bo hx;have:l.countP f=0:=List.countP_eq_zero.2 λy hy hf=>h1 (by rw[e,<-h y (bk _ hy) hf];exact hy);omega
  .have:=JO h2 λy hy=>h y (bk _ hy);omega
def Uz{s:Shape}(v:bI s=true){p:V}(hp:ao p 3000=true):(0<gU (pcG s) p (pcG s).length->whV s p=2/\gU (pcG s) p (pcG s).length<=1/\fL (pcG s) p (pcG s).length<=1)/\(0<fL (pcG s) p (pcG s).length↔whV s p≠0):=by
 have hw:whV s p=eL s (fD p):=by unfold whV;rw[if_pos (jr hp (by omega))]
 have hq:c6 (fD p)=true:=by rw[DF];exact jr hp (by omega)
 obtain⟨h1,h2⟩:=WC v hq (show(0:Int)<1 by decide);have e:p3 (fD p)=pt p:=rfl;rw[e]at h1 h2;have nd:(pcG s).Nodup:=(WB v).imp λ{a b} h e=>by subst e;rw[JQ]at h;omega
 unfold fL gU;rw[tg,hw];refine⟨λh=> ?_,?_⟩
 .obtain⟨r,hr,g⟩:=List.countP_pos_iff.1 h;obtain⟨k1,k2⟩:=h2 r hr (Nl.1 g);have c1:=JO nd λx hx hf=>k2 x hx (F7.1 hf);refine⟨k1,cO (List.countP_mono_left λx _ hx=> ?_) c1,c1⟩;exact F7.2 λe he=>Int.le_of_lt (Nl.1 hx e he)
 .rw[List.countP_pos_iff,<-h1];simp only[F7]
noncomputable def QW:=(((((u8.adk k49).adk k37).adk k35).adk k48).adk k47).adk k41
noncomputable def c12:Con:=con (ac aSh (a1 aV)) (λ(s,p)=>[mN s,VOk p]) (λ(_,_)=> .bool true)
def k12:c12.Okz 12:=bJ QW (λ(_,_)=>[]
  ) (λ(_,_)=>⟨_,rfl⟩) λ(s,p) hp=>az (((!true)=true->false=true)/\
 ((!true)=false->mN s/\((!(jM s&&bI s))=true->true=true)/\
  ((!(jM s&&bI s))=false->(0:Int)<=3000/\(3000:Int)<=1000000000000/\((!ao p 3000)=true->true=true)/\
   ((!ao p 3000)=false->Fit s/\(bM s=true->GOk s/\SOk s/\qM s)/\(pcG s).length<=1000000/\(∀r:aE,r∈pcG s->r.length<=100000)/\(∀r:aE,r∈pcG s->(∀v:V,v∈r->bd 1000000000 v))/\bd 1000000000 p/\Fit s/\(¬eV s=0->false=true)/\
    (¬(¬eV s=0)->(1<(gU (pcG s) p (pcG s).length:Int)->false=true)/\
     (¬1<(gU (pcG s) p (pcG s).length:Int)->((gU (pcG s) p (pcG s).length:Int)=1->(1<(fL (pcG s) p (pcG s).length:Int)->false=true)/\
       (¬1<(fL (pcG s) p (pcG s).length:Int)->(¬whV s p=2->false=true)/\
        (¬(¬whV s p=2)->(decide (0<(fL (pcG s) p (pcG s).length:Int))==decide (¬whV s p=0))=true)))/\
      (¬(gU (pcG s) p (pcG s).length:Int)=1->(decide (0<(fL (pcG s) p (pcG s).length:Int))==decide (¬whV s p=0))=true))))))) (by kernel_rfl) (by
  change mN s/\VOk p at hp;obtain⟨hb,hu⟩:=hp;have hf:(!(jM s&&bI s))=false->jM s=true/\bI s=true:=λh=>by rw[Bool.not_eq_false',bn]at h;exact h
  refine⟨λh=>(by cases h),λ_=>⟨hb,λ_=>rfl,λf=>⟨by decide,by decide,λ_=>rfl,λw=> ?_⟩⟩⟩;obtain⟨f1,v⟩:=hf f;have F:=M3 hb f1;have hw:=nb w;have e0:eV s=0:=by unfold eV;rw[jW];exact if_pos v
  have pl:=aAC v;obtain⟨l1,l2⟩:=Uz v hw;have fin:(decide (0<(fL (pcG s) p (pcG s).length:Int))==decide (¬whV s p=0))=true:=by rw[beq_iff_eq,decide_eq_decide,<-show whV s p≠0↔¬whV s p=0 from Iff.rfl,<-l2];omega
  refine⟨F,λ_=>⟨gok v,sok v,R3 v⟩,by omega,λr hr=>cO (aAB v r hr) (by decide),λr hr x hx=>qE (m:=2000) (js (vsR v) (ZM v r hr x hx)) (by decide),qE (m:=3000) hw (by decide),F,λh=>absurd e0 h,λ_=>⟨λh=> ?_,λh=>⟨λh3=>⟨λh4=> ?_,λ_=>⟨λh5=> ?_,λ_=>fin⟩⟩,λ_=>fin⟩⟩⟩
  .have:=(l1 (by omega)).2.1;omega
  .have:=(l1 (by omega)).2.2;omega
  .exact absurd (l1 (by omega)).1 h5)
noncomputable def t12:=QW.adk k12
end Go.Proofs.YtdaeofhdgabhjaaGreat
