/- Part 4 of what the statement stands on -/
import Derived.Test.YtdnhebjljnfjaaaGreatOO3
import Derived.Shelf.SlSortCmp.WholeK
set_option linter.all false
set_option maxRecDepth 100000
set_option maxHeartbeats 8000000
open Go.Sort renaming grow->yZ
open Array renaming getElem?_eq_some_iff->SF,getElem?_append_left->yR,getD_eq_getD_getElem?->fW,replicate->kY
open Go.Value renaming int->c9,agg->vD
open List renaming length_map->eB,getElem?_map->dw,getElem?_eq_getElem->dA,Perm.refl->uq,mem_cons_self->eG,pairwise_cons->kC,mem_cons->bh,Pairwise.nil->rr,mem_cons_of_mem->dK,range->bO,getElem?_range->kg,ext_getElem?->ke,getElem?_eq_none->eQ,getElem_mem->eR,getElem?_eq_some_iff->oT,pairwise_map->qE,pairwise_iff_getElem->oX,findIdx?_eq_none_iff->Rq,replicate->bS,range_succ->sA,map_append->d7,mem_map->cF,mem_range->dY,getD_eq_getElem?_getD->bq,getElem?_set->gZ,append_nil->je,map_congr_left->lk,length_set->fA,length_append->dh,length_singleton->eD,mem_append->eK,mem_singleton->bM,length_replicate->mg,not_mem_nil->dg,length_nil->iI,getD->cc,set->cR,getElem?_replicate->jf,count->sG,any->iu,append_assoc->lj,length_take->ew,length_drop->mh,getElem?_append_right->iU,take_of_length_le->ir,take->ai,drop->bT,drop_zero->mq,length_cons->iJ,map_cons->cV,nodup_cons->kG,mem_of_getElem?->qB,lookup->cL,getElem?_append_left->iL,mem_append_left->f7,mem_append_right->fq,mem_filterMap->kF,take_append_drop->oU,getElem_map->vF,set_append_right->DR
open Nat renaming zero_add->gc,le_refl->az,one_mul->oV,mul_comm->ur,mod_lt->eO,zero_le->cO,beq->ae,le_trans->ci,le_antisymm->oW,eq_of_beq_eq_true->bp,gcd->cE,gcd_mul_right->Dj,sub_self->sE,add_assoc->oO,lt_or_ge->jc,ne_of_beq_eq_false->f9,blt->dG,le_succ->Df,lt_trichotomy->jK
open Go.Proofs.Tryz renaming prog->aH
open Option renaming map_some->dn,some.inj->gA,bind_eq_some_iff->kE,map_eq_some_iff->iT,bind_some->kc
open Go.World renaming block_lt_of_cell?->f0
open Go.IntKind renaming wrap->kH,u64->iW,bits->Di,i64->d6
open Bool renaming true_and->jH,false_and->ll,and_eq_true->cD,false_ne_true->sH
open Int renaming eq_ofNat_of_zero_le->yb,tmod->dr,natAbs_mul->qF,mul_le_mul_of_nonneg_right->kD,mul_lt_mul_of_pos_right->Dc,le_of_lt->vJ,le_of_eq->vK,tdiv->bz
open And renaming intro->c6
open Go.RowKit
open Go.Proofs.YtdnhebjljnfjaaaGreat.Geo
open Go.Proofs.YtdnhebjljnfjaaaGreat.Geo renaming V->aDb,sub->aDd,bi->aDh,S->aDc
namespace Go.Proofs.YtdnhebjljnfjaaaGreat
section
open Go.RowKit Go.Sort Go.Shelf Go.Lib
structure Lay(w w':World):Prop where
 below:Below w.heap.size w w'
 drawn:w.drawn<=w'.drawn
def Lay.grow{w w':World}(h:Lay w w'):∃q os,w'=yZ (w.drewN q) os:=by
 obtain⟨p,hp⟩:=Sv h.below;refine⟨w'.drawn-w.drawn,p.os,?_⟩;have hd:=h.drawn;have hn:w'.drawn=p.n:=by rw[hp];rfl
 rw[hp];unfold grD yZ World.drewN;grind
section
variable {α:Type} [Inhabited α]
def Dm{enc:α->Value}{w:World}{g n:Nat}{d:Array α}{os:Array Obj}{cur:Array Value}{t:TypeId}(hb:w.heap[g]? =some (.cells cur t (0,0))):(sortWorld enc w g 0 n d os).heap[g]? =some (.cells (putCells enc 0 d cur) t (0,0)):=by have hlt:=(SF.1 hb).1;unfold sortWorld yZ putRow mapBlock;simp only[heap_ahead];rw[yR (by grind),Array.getElem?_modify,if_pos rfl,hb];rfl
def Dl{enc:α->Value}{w:World}{g n:Nat}{d:Array α}{os:Array Obj}:w.grownBy (sortWorld enc w g 0 n d os) (some g):=by
 refine⟨rfl,rfl,rfl,?_,?_⟩
 .unfold sortWorld yZ putRow mapBlock;simp
 .intro k hk hne;unfold sortWorld yZ putRow mapBlock;simp only[heap_ahead];grind
end
def rT(l:List Int):LT.I.enc l=l.map (PV.int .i64):=by show oG l=_;exact vo (λn=>PV.int .i64 n) l
def U6{C:bG}{w:World}{b c:Nat}{l:List Int}{arr:Array Value}{ty:TypeId}(hL:Lent C w b c ty 1 (LT.I.enc l) arr):Holds (c9 .i64) w b 0 l.toArray/\l.length<=arr.size:=by
 obtain⟨_,h2,_⟩:=hL.row (by decide);rw[rT,eB]at h2;refine⟨λj hj=> ?_,h2⟩;obtain⟨v,h3,_,h4⟩:=hL.cells j (.int .i64 l[j]) (by rw[rT,dw,dA hj];rfl);subst h4;refine⟨?_,?_⟩
 .rw[gc];refine(cell_of_row w b j arr ty (0,0) hL.blk).trans (h3.trans ?_);grind
 .simp[World.frozen?,hL.blk]
end
section
open Go.RowKit Go.Sort Go.Shelf Go.Lib
section
variable {α:Type}
def mS(lt:α->α->Bool)(x:α):List α->List α
 |[] =>[x]
 |y::r=>if lt y x=true then y::mS lt x r else x::y::r
def aY(lt:α->α->Bool):List α->List α
 |[] =>[]
 |x::l=>mS lt x (aY lt l)
def zO(lt:α->α->Bool)(x:α):∀l:List α,(mS lt x l).Perm (x::l)
 |[] =>uq _
 |y::r=>by
  unfold mS;split
  .exact((zO lt x r).cons y).trans (List.Perm.swap x y r)
  .exact uq _
def fP(lt:α->α->Bool):∀l:List α,(aY lt l).Perm l
 |[] =>uq _
 |x::l=>(zO lt x _).trans ((fP lt l).cons x)
structure OrdG(lt:α->α->Bool)(l:List α):Prop where
 trans:∀x∈l,∀y∈l,∀z∈l,lt x y=true->lt y z=true->lt x z=true
 asym:∀x∈l,∀y∈l,lt x y=true->lt y x=false
 tot:∀x∈l,∀y∈l,lt x y=false->lt y x=false->x=y
def OrdG.neg{lt:α->α->Bool}{l:List α}(h:OrdG lt l){x y z:α}(hx:x∈l)(hy:y∈l)(hz:z∈l)(h1:lt x y=false)(h2:lt y z=false):lt x z=false:=by
 cases h3:lt x z with
 |false=>rfl
 |true=>
  cases h4:lt y x with
  |false=>have:=h.tot x hx y hy h1 h4;grind
  |true=>rw[h.trans y hy x hx z hz h4 h3]at h2;cases h2
def EL{lt:α->α->Bool}{S:List α}(h:OrdG lt S){x:α}(hx:x∈S):∀l:List α,(∀y∈l,y∈S)->l.Pairwise (λa b=>lt b a=false)->(mS lt x l).Pairwise λa b=>lt b a=false
 |[],_,_=>List.pairwise_singleton _ _
 |y::r,hl,hs=>by
  have hy:=hl y eG;obtain⟨h1,h2⟩:=kC.1 hs;unfold mS;split
  .rename_i hlt;refine kC.2 ⟨λb hb=> ?_,EL h hx r (by grind) h2⟩;rcases bh.1 ((zO lt x r).mem_iff.1 hb)with rfl|hb
   .exact h.asym _ hy _ hx hlt
   grind
  .rename_i hlt;have hlt:lt y x=false:=by simpa using hlt
   refine kC.2 ⟨λb hb=> ?_,hs⟩;rcases bh.1 hb with rfl|hb
   .exact hlt
   .exact h.neg (by grind) hy hx (h1 b hb) hlt
def oc{lt:α->α->Bool}{S:List α}(h:OrdG lt S):∀l:List α,(∀y∈l,y∈S)->(aY lt l).Pairwise λa b=>lt b a=false
 |[],_=>rr
 |x::l,hl=>EL h (by grind) _ (λy hy=>hl y (dK _ ((fP lt l).mem_iff.1 hy))) (oc h l (by grind))
def yh{lt:α->α->Bool}{l k:List α}(h:OrdG lt l)(hp:k.Perm l)(hs:k.Pairwise λa b=>lt b a=false):k=aY lt l:=
 List.Perm.eq_of_pairwise (λa b h1 h2 h3 h4=>h.tot a (hp.mem_iff.1 h1) b ((fP lt l).mem_iff.1 h2) h4 h3) hs (oc h l λ_ h=>h) (hp.trans (fP lt l).symm)
end
def ltC{α:Type}(cf:α->α->Int)(x y:α):Bool:=decide (cf x y<0)
def wH{C:bG}{fid:Nat}{caps:List PV}{vs:List Value}(h:bK C [.fn (.func fid) [] caps] vs):∃cb:List Value,vs=[.func (.func fid) #[] cb.toArray]/\bK C caps cb:=by obtain⟨u,r,rfl,h1,h2⟩:=h;subst h2;obtain⟨a,b,rfl,h3,h4⟩:=h1;unfold bK at h3;grind
section
variable {α:Type} [Inhabited α]
def SQ{enc:α->List Value}{k:Nat}{w:World}{g n:Nat}{d:Array α}{os:Array Obj}{cur:Array Value}{t:TypeId}(hb:w.heap[g]? =some (.cells cur t (0,0))):(sortWorldK enc k w g 0 n d os).heap[g]? =some (.cells (putCells id 0 (flatK enc k d) cur) t (0,0)):=by unfold sortWorldK putRowK;exact Dm (enc:=(id:Value->Value)) (d:=flatK enc k d) hb
def SP{enc:α->List Value}{k:Nat}{w:World}{g n:Nat}{d:Array α}{os:Array Obj}:w.grownBy (sortWorldK enc k w g 0 n d os) (some g):=by unfold sortWorldK putRowK;exact Dl (enc:=(id:Value->Value)) (d:=flatK enc k d)
end
def EN{α:Type}{d:Array α}{n:Nat}(h:d.size=n):(d.extract 0 n).toList=d.toList:=by subst h;simp
def LT.XW{t:LT}(h:t.one=false)(x:t.ty):t.argP x= .agg (t.rowP x):=by cases t<;>first|rfl|cases h
def LT.yq(t:LT)(x:t.ty):(t.rowP x).length=t.w:=by cases t<;>rfl
def LT.Jj{t:LT}(l:List t.ty){i c:Nat}(hi:i<l.length)(hc:c<t.w):(t.enc l)[i*t.w+c]? =(t.rowP l[i])[c]? :=by have:=t.get l hi c hc;rw[t.nth_eq l hi]at this;exact this
def FD{ρ0:Go.Shelf.Ren}(S:SlLaysF0.n6 aH ρ0)(t:LT)(ty:Nat)(h1:t.one=false)(aE:∀w,(isAgg (ρ0.t 24)).run aH w= .ok true w)(zE:∀w,(Go.sizeOf (ρ0.t 24)).run aH w= .ok t.w w)(hok:fy aH (ρ0.f 6)=true)
  (l:List t.ty) (fid:Nat) (caps:List PV) (hn:l.length<=1000000) (cf:t.ty->t.ty->Int) (hcmp:∀x∈l,∀y∈l,∃fr,Sat aH fr fid (t.argP x::t.argP y::caps) (.int .i64 (cf x y))) (hO:OrdG (ltC cf) l):
  oH aH (ρ0.f 6) (some l.length) [.fn (.func fid) [] caps] ty t.w (t.enc l) (t.enc (aY (ltC cf) l)):=by
 have hlen:=(fP (ltC cf) l).length_eq;have hwl:∀m:List t.ty,(t.enc m).length=m.length*t.w:=λm=>t.wide.length m;have hw0:=t.gn;refine⟨hok,by rw[hwl,hwl,hlen],?_,?_⟩
 .intro C w b c arr vs hC hL hnc hA;obtain⟨cb,rfl,hcb⟩:=wH hA;by_cases hl0:l=[]
  .subst hl0;have h:=AnyF.slices_SortFunc_none (P:=aH) (ρ:=ρ0) {S with} (some ⟨b,0,none⟩) c (.func (.func fid) #[] cb.toArray) w;refine h.mono ?_;rintro e w' ⟨rfl,rfl⟩;exact⟨arr,rfl,hL,⟨rfl,rfl,rfl,az _,λ_ _ _=>rfl⟩⟩
  have hpos:0<l.length:=List.length_pos_iff.2 hl0;have:Inhabited (Fin l.length):=⟨⟨0,hpos⟩⟩;obtain⟨hr1,hr2,hr3⟩:=hL.row (by omega);rw[hwl]at hr2;obtain⟨enc,henc⟩:∃enc:Fin l.length->List Value,enc=λi=>(bO t.w).map λc=>arr.getD (i.1*t.w+c) default:=⟨_,rfl⟩;have hk:∀x,(enc x).length=t.w:=λx=>by rw[henc];simp
  have hlt:∀(i:Fin l.length) c,c<t.w->i.1*t.w+c<l.length*t.w:=λi c hc=>by have:=Nat.mul_le_mul_right t.w (show i.1+1<=l.length from i.2);rw[Nat.add_mul,oV]at this;omega
  have hcell:∀(i:Fin l.length) c (hc:c<t.w),∃v x,(enc i)[c]? =some v/\arr[i.1*t.w+c]? =some v/\(t.rowP l[i.1])[c]? =some x/\v.oneCell'=true/\a8 C x v:=by
   intro i c hc;have hi:=hlt i c hc;have hx:c<(t.rowP l[i.1]).length:=by rw[LT.yq];exact hc
   obtain⟨v,g1,g2,g3⟩:=hL.cells (i.1*t.w+c) (t.rowP l[i.1])[c] (by rw[LT.Jj l i.2 hc];exact dA hx);refine⟨v,_,?_,g1,dA hx,g2,g3⟩;rw[henc];simp only[dw,kg hc,dn];rw[fW,g1];rfl
  have hones:∀x,∀v∈enc x,v.oneCell'=true:=by intro i v hv;obtain⟨c,hc,rfl⟩:=List.mem_iff_getElem.1 hv;obtain⟨v,x,g1,_,_,g4,_⟩:=hcell i c (by rw[<-hk i];exact hc);rw[dA hc]at g1;cases g1;exact g4
  obtain⟨d,hd,hdm⟩:∃d:Array (Fin l.length),d=Array.ofFn id/\d.toList.map (λi:Fin l.length=>l[i.1])=l:=⟨_,rfl,by
   apply ke;intro i;rw[dw];by_cases hi:i<l.length
   .simp[hi]
   .rw[eQ (by simp;omega),eQ (by omega)];rfl⟩
  have hds:d.size=l.length:=by rw[hd];simp
  have hdi:∀i (h:i<l.length),d[i]! =⟨i,h⟩:=λi h=>by rw[getElem!_pos d i (by omega)];subst hd;simp
  have hblk:b<w.heap.size:=(SF.1 hL.blk).1;have hmem:∀i:Fin l.length,l[i.1]∈l:=λi=>eR i.2;have hswo:SWO (ltOf λx y:Fin l.length=>cf l[x.1] l[y.1]):=by
   have e:∀x y:Fin l.length,ltOf (λx y:Fin l.length=>cf l[x.1] l[y.1]) x y=ltC cf l[x.1] l[y.1] :=λx y=>rfl;refine⟨λx=> ?_,λx y z h1 h2=> ?_,λx y z h1 h2=> ?_⟩
   .rw[e];cases h:ltC cf l[x.1] l[x.1]with
    |false=>rfl
    |true=>have:=hO.asym _ (hmem x) _ (hmem x) h;rw[h]at this;cases this
   .exact hO.trans _ (hmem x) _ (hmem y) _ (hmem z) h1 h2
   .exact hO.neg (hmem x) (hmem y) (hmem z) h1 h2
  have hHd:HoldsK enc t.w w b 0 d:=by
   intro j hj;rw[size_flatK,hds]at hj;have hq:j/t.w<l.length:=Nat.div_lt_of_lt_mul (by rw[ur];exact hj);have hr:j % t.w<t.w:=eO _ hw0;obtain⟨v,x,g1,g2,_⟩:=hcell ⟨j/t.w,hq⟩ (j % t.w) hr;rw[get_flatK _ _ _ _ (by rw[hds];exact hj),hdi _ hq];have ej:j/t.w*t.w+j % t.w=j:=Nat.div_add_mod' j t.w;rw[ej]at g2;refine⟨?_,by simp[World.frozen?,hL.blk]⟩;rw[gc];refine(cell_of_row w b j arr ty (0,0) hL.blk).trans (g2.trans ?_);have:(enc ⟨j/t.w,hq⟩)[j % t.w]! =v:=by rw[getElem!_pos _ _ (by rw[hk];exact hr)];rw[dA (by rw[hk];exact hr)]at g1;exact gA g1
   rw[this];rfl
  have hargs:∀x:Fin l.length,a8 C (t.argP l[x.1]) (.agg (enc x).toArray):=by
   intro i;rw[LT.XW h1];refine⟨enc i,rfl,bK.of _ _ (by rw[hk,LT.yq]) λc x hx=> ?_,hones i⟩;have hc:c<t.w:=by rw[<-LT.yq t l[i.1]];exact(oT.1 hx).1
   obtain⟨v,x',g1,_,g3,_,g5⟩:=hcell i c hc;rw[hx]at g3;cases g3;exact⟨v,g1,g5⟩
  have h:=AnyQ.slices_SortFunc (P:=aH) (ρ:=ρ0) S t.w aE zE enc hk hones (λx y:Fin l.length=>cf l[x.1] l[y.1]) hswo fid cb.toArray b 0 c d w (λargs w=>kI (by
    obtain⟨fr,hS⟩:=hcmp _ (hmem ⟨0,hpos⟩) _ (hmem ⟨0,hpos⟩);exact hS.1) args w) (by
   intro m os dk hdk x y;obtain⟨fr,hS⟩:=hcmp _ (hmem x) _ (hmem y);have h1:=hS.2 C (sortWorldK enc t.w w b 0 m dk os) (.agg (enc x).toArray:: .agg (enc y).toArray::cb) (λb' o u h=> ?_) ⟨_,_,rfl,hargs x,_,_,rfl,hargs y,hcb⟩
   .have h2:=ET h1 (by grind);rw[show(#[vD (enc x).toArray,vD (enc y).toArray] ++cb.toArray)=(vD (enc x).toArray::vD (enc y).toArray::cb).toArray by simp];refine h2.mono ?_;rintro e w' ⟨⟨u,rfl,hu,hbel⟩,hdr⟩;unfold a8 at hu;subst hu;exact⟨rfl,(Lay.mk hbel hdr).grow⟩
   .obtain⟨h2,h3⟩:=hC _ _ _ h;unfold sortWorldK putRowK;rw[cell?_grow _ _ _ (by rw[size_putRow];exact f0 w ⟨b',o,none⟩ h2),cell?_putRow_other _ _ b 0 _ _ (Or.inl h3)];exact h2) hHd hblk (by omega)
  rw[hds]at h;refine h.mono ?_;rintro e w' ⟨rfl,d',n,os,hp,hs,rfl⟩;obtain⟨p1,_,p3⟩:=hp;have hG:=SP (enc:=enc) (k:=t.w) (w:=w) (g:=b) (n:=n) (d:=d') (os:=os);have hperm:d'.toList.Perm d.toList:=by have e1:(d'.extract 0 l.length).toList=d'.toList:=EN (by omega);have e2:(d.extract 0 l.length).toList=d.toList:=EN hds;rwa[e1,e2]at p3
  have hpr:(d'.toList.map λi:Fin l.length=>l[i.1]).Perm l:=by have:=hperm.map (λi:Fin l.length=>l[i.1]);rwa[hdm]at this
  have hso:(d'.toList.map λi:Fin l.length=>l[i.1])=aY (ltC cf) l:=by
   refine yh hO hpr ?_;rw[qE,oX];intro i j hi hj hij;have hj':j<d'.size:=by simpa using hj
   have:=hs i j (cO _) hij (by omega);rw[getElem!_pos d' i (by omega),getElem!_pos d' j hj']at this;show ltOf (λx y:Fin l.length=>cf l[x.1] l[y.1]) (d'.toList[j]) (d'.toList[i])=false;simpa using this
  have hds':d'.size=l.length:=by omega
  refine⟨_,rfl,⟨SQ hL.blk,λh=>by omega,λ_=> ?_,?_⟩,hG⟩
  .rw[hwl,hlen];unfold putCells;simp;try omega
  .intro i x hi;have hi':i<l.length*t.w:=by rw[<-hlen,<-hwl];exact(oT.1 hi).1
   have hq:i/t.w<l.length:=Nat.div_lt_of_lt_mul (by rw[ur];exact hi');have hr:i % t.w<t.w:=eO _ hw0;have ej:i/t.w*t.w+i % t.w=i:=Nat.div_add_mod' i t.w;have hqs:i/t.w<(aY (ltC cf) l).length:=by rw[hlen];exact hq
   have e1:=LT.Jj (aY (ltC cf) l) hqs hr;rw[ej]at e1;have e2:(aY (ltC cf) l)[i/t.w] =l[(d'[i/t.w]!).1] :=by
    have:(d'.toList.map λi:Fin l.length=>l[i.1])[i/t.w]? =some (l[(d'[i/t.w]!).1]):=by
     rw[dw];have:d'.toList[i/t.w]? =some d'[i/t.w]! :=by rw[getElem!_pos d' _ (by omega)];simp
     rw[this];rfl
    rw[hso,dA hqs]at this;exact gA this
   obtain⟨v,x',g1,g2,g3,g4,g5⟩:=hcell (d'[i/t.w]!) (i % t.w) hr;rw[e1,e2]at hi;have hxx:x=x':=gA (hi.symm.trans g3);subst hxx;refine⟨v,?_,g4,g5⟩;unfold putCells;have hsz:i<(flatK enc t.w d').size:=by rw[size_flatK,hds'];exact hi'
   have hval:(flatK enc t.w d')[i]! =v:=by rw[get_flatK _ _ _ _ (by rw[hds'];exact hi')];rw[getElem!_pos _ _ (by rw[hk];exact hr)];rw[dA (by rw[hk];exact hr)]at g1;exact gA g1
   have hia:i<arr.size:=by omega
   have hsz':i<d'.size*t.w:=by rw[hds'];exact hi'
   rw[getElem!_pos _ i hsz]at hval;simp[hia,hsz',hval]
 .intro h0 C w vs hC hA;obtain⟨cb,rfl,_⟩:=wH hA;have hl0:l=[] :=by
   have:l.length=0:=by simpa using h0
   exact List.length_eq_zero_iff.1 this
  have h:=AnyF.slices_SortFunc_none (P:=aH) (ρ:=ρ0) {S with} none 0 (.func (.func fid) #[] cb.toArray) w;refine h.mono ?_;rintro e w' ⟨rfl,rfl⟩;exact⟨rfl,Below.refl _ _⟩
end
section
open Go.RowKit Go.Sort Go.Shelf Go.Lib
def Uc(l:List Int)(fid:Nat)(caps:List PV)(hn:l.length<=1000000)(cf:Int->Int->Int)(hcmp:∀x∈l,∀y∈l,∃fr,Sat aH fr fid (.int .i64 x:: .int .i64 y::caps) (.int .i64 (cf x y)))(hO:OrdG (ltC cf) l):
  oH aH 192 (some l.length) [.fn (.func fid) [] caps] 3 1 (LT.I.enc l) (LT.I.enc (aY (ltC cf) l)):=by
 have hlen:=(fP (ltC cf) l).length_eq;refine⟨by kernel_rfl,by rw[rT,rT,eB,eB,hlen],?_,?_⟩
 .intro C w b c arr vs hC hL hnc hA;obtain⟨cb,rfl,hcb⟩:=wH hA;obtain⟨hH,hsz⟩:=U6 hL;by_cases hl0:l=[]
  .subst hl0;have h:=AnyF.slices_SortFunc_none (P:=aH) (ρ:=Tryz.sort192_ren) {Tryz.sort192 with} (some ⟨b,0,none⟩) c (.func (.func fid) #[] cb.toArray) w;refine h.mono ?_;rintro e w' ⟨rfl,rfl⟩;exact⟨arr,rfl,hL,⟨rfl,rfl,rfl,az _,λ_ _ _=>rfl⟩⟩
  obtain⟨x0,hx0⟩:=List.exists_mem_of_ne_nil _ hl0;have:Inhabited {x:Int//x∈l}:=⟨⟨x0,hx0⟩⟩;obtain⟨d,hd⟩:∃d:Array {x:Int//x∈l},d=l.attach.toArray:=⟨_,rfl⟩;have hds:d.size=l.length:=by rw[hd];simp
  have hdm:d.toList.map (·.1)=l:=by rw[hd];simp
  have hblk:b<w.heap.size:=(SF.1 hL.blk).1;have hswo:SWO (ltOf λx y:{x:Int//x∈l}=>cf x.1 y.1):=by
   have e:∀x y:{x:Int//x∈l},ltOf (λx y:{x:Int//x∈l}=>cf x.1 y.1) x y=ltC cf x.1 y.1:=λx y=>rfl;refine⟨λx=> ?_,λx y z h1 h2=> ?_,λx y z h1 h2=> ?_⟩
   .rw[e];cases h:ltC cf x.1 x.1 with
    |false=>rfl
    |true=>have:=hO.asym _ x.2 _ x.2 h;grind
   .exact hO.trans _ x.2 _ y.2 _ z.2 h1 h2
   .exact hO.neg x.2 y.2 z.2 h1 h2
  have hHd:Holds (λx:{x:Int//x∈l}=>c9 .i64 x.1) w b 0 d:=by
   intro j hj;have hj':j<l.length:=by omega
   have:=hH j (by omega);have e:(l.toArray)[j]! =d[j]!.1:=by rw[getElem!_pos _ j (by omega),getElem!_pos d j hj];subst hd;simp
   rw[e]at this;exact this
  have h:=Any.slices_SortFunc (P:=aH) (ρ:=Tryz.sort192_ren) Tryz.sort192 (λx:{x:Int//x∈l}=>c9 .i64 x.1) (λ_=>rfl) (λx y=>cf x.1 y.1) hswo fid cb.toArray b 0 c d w (λargs w=>kI (by
    obtain⟨fr,hS⟩:=hcmp _ hx0 _ hx0;exact hS.1) args w) (by
   intro m os dk hdk x y;obtain⟨fr,hS⟩:=hcmp _ x.2 _ y.2;have h1:=hS.2 C (sortWorld (λx:{x:Int//x∈l}=>c9 .i64 x.1) w b 0 m dk os) (.int .i64 x.1:: .int .i64 y.1::cb) (λb' o u h=> ?_) ?_
   .have h2:=ET h1 (by grind);rw[show(#[c9 .i64 x.1,c9 .i64 y.1] ++cb.toArray)=(c9 .i64 x.1:: .int .i64 y.1::cb).toArray by simp];refine h2.mono ?_;rintro e w' ⟨⟨u,rfl,hu,hbel⟩,hdr⟩;unfold a8 at hu;subst hu;exact⟨rfl,(Lay.mk hbel hdr).grow⟩
   .obtain⟨h2,h3⟩:=hC _ _ _ h;unfold sortWorld;rw[cell?_grow _ _ _ (by rw[size_putRow];exact f0 w ⟨b',o,none⟩ h2),cell?_putRow_other _ _ b 0 _ _ (Or.inl h3)];exact h2
   .refine⟨_,_,rfl,by rfl,?_⟩;exact⟨_,_,rfl,by rfl,hcb⟩) hHd hblk (by omega)
  rw[hds]at h;refine h.mono ?_;rintro e w' ⟨rfl,d',n,os,hp,hs,rfl⟩;obtain⟨p1,_,p3⟩:=hp;have hG:=Dl (enc:=λx:{x:Int//x∈l}=>c9 .i64 x.1) (w:=w) (g:=b) (n:=n) (d:=d') (os:=os);have hperm:d'.toList.Perm d.toList:=by
   have e1:(d'.extract 0 l.length).toList=d'.toList:=by rw[<-hds,<-p1];simp
   have e2:(d.extract 0 l.length).toList=d.toList:=by rw[<-hds];simp
   rwa[e1,e2]at p3
  have hpr:(d'.toList.map (·.1)).Perm l:=by have:=hperm.map (·.1);rwa[hdm]at this
  have hso:d'.toList.map (·.1)=aY (ltC cf) l:=by
   refine yh hO hpr ?_;rw[qE,oX];intro i j hi hj hij;have hj':j<d'.size:=by simpa using hj
   have:=hs i j (cO _) hij (by omega);rw[getElem!_pos d' i (by omega),getElem!_pos d' j hj']at this;show ltOf (λx y:{x:Int//x∈l}=>cf x.1 y.1) (d'.toList[j]) (d'.toList[i])=false;simpa using this
  refine⟨_,rfl,⟨Dm hL.blk,by grind,λ_=> ?_,?_⟩,hG⟩
  .obtain⟨h1,h2,h3⟩:=hL.row (by decide);rw[rT,eB,hlen];unfold putCells;grind
  .intro i x hi;rw[<-hso,rT,List.map_map,dw]at hi;cases hx:d'.toList[i]? with
   |none=>grind
   |some y=>
    rw[hx]at hi;cases hi;refine⟨.int .i64 y.1,?_,rfl,by rfl⟩;unfold putCells;grind
 .intro h0 C w vs hC hA;obtain⟨cb,rfl,_⟩:=wH hA;have hl0:l=[] :=by grind
  have h:=AnyF.slices_SortFunc_none (P:=aH) (ρ:=Tryz.sort192_ren) {Tryz.sort192 with} none 0 (.func (.func fid) #[] cb.toArray) w;refine h.mono ?_;rintro e w' ⟨rfl,rfl⟩;exact⟨rfl,Below.refl _ _⟩
end
def plC(p:Pl):List PV:=[.sl p.sg.length (LT.S.enc p.sg),.sl p.vs.length (LT.T.enc p.vs),.sl p.es.length (LT.E.enc p.es),.sl p.fs.length (LT.F.enc p.fs)]
def Cz:List SV->Option (List Int×Pl)
 |[.lst .I l,.fnp 193 [] [x]] =>(match aPp.dec x with|some p=>some (l,p)|none=>none)
 |_=>none
def VO{l:List Int}{rest:List SV}{x:List Int×Pl}(h:Cz (.lst .I l::rest)=some x):∃u p,rest=[.fnp 193 [] [u]]/\aPp.dec u=some p/\x=(l,p):=by
 unfold Cz at h;split at h
 .rename_i l' u e;cases e;split at h
  .rename_i p hp;cases h;exact⟨u,p,rfl,hp,rfl⟩
  .cases h
 .cases h
noncomputable def Mo:Con:=⟨List Int×Pl,Cz,λ(l,p)=>[l.length<=1000000,PlOk p,(∀x∈l,HIn p x),OrdG (ltC (cfH p)) l],.mutR .I 3 λ(l,p)=>aY (ltC (cfH p)) l⟩
def aAt:Mo.Ok aH 192:=by
 intro l rest x hd hp;obtain⟨u,p,rfl,hu,rfl⟩:=VO hd;obtain⟨h1,h2,h3,h4⟩:=fH.2 hp;have e1:u.av= .p (.pro (plC p) 0):=(aPp.ok u p hu).trans rfl;refine⟨[.fn (.func 193) [] [.pro (plC p) 0]],?_,Uc l 193 [.pro (plC p) 0] h1 (cfH p) (λx hx y hy=> ?_) h4⟩
 .show [(match bJ [],bJ [u.av]with|some x,some y=>AV.p (.fn (.func 193) x y)|_,_=> .any)] =_;rw[e1];rfl
 .obtain⟨A,r,hA,hr,hS⟩:=MW [.int .i64 x,.int .i64 y,aPp.enc p] (x,y,p) (by show(match aI.dec (.int .i64 x),(match aI.dec (.int .i64 y),(match aPp.dec (aPp.enc p)with|some a=>some a|none=>none)with|some a,some b=>some (a,b)|_,_=>none)with|some a,some b=>some (a,b)|_,_=>none)=_;rfl) (fH.1 ⟨h2,h3 x hx,h3 y hy⟩)
  have hA2:A=[.int .i64 x,.int .i64 y,.pro (plC p) 0] :=by have h5:avs [SV.int .i64 x,.int .i64 y,aPp.enc p] =([.int .i64 x,.int .i64 y,.pro (plC p) 0] :List PV).map .p:=rfl;rw[h5]at hA;have:=congrArg bJ hA;rw[cW,cW]at this;cases this;rfl
  have hr2:r= .int .i64 (cfH p x y):=by have h6:(SV.int .i64 (cfH p x y)).av= .p r:=hr;cases h6;rfl
  subst hA2;subst hr2;exact⟨false,hS⟩
noncomputable def K7:Tab:=ap [(192,Mo)] Lv
def Is:K7.Ok aH:=aq Yx ⟨aAt,trivial⟩
def bsG(f:Int->Int)(l:List Int):Nat->Nat->Nat->Nat
 |0,i,_=>i
 |n+1,i,j=>if i<j then(if f (aM l ((i+j)/2))<0 then bsG f l n ((i+j)/2+1) j else bsG f l n i ((i+j)/2))else i
def bsP(f:Int->Int)(l:List Int):Nat:=bsG f l l.length 0 l.length
def bsF(f:Int->Int)(l:List Int):Bool:=decide (bsP f l<l.length)&&decide (f (aM l (bsP f l))=0)
def wJ{f:Int->Int}{l:List Int}:∀(n m i j:Nat),j-i<=n->j-i<=m->bsG f l n i j=bsG f l m i j
 |0,0,_,_,_,_=>rfl
 |0,m+1,i,j,h,_=>by unfold bsG;rw[if_neg (by omega)]
 |n+1,0,i,j,_,h=>by unfold bsG;rw[if_neg (by omega)]
 |n+1,m+1,i,j,h1,h2=>by
  unfold bsG;split
  .split
   .exact wJ n m _ _ (by omega) (by omega)
   .exact wJ n m _ _ (by omega) (by omega)
  .rfl
def Bm{f:Int->Int}{l:List Int}{i j:Nat}(h:i<j)(hf:f (aM l ((i+j)/2))<0):bsG f l (j-i) i j=bsG f l (j-((i+j)/2+1)) ((i+j)/2+1) j:=by obtain⟨n,hn⟩:∃n,j-i=n+1:=⟨j-i-1,by omega⟩;rw[hn,show bsG f l (n+1) i j=if i<j then(if f (aM l ((i+j)/2))<0 then bsG f l n ((i+j)/2+1) j else bsG f l n i ((i+j)/2))else i from rfl];rw[if_pos h,if_pos hf];refine wJ _ _ _ _ ?_ ?_<;>omega
def Bo{f:Int->Int}{l:List Int}{i j:Nat}(h:i<j)(hf:¬f (aM l ((i+j)/2))<0):bsG f l (j-i) i j=bsG f l ((i+j)/2-i) i ((i+j)/2):=by obtain⟨n,hn⟩:∃n,j-i=n+1:=⟨j-i-1,by omega⟩;rw[hn,show bsG f l (n+1) i j=if i<j then(if f (aM l ((i+j)/2))<0 then bsG f l n ((i+j)/2+1) j else bsG f l n i ((i+j)/2))else i from rfl];rw[if_pos h,if_neg hf];refine wJ _ _ _ _ ?_ ?_<;>omega
def A8{f:Int->Int}{l:List Int}{n i j:Nat}(h:¬i<j):bsG f l n i j=i:=by
 cases n with
 |zero=>rfl
 |succ n=>unfold bsG;rw[if_neg h]
def aCz(f:Nat){α:Type}(A:Arl α):Ar α where
 enc a:= .fnp f [] (A.enc a)
 dec s:=match s with
  | .fnp g [] b=>(match ae g f with|true=>A.dec b|false=>none)
  |_=>none
 ok s a h:=by
  split at h
  .split at h
   .rename_i b e;have:=A.ok _ _ h;simp only[SV.av,this];simp_all
   .cases h
  .cases h
 pl a:=by obtain⟨q,h⟩:=A.pl a;exact⟨.fn (.func f) [] q,by simp only[SV.av,h,avs,cW];rfl⟩
def Bn{f:Int->Int}{l:List Int}:∀(n i j:Nat),i<=j->bsG f l n i j<=j
 |0,i,j,h=>h
 |n+1,i,j,h=>by
  unfold bsG;split
  .split
   .exact Bn n _ _ (by omega)
   .exact ci (Bn n i ((i+j)/2) (by omega)) (by omega)
  .exact h
def Zu(f:Int->Int)(l:List Int):bsP f l<=l.length:=Bn _ _ _ (cO _)
def aA8:Ar (Pl×Unit):=aCz 214 (ac aPp a0)
def aA9:Ar (Pl×Unit):=aCz 195 (ac aPp a0)
def qt{i j:Nat}(h:i+j<=2000000):mO .u64 (kH iW ((i:Int)+j)) 1=(((i+j)/2:Nat):Int):=by
 show Int.fdiv (kH iW ((i:Int)+j)) (2^min 1 (Di iW))=_;have e:kH iW ((i:Int)+j)=(i:Int)+j:=by simp[kH,Di,IntKind.signed];omega
 rw[e,show min 1 (Di iW)=1 from rfl,Int.pow_one,Int.fdiv_eq_ediv_of_nonneg _ (by omega)];omega
def bsI(f:Int->Int)(l:List Int)(y:Nat×Nat):Prop:=y.1<=y.2/\y.2<=l.length/\bsG f l (y.2-y.1) y.1 y.2=bsP f l
noncomputable def CT(f:Int->Int)(l:List Int):List (Nat×Ann):=[(3,.mk (Nat×Nat) (λF _=>match np F 9,np F 10 with|some i,some j=>some (i,j)|_,_=>none) [] (λy=>[bsI f l y]) (λy=>[(9,.int .i64 (y.1:Nat)),(10,.int .i64 (y.2:Nat))]) (λ_=>[]) (λy=>y.2-y.1) λy=>[jU 5 [(11,.int .i64 (((y.1+y.2)/2:Nat):Int))]])]
noncomputable def Mm:Con:=con (ac (aL .I) (ac aV (a1 aA8))) (λ(l,d,c)=>[l.length<=1000000,PlOk c.1,bd 1000000 d,(∀x∈l,HIn c.1 x)]) (λ(l,d,c)=> .tup [.int .i64 (bsP (λx=>bg (bL c.1 x) d) l:Nat),.bool (bsF (λx=>bg (bL c.1 x) d) l)])
def aAs:Mm.Ok aH 194:=bA (a7 Is) (raw:=au) (λ(l,d,c)=>CT (λx=>bg (bL c.1 x) d) l
  ) (λ(_,_,_)=>⟨_,rfl⟩) λ(l,d,c) hp=>aw (q:=(0=(0:Int)/\(l.length:Int)=l.length/\bsI (λx=>bg (bL c.1 x) d) l (0,l.length))/\
 (∀x:Prod Nat Nat,bsI (λx_1=>bg (bL c.1 x_1) d) l x->((x.1:Int)<x.2->(aG ((x.1:Int)+x.2)/\(0:Int)<=1/\aG (mO iW (kH iW ((x.1:Int)+x.2)) 1)/\mO iW (kH iW ((x.1:Int)+x.2)) 1=(((x.1+x.2)/2:Nat):Int))/\
   (∀y:Unit,ix (((x.1+x.2)/2:Nat):Int) l.length/\PlOk c.1/\HIn c.1 (aM l ((x.1+x.2)/2))/\bd 1000000 d/\(bg (bL c.1 (aM l ((x.1+x.2)/2))) d<0->aG ((((x.1+x.2)/2:Nat):Int)+1)/\(((x.1+x.2)/2:Nat):Int)+1=(((x.1+x.2)/2+1:Nat):Int)/\(x.2:Int)=x.2/\bsI (λx_1=>bg (bL c.1 x_1) d) l ((x.1+x.2)/2+1,x.2)/\x.2-((x.1+x.2)/2+1)<x.2-x.1)/\
    (¬bg (bL c.1 (aM l ((x.1+x.2)/2))) d<0->(x.1:Int)=x.1/\(((x.1+x.2)/2:Nat):Int)=(((x.1+x.2)/2:Nat):Int)/\bsI (λx_1=>bg (bL c.1 x_1) d) l (x.1,(x.1+x.2)/2)/\(x.1+x.2)/2-x.1<x.2-x.1)))/\
  (¬(x.1:Int)<x.2->((x.1:Int)<l.length->ix (x.1:Int) l.length/\PlOk c.1/\HIn c.1 (aM l x.1)/\bd 1000000 d/\(x.1:Int)=bsP (λx_1=>bg (bL c.1 x_1) d) l/\decide (bg (bL c.1 (aM l x.1)) d=0)=bsF (λx_1=>bg (bL c.1 x_1) d) l)/\
   (¬(x.1:Int)<l.length->(x.1:Int)=bsP (λx_1=>bg (bL c.1 x_1) d) l/\false=bsF (λx_1=>bg (bL c.1 x_1) d) l)))) (by kernel_rfl) (by
  change l.length<=1000000/\PlOk c.1/\bd 1000000 d/\((∀x∈l,HIn c.1 x))at hp;obtain⟨hl,P,hd,hm⟩:=hp;have hm:∀k,k<l.length->HIn c.1 (aM l k):=λk hk=>hm _ (by rw[show aM l k=l[k]from cS hk];exact eR hk)
  refine⟨⟨rfl,rfl,cO _,az _,rfl⟩,λy hy=>⟨λhlt=>⟨⟨by unfold aG;have:=hy.2.1;have:=hy.1;omega,by omega,?_,qt (by have:=hy.2.1;have:=hy.1;omega)⟩,λ_=>⟨by have:=hy.2.1;unfold ix;omega,P,hm _ (by have:=hy.2.1;omega),hd,λhn=>⟨by have:=hy.2.1;unfold aG;omega,by omega,rfl,⟨?_,hy.2.1,?_⟩,?_⟩,λhn=>⟨rfl,rfl,⟨?_,?_,?_⟩,?_⟩⟩⟩,λhlt=> ?_⟩⟩
  .rw[qt (by have:=hy.2.1;have:=hy.1;omega)];have:=hy.2.1;unfold aG;omega
  .dsimp only;omega
  .dsimp only;rw[<-hy.2.2];exact(Bm (by omega) hn).symm
  .omega
  .dsimp only;omega
  .have:=hy.2.1;dsimp only;omega
  .dsimp only;rw[<-hy.2.2];exact(Bo (by omega) hn).symm
  .omega
  .have e:bsP (λx=>bg (bL c.1 x) d) l=y.1:=by rw[<-hy.2.2];exact A8 (by omega)
   have:=hy.2.1;have:=hy.1;refine⟨λh1=>⟨by unfold ix;omega,P,hm _ (by omega),hd,by rw[e],?_⟩,λh1=>⟨by rw[e],?_⟩⟩
   .unfold bsF;rw[e,show decide (y.1<l.length)=true from decide_eq_true (by omega),jH]
   .unfold bsF;rw[e,show decide (y.1<l.length)=false from decide_eq_false (by omega),ll])
noncomputable def K5:Tab:=ap [(194,Mm)] K7
def Iq:K5.Ok aH:=aq Is ⟨aAs,trivial⟩
def twX(h:Int):Int:=eM .i64 h 1
def XY(n:Nat):n^^^1=if n % 2=0 then n+1 else n-1:=by
 have h1:(n^^^1)/2=n/2:=by have:=Nat.xor_div_two_pow (a:=n) (b:=1) (n:=1);simpa using this
 have h2:(n^^^1) % 2=(n % 2)^^^1:=by have:=Nat.xor_mod_two_pow (a:=n) (b:=1) (n:=1);simpa using this
 rcases Nat.mod_two_eq_zero_or_one n with h|h
 .rw[h]at h2;have h3:(0:Nat)^^^1=1:=by decide
  rw[h3]at h2;rw[if_pos h];omega
 .rw[h]at h2;have h3:(1:Nat)^^^1=0:=by decide
  rw[h3]at h2;rw[if_neg (by omega)];omega
def wg{h:Int}(h0:0<=h)(h1:h<4611686018427387904):twX h=if h % 2=0 then h+1 else h-1:=by
 obtain⟨n,rfl⟩:=yb h0;have e:(BitVec.ofInt 64 (n:Int)^^^BitVec.ofInt 64 1).toNat=n^^^1:=by
  rw[BitVec.toNat_xor]
  congr 1
  rw[BitVec.toNat_ofInt];omega
 show kH .i64 ((BitVec.ofInt 64 (n:Int)^^^BitVec.ofInt 64 1).toNat:Int)=_;rw[e,XY];have w:∀m:Nat,(m:Int)<9223372036854775807->kH .i64 (m:Int)=m:=λm hm=>Ew (by unfold aG;omega);split
 .rw[w _ (by omega),if_pos (by omega)];omega
 .rw[w _ (by omega),if_neg (by omega)];omega
def HIn.tw{p:Pl}(P:PlOk p){h:Int}(H:HIn p h):HIn p (twX h):=by have:=P.le;obtain⟨h0,h1⟩:=H;rw[wg h0 (by omega)];unfold HIn;split<;>omega
def nxP(p:Pl)(L:List (List Int))(h:Int):Int:=
 let l:=aO L (stP p (twX h)).toNat
 if l.length=0 then-1 else aM l ((bsP (λx=>bg (bL p x) (bL p (twX h))) l+l.length-1) % l.length)
structure LvIn(p:Pl)(L:List (List Int)):Prop where
 len:L.length=p.vs.length
 row:∀l∈L,l.length<=1000000/\∀x∈l,HIn p x
noncomputable def Mr:Con:=con (ac aPl (ac aI (a1 (aL .Q)))) (λ(p,h,L)=>[PlOk p,HIn p h,LvIn p L]) (λ(p,h,L)=> .int .i64 (nxP p L h)
 )
def aAw:Mr.Ok aH 153:=bA (a7 Iq) (raw:=au) (λ(_,_,_)=>[]) (λ(_,_,_)=>⟨_,rfl⟩) λ(p,h,L) hp=>aw (q:=PlOk p/\HIn p (eM d6 h 1)/\ix (stP p (eM d6 h 1)) L.length/\(((aO L (stP p (eM d6 h 1)).toNat).length:Int)=0-> -1=nxP p L h)/\
 (¬((aO L (stP p (eM d6 h 1)).toNat).length:Int)=0->PlOk p/\HIn p (eM d6 h 1)/\(aO L (stP p (eM d6 h 1)).toNat).length<=1000000/\PlOk p/\bd 1000000 (bL p (eM d6 h 1))/\(∀x:Int,x∈aO L (stP p (eM d6 h 1)).toNat->HIn p x)/\aG ((bsP (λx=>bg (bL p x) (bL p (eM d6 h 1))) (aO L (stP p (eM d6 h 1)).toNat):Int)+(aO L (stP p (eM d6 h 1)).toNat).length)/\aG ((bsP (λx=>bg (bL p x) (bL p (eM d6 h 1))) (aO L (stP p (eM d6 h 1)).toNat):Int)+(aO L (stP p (eM d6 h 1)).toNat).length-1)/\((aO L (stP p (eM d6 h 1)).toNat).length:Int)≠0/\ix (dr ((bsP (λx=>bg (bL p x) (bL p (eM d6 h 1))) (aO L (stP p (eM d6 h 1)).toNat):Int)+(aO L (stP p (eM d6 h 1)).toNat).length-1) ((aO L (stP p (eM d6 h 1)).toNat).length:Int)) (aO L (stP p (eM d6 h 1)).toNat).length/\aM (aO L (stP p (eM d6 h 1)).toNat) (dr ((bsP (λx=>bg (bL p x) (bL p (eM d6 h 1))) (aO L (stP p (eM d6 h 1)).toNat):Int)+(aO L (stP p (eM d6 h 1)).toNat).length-1) ((aO L (stP p (eM d6 h 1)).toNat).length:Int)).toNat=nxP p L h)) (by kernel_rfl) (by
  change PlOk p/\HIn p h/\LvIn p L at hp;obtain⟨P,H,V⟩:=hp;have T:=H.tw P;have hs:=k9 P T;have el:∀x:Int,eM .i64 x 1=twX x:=λ_=>rfl;simp only[el];have hmem:aO L (stP p (twX h)).toNat∈L:=by
   have:(stP p (twX h)).toNat<L.length:=by rw[V.len];omega
   rw[show aO L (stP p (twX h)).toNat=L[(stP p (twX h)).toNat]from cS this];exact eR this
  obtain⟨r1,r2⟩:=V.row _ hmem;have hn:nxP p L h=if(aO L (stP p (twX h)).toNat).length=0 then-1 else aM (aO L (stP p (twX h)).toNat) ((bsP (λx=>bg (bL p x) (bL p (twX h))) (aO L (stP p (twX h)).toNat)+(aO L (stP p (twX h)).toNat).length-1) % (aO L (stP p (twX h)).toNat).length):=rfl;have hb:=Zu (λx=>bg (bL p x) (bL p (twX h))) (aO L (stP p (twX h)).toNat);generalize aO L (stP p (twX h)).toNat=l at*;generalize hk:bsP (λx=>bg (bL p x) (bL p (twX h))) l=k at*;have hd:=kO (tV P T) (show(4000:Int)<=1000000 by decide);refine⟨P,T,by have:=V.len;unfold ix;omega,λh0=> ?_,λh0=> ?_⟩
  .rw[hn,if_pos (by omega)]
  .have e1:dr ((k:Int)+l.length-1) l.length=(((k+l.length-1) % l.length:Nat):Int):=by
    rw[Int.tmod_eq_emod_of_nonneg (by omega)];have:((k:Int)+l.length-1)=((k+l.length-1:Nat):Int):=by omega
    rw[this];rfl
   have e2:(k+l.length-1) % l.length<l.length:=eO _ (by omega);rw[e1];refine⟨P,T,r1,P,hd,r2,by unfold aG;omega,by unfold aG;omega,by omega,by unfold ix;omega,?_⟩;rw[hn,if_neg (by omega)];rfl)
noncomputable def LV:Tab:=ap [(153,Mr)] K5
def Iv:LV.Ok aH:=aq Iq ⟨aAw,trivial⟩
noncomputable def Ml:Con:=con (ac (aL .I) (ac aV (a1 aA9))) (λ(l,d,c)=>[l.length<=1000000,PlOk c.1,bd 1000000 d,(∀x∈l,HIn c.1 x)]) (λ(l,d,c)=> .tup [.int .i64 (bsP (λx=>bg (bL c.1 x) d) l:Nat),.bool (bsF (λx=>bg (bL c.1 x) d) l)])
def aAr:Ml.Ok aH 194:=bA (a7 Iv) (raw:=au) (λ(l,d,c)=>CT (λx=>bg (bL c.1 x) d) l
  ) (λ(_,_,_)=>⟨_,rfl⟩) λ(l,d,c) hp=>aw (q:=(0=(0:Int)/\(l.length:Int)=l.length/\bsI (λx=>bg (bL c.1 x) d) l (0,l.length))/\
 (∀x:Prod Nat Nat,bsI (λx_1=>bg (bL c.1 x_1) d) l x->((x.1:Int)<x.2->(aG ((x.1:Int)+x.2)/\(0:Int)<=1/\aG (mO iW (kH iW ((x.1:Int)+x.2)) 1)/\mO iW (kH iW ((x.1:Int)+x.2)) 1=(((x.1+x.2)/2:Nat):Int))/\
   (∀y:Unit,ix (((x.1+x.2)/2:Nat):Int) l.length/\PlOk c.1/\HIn c.1 (aM l ((x.1+x.2)/2))/\bd 1000000 d/\(bg (bL c.1 (aM l ((x.1+x.2)/2))) d<0->aG ((((x.1+x.2)/2:Nat):Int)+1)/\(((x.1+x.2)/2:Nat):Int)+1=(((x.1+x.2)/2+1:Nat):Int)/\(x.2:Int)=x.2/\bsI (λx_1=>bg (bL c.1 x_1) d) l ((x.1+x.2)/2+1,x.2)/\x.2-((x.1+x.2)/2+1)<x.2-x.1)/\
    (¬bg (bL c.1 (aM l ((x.1+x.2)/2))) d<0->(x.1:Int)=x.1/\(((x.1+x.2)/2:Nat):Int)=(((x.1+x.2)/2:Nat):Int)/\bsI (λx_1=>bg (bL c.1 x_1) d) l (x.1,(x.1+x.2)/2)/\(x.1+x.2)/2-x.1<x.2-x.1)))/\
  (¬(x.1:Int)<x.2->((x.1:Int)<l.length->ix (x.1:Int) l.length/\PlOk c.1/\HIn c.1 (aM l x.1)/\bd 1000000 d/\(x.1:Int)=bsP (λx_1=>bg (bL c.1 x_1) d) l/\decide (bg (bL c.1 (aM l x.1)) d=0)=bsF (λx_1=>bg (bL c.1 x_1) d) l)/\
   (¬(x.1:Int)<l.length->(x.1:Int)=bsP (λx_1=>bg (bL c.1 x_1) d) l/\false=bsF (λx_1=>bg (bL c.1 x_1) d) l)))) (by kernel_rfl) (by
  change l.length<=1000000/\PlOk c.1/\bd 1000000 d/\((∀x∈l,HIn c.1 x))at hp;obtain⟨hl,P,hd,hm⟩:=hp;have hm:∀k,k<l.length->HIn c.1 (aM l k):=λk hk=>hm _ (by rw[show aM l k=l[k]from cS hk];exact eR hk)
  refine⟨⟨rfl,rfl,cO _,az _,rfl⟩,λy hy=>⟨λhlt=>⟨⟨by unfold aG;have:=hy.2.1;have:=hy.1;omega,by omega,?_,qt (by have:=hy.2.1;have:=hy.1;omega)⟩,λ_=>⟨by have:=hy.2.1;unfold ix;omega,P,hm _ (by have:=hy.2.1;omega),hd,λhn=>⟨by have:=hy.2.1;unfold aG;omega,by omega,rfl,⟨?_,hy.2.1,?_⟩,?_⟩,λhn=>⟨rfl,rfl,⟨?_,?_,?_⟩,?_⟩⟩⟩,λhlt=> ?_⟩⟩
  .rw[qt (by have:=hy.2.1;have:=hy.1;omega)];have:=hy.2.1;unfold aG;omega
  .dsimp only;omega
  .dsimp only;rw[<-hy.2.2];exact(Bm (by omega) hn).symm
  .omega
  .dsimp only;omega
  .have:=hy.2.1;dsimp only;omega
  .dsimp only;rw[<-hy.2.2];exact(Bo (by omega) hn).symm
  .omega
  .have e:bsP (λx=>bg (bL c.1 x) d) l=y.1:=by rw[<-hy.2.2];exact A8 (by omega)
   have:=hy.2.1;have:=hy.1;refine⟨λh1=>⟨by unfold ix;omega,P,hm _ (by omega),hd,by rw[e],?_⟩,λh1=>⟨by rw[e],?_⟩⟩
   .unfold bsF;rw[e,show decide (y.1<l.length)=true from decide_eq_true (by omega),jH]
   .unfold bsF;rw[e,show decide (y.1<l.length)=false from decide_eq_false (by omega),ll])
noncomputable def K4:Tab:=ap [(194,Ml)] LV
def Ip:K4.Ok aH:=aq Iv ⟨aAr,trivial⟩
noncomputable def Me:Con:=con (ac (aL .I) (a1 aI)) (λ(l,_)=>[l.length<=1000000]) (λ(l,q)=> .int .i64 (fI (λu=>decide (q=u)) l))
def aAk:Me.Ok aH 243:=bA (a7 Ip) (raw:=au) (λ(l,q)=>[cnt 2 8 l.length (af λj=>decide (q=aM l j)=false)]
  ) (λ(_,_)=>⟨_,rfl⟩) λ(l,q) hp=>aw (q:=(0=(0:Int)/\(0:Nat)<=l.length/\af (λj=>decide (q=aM l j)=false) 0)/\
 (∀x:Nat,x<=l.length/\af (λj=>decide (q=aM l j)=false) x->((x:Int)<l.length->ix (x:Int) l.length/\(q=aM l x->(x:Int)=fI (λu=>decide (q=u)) l)/\
   (¬q=aM l x->aG ((x:Int)+1)/\(x:Int)+1=((x+1:Nat):Int)/\x+1<=l.length/\af (λj=>decide (q=aM l j)=false) (x+1)/\l.length-(x+1)<l.length-x))/\
  (¬(x:Int)<l.length-> -1=fI (λu=>decide (q=u)) l))) (by kernel_rfl) (by
  change l.length<=1000000 at hp
  repeat' first|with_reducible apply c6|with_reducible intro
  all_goals repeat with_reducible cases‹_/\_›
  all_goals first|assumption|rfl|exact trivial|exact nb ‹_› |exact nb' ‹_› |omega|exact fK (by omega)|(unfold ix;omega)|(unfold aG;omega)|exact d8 _|exact b8 ‹_› ‹_› |(refine b8 ‹_› ?_;simp_all;done)|exact kT (t:= .I) (by omega) (decide_eq_true ‹_›) ‹_› |(obtain rfl:_=l.length:=oW ‹_› (by omega);exact lH (t:= .I) ‹_›)|grind)
noncomputable def Kd:Tab:=ap [(243,Me)] K4
def Ij:Kd.Ok aH:=aq Ip ⟨aAk,trivial⟩
noncomputable def Mj:Con:=con (ac (aL .I) (a1 aI)) (λ(l,_)=>[l.length<=1000000]) (λ(l,q)=> .bool (decide (q∈l))
 )
def aAp:Mj.Ok aH 196:=bA (a7 Ij) (raw:=au) (λ(_,_)=>[]) (λ(_,_)=>⟨_,rfl⟩) λ(l,q) hp=>aw (q:=l.length<=1000000/\decide (0<=fI (λu=>decide (q=u)) l)=decide (q∈l)) (by kernel_rfl) (by
 change l.length<=1000000 at hp;refine⟨hp,?_⟩;by_cases h:q∈l
 .have:0<=fI (λu=>decide (q=u)) l:=by
   unfold fI;cases hf:l.findIdx? (λu=>decide (q=u))with
   |some i=>exact Int.natCast_nonneg i
   |none=>have:=Rq.1 hf q h;simp at this
  rw[decide_eq_true h,decide_eq_true this]
 .have:¬0<=fI (λu=>decide (q=u)) l:=by
   have e:l.findIdx? (λu=>decide (q=u))=none:=Rq.2 λx hx=>by simp;intro e;exact h (e▸hx)
   unfold fI;rw[e];decide
  rw[decide_eq_false h,decide_eq_false this])
noncomputable def K2:Tab:=ap [(196,Mj)] Kd
def In:K2.Ok aH:=aq Ij ⟨aAp,trivial⟩
def H2{p:Pl}(P:PlOk p){c:List Int}(hc:0<c.length)(h:∀x∈c,HIn p x):∀k,k<=c.length->0<=lowK p c k/\lowK p c k<p.vs.length
 |0,_=>k9 P (h (aM c 0) (by rw[show aM c 0=c[0]from cS hc];exact eR hc))
 |k+1,hk=>by
  have h1:=H2 P hc h k (by omega);have h2:=k9 P (h (aM c k) (by rw[show aM c k=c[k]from cS (show k<c.length by omega)];exact eR (show k<c.length by omega)));show 0<=min (lowK p c k) (stP p (aM c k))/\min (lowK p c k) (stP p (aM c k))<_;omega
def wT{p:Pl}(P:PlOk p){c:List Int}(hc:0<c.length)(h:∀x∈c,HIn p x):0<=bv p c/\bv p c<p.vs.length:=H2 P hc h _ (az _)
def inP(p:Pl)(c:List Int)(L:List (List Int)):Bool:=
 let l:=aO L (bv p c).toNat
 if bsF (λx=>bg (bL p x) ⟨0,-1⟩) l=true then false else decide (twX (aM l (bsP (λx=>bg (bL p x) ⟨0,-1⟩) l % l.length))∈c)
noncomputable def Mz:Con:=con (ac aPl (ac (aL .I) (a1 (aL .Q)))) (λ(p,c,L)=>[PlOk p,LvIn p L,0<c.length,c.length<=1000000,(∀h∈c,HIn p h),0<(aO L (bv p c).toNat).length]) (λ(p,c,L)=> .bool (inP p c L)
 )
def aAF:Mz.Ok aH 117:=bA (a7 In) (raw:=au) (λ(_,_,_)=>[]) (λ(_,_,_)=>⟨_,rfl⟩) λ(p,c,L) hp=>aw (q:=PlOk p/\(0:Nat)<c.length/\c.length<=1000000/\(∀h:Int,h∈c->HIn p h)/\ix (bv p c) L.length/\(aO L (bv p c).toNat).length<=1000000/\PlOk p/\bd 1000000 (⟨0,-1⟩:aDb)/\(∀x:Int,x∈aO L (bv p c).toNat->HIn p x)/\(bsF (λx=>bg (bL p x) (⟨0,-1⟩:aDb)) (aO L (bv p c).toNat)=true->false=inP p c L)/\
 (bsF (λx=>bg (bL p x) (⟨0,-1⟩:aDb)) (aO L (bv p c).toNat)=false->((aO L (bv p c).toNat).length:Int)≠0/\ix ((bsP (λx=>bg (bL p x) (⟨0,-1⟩:aDb)) (aO L (bv p c).toNat) % (aO L (bv p c).toNat).length:Nat):Int) (aO L (bv p c).toNat).length/\c.length<=1000000/\decide (eM d6 (aM (aO L (bv p c).toNat) (bsP (λx=>bg (bL p x) (⟨0,-1⟩:aDb)) (aO L (bv p c).toNat) % (aO L (bv p c).toNat).length)) 1∈c)=inP p c L)) (by kernel_rfl) (by
  change PlOk p/\LvIn p L/\0<c.length/\c.length<=1000000/\((∀h∈c,HIn p h))/\0<(aO L (bv p c).toNat).length at hp;obtain⟨P,V,h1,h2,h3,hz⟩:=hp;have hi:=wT P h1 h3;have el:∀x:Int,eM .i64 x 1=twX x:=λ_=>rfl;simp only[el];have hn:inP p c L=if bsF (λx=>bg (bL p x) ⟨0,-1⟩) (aO L (bv p c).toNat)=true then false else decide (twX (aM (aO L (bv p c).toNat) (bsP (λx=>bg (bL p x) ⟨0,-1⟩) (aO L (bv p c).toNat) % (aO L (bv p c).toNat).length))∈c):=rfl;have hmem:aO L (bv p c).toNat∈L:=by
   have:(bv p c).toNat<L.length:=by rw[V.len];omega
   rw[show aO L (bv p c).toNat=L[(bv p c).toNat]from cS this];exact eR this
  obtain⟨r1,r2⟩:=V.row _ hmem;refine⟨P,h1,h2,h3,by have:=V.len;unfold ix;omega,r1,P,by unfold bd;decide,r2,λh=> ?_,λh=>⟨by omega,?_,h2,?_⟩⟩
  .rw[hn,if_pos h]
  .have:=eO (bsP (λx=>bg (bL p x) ⟨0,-1⟩) (aO L (bv p c).toNat)) hz;unfold ix;omega
  .rw[hn,if_neg (by rw[h];decide)])
noncomputable def Lw:Tab:=ap [(117,Mz)] K2
def I4:Lw.Ok aH:=aq In ⟨aAF,trivial⟩
def lvR(p:Pl)(q:Int->Bool)(v k:Nat):List Int:=((bO k).map λh:Nat=>(h:Int)).filter λh=>q h&&decide (stP p h=v)
def lvF(p:Pl)(q:Int->Bool)(k:Nat):List (List Int):=(bO p.vs.length).map λv=>lvR p q v k
def lvM(p:Pl)(q:Int->Bool)(k:Nat):List (List Int):=(bO p.vs.length).map λv=>if v<k then aY (ltC (cfH p)) (lvR p q v (2*p.es.length))else lvR p q v (2*p.es.length)
def lvP(p:Pl)(q:Int->Bool):List (List Int):=lvM p q p.vs.length
def LvO(p:Pl)(q:Int->Bool):Prop:=∀v,v<p.vs.length->OrdG (ltC (cfH p)) (lvR p q v (2*p.es.length))
def aC:Int->Bool:=λ_=>true
def cyT(p:Pl)(q:Int->Bool)(L:List (List Int)):Nat->List Bool->Int->List Int->List Bool×List Int
 |0,D,_,c=>(D,c)
 |f+1,D,h,c=>if 0<=h/\cQ D h.toNat=false/\q h=true then cyT p q L f (D.set h.toNat true) (nxP p L h) (c++[h])else(D,c)
def cyS(p:Pl)(q:Int->Bool)(L:List (List Int))(D:List Bool)(k:Nat):List Bool×List Int:=cyT p q L (D.count false) D (k:Int) []
def cyO(p:Pl)(q:Int->Bool)(L:List (List Int)):Nat->List Bool×List (List Int)
 |0=>(bS (2*p.es.length) false,[])
 |k+1=>((cyS p q L (cyO p q L k).1 k).1,if 0<(cyS p q L (cyO p q L k).1 k).2.length then(cyO p q L k).2++[(cyS p q L (cyO p q L k).1 k).2]else(cyO p q L k).2)
def cyP(p:Pl)(q:Int->Bool):List (List Int):=(cyO p q (lvP p q) (2*p.es.length)).2
abbrev CyY:=List Bool×Int×List Int
structure CyI(p:Pl)(q:Int->Bool)(L:List (List Int))(D0:List Bool)(k0:Nat)(y:CyY):Prop where
 len:y.1.length=2*p.es.length
 pos:y.2.1= -1\/HIn p y.2.1
 run:cyT p q L (y.1.count false) y.1 y.2.1 y.2.2=cyS p q L D0 k0
 cnt:y.2.2.length+y.1.count false<=2*p.es.length
 mem:∀h∈y.2.2,HIn p h
def AD(p:Pl)(q:Int->Bool)(v k:Nat):lvR p q v (k+1)=lvR p q v k++(if(q k&&decide (stP p k=v))=true then [(k:Int)]else []):=by
 unfold lvR;rw[sA,d7,List.filter_append]
 congr 1
 rw[List.map_singleton,List.filter_cons,List.filter_nil]
def pK{p:Pl}{q:Int->Bool}{v k:Nat}{h:Int}:h∈lvR p q v k↔0<=h/\h<k/\q h=true/\stP p h=v:=by
 unfold lvR;rw[List.mem_filter,cF];constructor
 .rintro⟨⟨a,ha,rfl⟩,h2⟩;simp only[cD,decide_eq_true_eq]at h2;have:=dY.1 ha;exact⟨by omega,by omega,h2.1,h2.2⟩
 .rintro⟨h1,h2,h3,h4⟩;exact⟨⟨h.toNat,dY.2 (by omega),by omega⟩,by simp[h3,h4]⟩
def pL(p:Pl)(q:Int->Bool)(v k:Nat):(lvR p q v k).length<=k:=by unfold lvR;exact ci (List.length_filter_le _ _) (by simp)
def tT{α:Type}{f:Nat->List α}{n v:Nat}(h:v<n):((bO n).map f).getD v [] =f v:=by rw[bq,dw,kg h];rfl
def GV{α:Type}{f g:Nat->List α}{n v:Nat}{l:List α}(hv:g v=l)(ho:∀u,u≠v->g u=f u):((bO n).map f).set v l=(bO n).map g:=by
 apply ke;intro i;rw[gZ,dw,dw];by_cases hi:i<n
 .rw[kg hi];by_cases e:v=i
  .subst e;simp[hi,hv]
  .rw[if_neg e];simp[ho i (λh=>e h.symm)]
 .rw[eQ (l:=bO n) (by simp;omega)];split
  .rename_i e;subst e;simp[hi]
  .rfl
def AF{p:Pl}{q:Int->Bool}{k:Nat}(hq:q k=true)(hs:0<=stP p k/\stP p k<p.vs.length):(lvF p q k).set (stP p k).toNat ((lvF p q k).getD (stP p k).toNat [] ++[(k:Int)])=lvF p q (k+1):=by
 unfold lvF;rw[tT (by omega)];refine GV ?_ λu hu=> ?_
 .rw[AD,hq,if_pos (by simp;omega)]
 .rw[AD,hq,if_neg (by simp;omega),je]
def AE(p:Pl)(q:Int->Bool):lvF p q (2*p.es.length)=lvM p q 0:=by unfold lvF lvM;exact lk λv _=>(if_neg (Nat.not_lt_zero v)).symm
def tz{p:Pl}{q:Int->Bool}{k v:Nat}(h:v<p.vs.length):(lvM p q k).getD v [] =if v<k then aY (ltC (cfH p)) (lvR p q v (2*p.es.length))else lvR p q v (2*p.es.length):=tT h
def Aq{p:Pl}{q:Int->Bool}{k:Nat}(h:k<p.vs.length):(lvM p q k).set k (aY (ltC (cfH p)) ((lvM p q k).getD k []))=lvM p q (k+1):=by
 rw[tz h,if_neg (Nat.lt_irrefl k)];unfold lvM;refine GV ?_ λu hu=> ?_
 .rw[if_pos (Nat.lt_succ_self k)]
 .by_cases h1:u<k
  .rw[if_pos h1,if_pos (by omega)]
  .rw[if_neg h1,if_neg (by omega)]
def As(p:Pl)(q:Int->Bool)(k:Nat):(lvF p q k).length=p.vs.length:=by unfold lvF;simp
def pM(p:Pl)(q:Int->Bool)(k:Nat):(lvM p q k).length=p.vs.length:=by unfold lvM;simp
def qu{p:Pl}{q:Int->Bool}{v:Nat}:∀h∈lvR p q v (2*p.es.length),HIn p h:=λh hm=>by obtain⟨h1,h2,_⟩:=pK.1 hm;exact⟨h1,by omega⟩
def ni{p:Pl}(P:PlOk p)(q:Int->Bool):LvIn p (lvP p q):=by refine⟨pM _ _ _,λl hl=> ?_⟩;unfold lvP lvM at hl;obtain⟨v,hv,rfl⟩:=cF.1 hl;have hv:=dY.1 hv;have:=P.le;rw[if_pos hv];have hp:=fP (ltC (cfH p)) (lvR p q v (2*p.es.length));refine⟨?_,λx hx=>qu x (hp.mem_iff.1 hx)⟩;have:=pL p q v (2*p.es.length);rw[hp.length_eq];omega
def BU{p:Pl}(P:PlOk p){L:List (List Int)}(V:LvIn p L){h:Int}(H:HIn p h):nxP p L h= -1\/HIn p (nxP p L h):=by
 have T:=H.tw P;have hs:=k9 P T;have hmem:aO L (stP p (twX h)).toNat∈L:=by
  have:(stP p (twX h)).toNat<L.length:=by rw[V.len];omega
  rw[show aO L (stP p (twX h)).toNat=L[(stP p (twX h)).toNat]from cS this];exact eR this
 obtain⟨r1,r2⟩:=V.row _ hmem;unfold nxP;dsimp only;split
 .exact .inl rfl
 .rename_i h0;refine .inr (r2 _ ?_);have hlt:=eO (bsP (λx=>bg (bL p x) (bL p (twX h))) (aO L (stP p (twX h)).toNat)+(aO L (stP p (twX h)).toNat).length-1) (show 0<(aO L (stP p (twX h)).toNat).length by omega);rw[show aM (aO L (stP p (twX h)).toNat) _=_ from cS hlt];exact eR hlt
def qQ{l:List Bool}:∀{i:Nat},i<l.length->cQ l i=false->l.count false=(l.set i true).count false+1:=by
 induction l with
 |nil=>intro i h _;simp at h
 |cons b l ih=>
  intro i hi h;cases i with
  |zero=>
   have:b=false:=h;subst this;rw[List.set_cons_zero,List.count_cons_self,List.count_cons_of_ne (by decide)]
  |succ i=>
   have:=ih (i:=i) (by simpa using hi) h;rw[List.set_cons_succ,List.count_cons,List.count_cons,this];omega
def wY{p:Pl}{q:Int->Bool}{L:List (List Int)}{f:Nat}{D:List Bool}{h:Int}{c:List Int}(hn:¬(0<=h/\cQ D h.toNat=false/\q h=true)):cyT p q L f D h c=(D,c):=by
 cases f with
 |zero=>rfl
 |succ f=>exact if_neg hn
def w8{p:Pl}{q:Int->Bool}{L:List (List Int)}{f:Nat}{D:List Bool}{h:Int}{c:List Int}(hn:0<=h/\cQ D h.toNat=false/\q h=true):cyT p q L (f+1) D h c=cyT p q L f (D.set h.toNat true) (nxP p L h) (c++[h]):=if_pos hn
def IS{p:Pl}(P:PlOk p){q:Int->Bool}{L:List (List Int)}(V:LvIn p L):∀(f:Nat) (D:List Bool) (h:Int) (c:List Int),D.length=2*p.es.length->(h= -1\/HIn p h)->c.length+D.count false<=2*p.es.length->(∀x∈c,HIn p x)->(cyT p q L f D h c).1.length=2*p.es.length/\(cyT p q L f D h c).2.length<=2*p.es.length/\∀x∈(cyT p q L f D h c).2,HIn p x
 |0,D,h,c,h1,_,h3,h4=>⟨h1,by show c.length<=_;omega,h4⟩
 |f+1,D,h,c,h1,h2,h3,h4=>by
  by_cases hn:0<=h/\cQ D h.toNat=false/\q h=true
  .rw[w8 hn]
   have H:HIn p h:=by rcases h2 with rfl|h2; · omega
                      .exact h2
   have hc:=qQ (l:=D) (i:=h.toNat) (by have:=H.2;omega) hn.2.1;refine IS P V f _ _ _ (by rw[fA];exact h1) (BU P V H) (by rw[dh,eD];omega) λx hx=> ?_;rcases eK.1 hx with hx|hx
   .exact h4 x hx
   .rw[bM.1 hx];exact H
  .rw[wY hn];exact⟨h1,by show c.length<=_;omega,h4⟩
def tX{p:Pl}(P:PlOk p){q:Int->Bool}{L:List (List Int)}(V:LvIn p L):∀k,k<=2*p.es.length->(cyO p q L k).1.length=2*p.es.length/\(cyO p q L k).2.length<=k/\∀c∈(cyO p q L k).2,0<c.length/\c.length<=2*p.es.length/\∀x∈c,HIn p x
 |0,_=>⟨mg,az _,λc hc=>(dg hc).elim⟩
 |k+1,h=>by
  obtain⟨h1,h2,h3⟩:=tX P V k (by omega);have hc:(cyO p q L k).1.count false<=2*p.es.length:=by rw[<-h1];exact List.count_le_length
  obtain⟨t1,t2,t3⟩:=IS (q:=q) P V ((cyO p q L k).1.count false) (cyO p q L k).1 (k:Int) [] h1 (.inr ⟨by omega,by omega⟩) (by simp only[iI];omega) (λx hx=>(dg hx).elim);refine⟨t1,?_,?_⟩
  .show(if 0<(cyS p q L (cyO p q L k).1 k).2.length then(cyO p q L k).2++[(cyS p q L (cyO p q L k).1 k).2]else(cyO p q L k).2).length<=_;split
   .rw[dh,eD];omega
   .omega
  .show∀c∈(if 0<(cyS p q L (cyO p q L k).1 k).2.length then(cyO p q L k).2++[(cyS p q L (cyO p q L k).1 k).2]else(cyO p q L k).2),_;split
   .rename_i h5;intro c hc;rcases eK.1 hc with hc|hc
    .exact h3 c hc
    .rw[bM.1 hc];exact⟨h5,t2,t3⟩
   .exact h3
def CyI.start{p:Pl}{q:Int->Bool}{L:List (List Int)}{D:List Bool}{k:Nat}(h1:D.length=2*p.es.length)(hk:k<2*p.es.length):CyI p q L D k (D,((k:Int),([] :List Int))) where
 len:=h1
 pos:= .inr ⟨by dsimp only;omega,by dsimp only;omega⟩
 run:=rfl
 cnt:=by have:D.count false<=D.length:=List.count_le_length;simp only[iI];omega
 mem:=λh hh=>(dg hh).elim
def CyI.hin{p:Pl}{q:Int->Bool}{L:List (List Int)}{D:List Bool}{k:Nat}{y:CyY}(I:CyI p q L D k y)(h:0<=y.2.1):HIn p y.2.1:=by
 rcases I.pos with e|e
 .omega
 .exact e
def CyI.step{p:Pl}(P:PlOk p){q:Int->Bool}{L:List (List Int)}(V:LvIn p L){D:List Bool}{k:Nat}{y:CyY}(I:CyI p q L D k y)(h:0<=y.2.1)(hb:cQ y.1 y.2.1.toNat=false)(hq:q y.2.1=true):CyI p q L D k (y.1.set y.2.1.toNat true,(nxP p L y.2.1,y.2.2++[y.2.1]))/\(y.1.set y.2.1.toNat true).count false<y.1.count false:=by
 have H:=I.hin h;have hl:=I.len;have hc:=qQ (l:=y.1) (i:=y.2.1.toNat) (by have:=H.2;omega) hb;have:=I.cnt;refine⟨⟨by dsimp only;rw[fA];exact hl,BU P V H,?_,?_,?_⟩,by omega⟩
 .dsimp only;rw[<-I.run,hc,w8 ⟨h,hb,hq⟩]
 .dsimp only;rw[dh,eD];omega
 .intro x hx;rcases eK.1 hx with hx|hx
  .exact I.mem x hx
  .rw[bM.1 hx];exact H
def CyI.stop{p:Pl}{q:Int->Bool}{L:List (List Int)}{D:List Bool}{k:Nat}{y:CyY}(I:CyI p q L D k y)(h:¬(0<=y.2.1/\cQ y.1 y.2.1.toNat=false/\q y.2.1=true)):y.2.2=(cyS p q L D k).2/\y.1=(cyS p q L D k).1:=by have:=I.run;rw[wY h]at this;rw[<-this];exact⟨rfl,rfl⟩
noncomputable def M1:Con:=con (ac aPl (a1 (aF 115))) (λ(p,_)=>[PlOk p,LvO p aC]) (λ(p,_)=> .lst .Q (lvP p aC))
def aAG:M1.Ok aH 116:=bA (a7 I4) (raw:=au) (λ(p,_)=>[lp 3 17 (2*p.es.length) (λ_=>[]) [] (λ_=>[]) (λk=>[(5,.fam 43 3 .I (lvF p aC k) [])]),lp 9 40 p.vs.length (λ_=>[]) [] (λ_=>[]) (λk=>[(5,.fam 43 3 .I (lvM p aC k) [])])]) (λ(_,_)=>⟨_,rfl⟩) λ(p,c) hp=>aw (q:=0<=(p.vs.length:Int)/\(p.vs.length:Int)=p.vs.length/\(p.vs.length:Int)<=1000000/\p.vs.length*24<=1000000000/\aG (2*(p.es.length:Int))/\(0=(0:Int)/\bS p.vs.length ([] :List Int)=lvF p aC 0/\(0:Nat)<=2*p.es.length)/\
 (∀x:Nat,x<=2*p.es.length->((x:Int)<2*p.es.length->(true=true->PlOk p/\HIn p (x:Int)/\PlOk p/\HIn p (x:Int)/\ix (stP p (x:Int)) p.vs.length/\(stP p (x:Int)).toNat<(lvF p aC x).length/\(stP p (x:Int)).toNat<(lvF p aC x).length/\(cc (lvF p aC x) (stP p (x:Int)).toNat ([] :List Int)).length=(cc (lvF p aC x) (stP p (x:Int)).toNat ([] :List Int)).length/\(cc (lvF p aC x) (stP p (x:Int)).toNat ([] :List Int)).length+[(x:Int)].length<=1000000/\ix (stP p (x:Int)) p.vs.length/\(stP p (x:Int)).toNat=(stP p (x:Int)).toNat/\(stP p (x:Int)).toNat<(lvF p aC x).length/\aG ((x:Int)+1)/\(stP p (x:Int)).toNat<(lvF p aC x).length/\(cc (lvF p aC x) (stP p (x:Int)).toNat ([] :List Int)++[(x:Int)]).length=(cc (lvF p aC x) (stP p (x:Int)).toNat ([] :List Int)++[(x:Int)]).length/\(x:Int)+1=((x+1:Nat):Int)/\cR (lvF p aC x) (stP p (x:Int)).toNat (cc (lvF p aC x) (stP p (x:Int)).toNat ([] :List Int)++[(x:Int)])=lvF p aC (x+1)/\x+1<=2*p.es.length/\2*p.es.length-(x+1)<2*p.es.length-x)/\
   (true=false->aG ((x:Int)+1)/\(x:Int)+1=((x+1:Nat):Int)/\lvF p aC x=lvF p aC (x+1)/\x+1<=2*p.es.length/\2*p.es.length-(x+1)<2*p.es.length-x))/\
  (¬(x:Int)<2*p.es.length->(0=(0:Int)/\lvF p aC x=lvM p aC 0/\(0:Nat)<=p.vs.length)/\
   (∀x_1:Nat,x_1<=p.vs.length->((x_1:Int)<p.vs.length->ix (x_1:Int) p.vs.length/\x_1<(lvM p aC x_1).length/\x_1<(lvM p aC x_1).length/\(cc (lvM p aC x_1) x_1 ([] :List Int)).length=(cc (lvM p aC x_1) x_1 ([] :List Int)).length/\(cc (lvM p aC x_1) x_1 ([] :List Int)).length<=1000000/\PlOk p/\(∀x_2:Int,x_2∈cc (lvM p aC x_1) x_1 ([] :List Int)->HIn p x_2)/\OrdG (ltC (cfH p)) (cc (lvM p aC x_1) x_1 ([] :List Int))/\aG ((x_1:Int)+1)/\(x_1:Int)+1=((x_1+1:Nat):Int)/\cR (lvM p aC x_1) x_1 (aY (ltC (cfH p)) (cc (lvM p aC x_1) x_1 ([] :List Int)))=lvM p aC (x_1+1)/\x_1+1<=p.vs.length/\p.vs.length-(x_1+1)<p.vs.length-x_1)/\
    (¬(x_1:Int)<p.vs.length->p.vs.length=(lvM p aC x_1).length/\lvM p aC x_1=lvP p aC))))) (by kernel_rfl) (by
  change PlOk p/\LvO p aC at hp;obtain⟨P,O⟩:=hp;have hl:=P.le;have hv:=P.lv;refine⟨by omega,rfl,by omega,by omega,by unfold aG;omega,⟨rfl,?_,cO _⟩,λx hx=>⟨λh=>⟨λ_=> ?_,λh=>by cases h⟩,λh=>⟨⟨rfl,?_,cO _⟩,λy hy=>⟨λh2=> ?_,λh2=>⟨(pM _ _ _).symm,?_⟩⟩⟩⟩⟩
  .unfold lvF;apply ke;intro i;rw[dw,jf];by_cases hi:i<p.vs.length
   .rw[if_pos hi,kg hi];rfl
   .rw[if_neg hi,eQ (by simp;omega)];rfl
  .have H:HIn p (x:Int):=⟨by omega,by omega⟩;have hs:=k9 P H;have e1:(lvF p aC x).length=p.vs.length:=As _ _ _;have e2:((lvF p aC x).getD (stP p x).toNat []).length<=x:=by unfold lvF;rw[tT (by omega)];exact pL _ _ _ _
   have e3:=AF (p:=p) (q:=aC) (k:=x) rfl hs;exact⟨P,H,P,H,by unfold ix;omega,by omega,by omega,rfl,by simp only[eD];omega,by unfold ix;omega,rfl,by omega,by unfold aG;omega,by omega,rfl,by omega,e3,by omega,by omega⟩
  .obtain rfl:x=2*p.es.length:=by omega
   exact AE _ _
  .have e1:(lvM p aC y).length=p.vs.length:=pM _ _ _;have e2:(lvM p aC y).getD y [] =lvR p aC y (2*p.es.length):=by rw[tz (by omega),if_neg (by omega)]
   have e3:=Aq (p:=p) (q:=aC) (k:=y) (by omega);rw[e2]at e3|-;have e4:=pL p aC y (2*p.es.length);exact⟨by unfold ix;omega,by omega,by omega,rfl,by omega,P,qu,O y (by omega),by unfold aG;omega,by omega,e3,by omega,by omega⟩
  .obtain rfl:y=p.vs.length:=by omega
   rfl)
noncomputable def Lx:Tab:=ap [(116,M1)] Lw
def I5:Lx.Ok aH:=aq I4 ⟨aAG,trivial⟩
noncomputable def Pv:Con:=con (ac aPl (a1 (aF 115))) (λ(p,_)=>[PlOk p,LvO p aC]) (λ(p,_)=> .lst .Q (cyP p aC))
def aBw:Pv.Ok aH 92:=bA (a7 I5) (raw:=au) (λ(p,_)=>[lp 5 21 (2*p.es.length) (λk=>[(cyO p aC (lvP p aC) k).1.length=2*p.es.length]) [10,901] (λk=>[(6,.own 10 .B (2*p.es.length)),(7,.own 901 .Q (cyO p aC (lvP p aC) k).2.length)]) (λk=>[(10,.row 4 .B (cyO p aC (lvP p aC) k).1),(901,.row 43 .Q (cyO p aC (lvP p aC) k).2)]) λk=>
  [(9,.mk CyY (λF L=>match F.at 10,F.at 6,F.at 9 with
  | .int _ h,.own u _ _,.own s _ _=>(match L.at u,L.at s with|some (.row _ .B b),some (.row _ .I r)=>some (b,h,r)|_,_=>none)
  | .int _ h,.own u _ _,.nil=>(match L.at u with|some (.row _ .B b)=>some (b,h,[])|_=>none)
  |_,_,_=>none) [990] (λy=>[CyI p aC (lvP p aC) (cyO p aC (lvP p aC) k).1 k y]) (λy=>[(10,.int .i64 y.2.1),(9,.own 990 .I y.2.2.length)])
  (λy=>[(10,.row 4 .B y.1),(990,.row 3 .I y.2.2)]) (λy=>y.1.count false) λ_=>[]),
  (13+10000,.mk Unit (λ_ _=>some ()) [] (λ_=>[]) (λ_=>[(9,.lst .I (cyS p aC (lvP p aC) (cyO p aC (lvP p aC) k).1 k).2)]) (λ_=>[(10,.row 4 .B (cyS p aC (lvP p aC) (cyO p aC (lvP p aC) k).1 k).1)]) (λ_=>0) (λ_=>[]))]]) (λ(_,_)=>⟨_,rfl⟩) λ(p,c) hp=>aw (q:=PlOk p/\LvO p aC/\aG (2*(p.es.length:Int))/\0<=2*(p.es.length:Int)/\2*(p.es.length:Int)=2*p.es.length/\2*(p.es.length:Int)<=1000000/\2*p.es.length*1<=1000000000/\(0=(0:Int)/\2*p.es.length=2*p.es.length/\([] :List (List Int)).length=0/\bS (2*p.es.length) false=bS (2*p.es.length) false/\([] :List (List Int))=([] :List (List Int))/\(0:Nat)<=2*p.es.length/\(bS (2*p.es.length) false).length=2*p.es.length)/\
 (∀x:Nat,x<=2*p.es.length/\(cyO p aC (lvP p aC) x).1.length=2*p.es.length->((x:Int)<((2*p.es.length:Nat):Int)->(((x:Int)=x/\([] :List Int).length=0/\(cyO p aC (lvP p aC) x).1=(cyO p aC (lvP p aC) x).fst/\([] :List Int)=([] :List Int)/\CyI p aC (lvP p aC) (cyO p aC (lvP p aC) x).1 x ((cyO p aC (lvP p aC) x).1,((x:Int),([] :List Int))))/\
    (∀x_1:CyY,CyI p aC (lvP p aC) (cyO p aC (lvP p aC) x).1 x x_1->(0<=x_1.2.1->ix x_1.2.1 (2*p.es.length)/\x_1.2.1.toNat<x_1.1.length/\((!cQ x_1.1 x_1.2.1.toNat)=true->(true=true->ix x_1.2.1 (2*p.es.length)/\x_1.2.1.toNat<x_1.1.length/\x_1.2.2.length=x_1.2.2.length/\x_1.2.2.length+[x_1.2.1].length<=1000000/\PlOk p/\HIn p x_1.2.1/\LvIn p (lvP p aC)/\nxP p (lvP p aC) x_1.2.1=nxP p (lvP p aC) x_1.2.1/\(x_1.2.2++[x_1.2.1]).length=(x_1.2.2++[x_1.2.1]).length/\cR x_1.1 x_1.2.1.toNat true=cR x_1.1 x_1.2.1.toNat true/\x_1.2.2++[x_1.2.1] =x_1.2.2++[x_1.2.1]/\CyI p aC (lvP p aC) (cyO p aC (lvP p aC) x).1 x (cR x_1.1 x_1.2.1.toNat true,(nxP p (lvP p aC) x_1.2.1,x_1.2.2++[x_1.2.1]))/\sG false (cR x_1.1 x_1.2.1.toNat true)<sG false x_1.1)/\
       (true=false->x_1.2.2.length=x_1.2.2.length/\x_1.2.2=(cyS p aC (lvP p aC) (cyO p aC (lvP p aC) x).1 x).2/\x_1.1=(cyS p aC (lvP p aC) (cyO p aC (lvP p aC) x).1 x).1))/\
      ((!cQ x_1.1 x_1.2.1.toNat)=false->x_1.2.2.length=x_1.2.2.length/\x_1.2.2=(cyS p aC (lvP p aC) (cyO p aC (lvP p aC) x).1 x).2/\x_1.1=(cyS p aC (lvP p aC) (cyO p aC (lvP p aC) x).1 x).1))/\
     (¬0<=x_1.2.1->x_1.2.2.length=x_1.2.2.length/\x_1.2.2=(cyS p aC (lvP p aC) (cyO p aC (lvP p aC) x).1 x).2/\x_1.1=(cyS p aC (lvP p aC) (cyO p aC (lvP p aC) x).1 x).1)))/\
   (∀y:Unit,(0<((cyS p aC (lvP p aC) (cyO p aC (lvP p aC) x).1 x).2.length:Int)->(cyO p aC (lvP p aC) x).2.length=(cyO p aC (lvP p aC) x).2.length/\(cyO p aC (lvP p aC) x).2.length+[(cyS p aC (lvP p aC) (cyO p aC (lvP p aC) x).1 x).2].length<=1000000/\aG ((x:Int)+1)/\(x:Int)+1=((x+1:Nat):Int)/\2*p.es.length=2*p.es.length/\((cyO p aC (lvP p aC) x).2++[(cyS p aC (lvP p aC) (cyO p aC (lvP p aC) x).1 x).2]).length=(if(0:Nat)<(cyS p aC (lvP p aC) (cyO p aC (lvP p aC) x).1 x).2.length then(cyO p aC (lvP p aC) x).2++[(cyS p aC (lvP p aC) (cyO p aC (lvP p aC) x).1 x).2]else(cyO p aC (lvP p aC) x).2).length/\(cyS p aC (lvP p aC) (cyO p aC (lvP p aC) x).1 x).1=(cyS p aC (lvP p aC) (cyO p aC (lvP p aC) x).1 x).fst/\(cyO p aC (lvP p aC) x).2++[(cyS p aC (lvP p aC) (cyO p aC (lvP p aC) x).1 x).2] =(if(0:Nat)<(cyS p aC (lvP p aC) (cyO p aC (lvP p aC) x).1 x).2.length then(cyO p aC (lvP p aC) x).2++[(cyS p aC (lvP p aC) (cyO p aC (lvP p aC) x).1 x).2]else(cyO p aC (lvP p aC) x).2)/\x+1<=2*p.es.length/\(cyS p aC (lvP p aC) (cyO p aC (lvP p aC) x).1 x).fst.length=2*p.es.length/\2*p.es.length-(x+1)<2*p.es.length-x)/\
    (¬0<((cyS p aC (lvP p aC) (cyO p aC (lvP p aC) x).1 x).2.length:Int)->aG ((x:Int)+1)/\(x:Int)+1=((x+1:Nat):Int)/\2*p.es.length=2*p.es.length/\(cyO p aC (lvP p aC) x).2.length=(if(0:Nat)<(cyS p aC (lvP p aC) (cyO p aC (lvP p aC) x).1 x).2.length then(cyO p aC (lvP p aC) x).2++[(cyS p aC (lvP p aC) (cyO p aC (lvP p aC) x).1 x).2]else(cyO p aC (lvP p aC) x).2).length/\(cyS p aC (lvP p aC) (cyO p aC (lvP p aC) x).1 x).1=(cyS p aC (lvP p aC) (cyO p aC (lvP p aC) x).1 x).fst/\(cyO p aC (lvP p aC) x).2=(if(0:Nat)<(cyS p aC (lvP p aC) (cyO p aC (lvP p aC) x).1 x).2.length then(cyO p aC (lvP p aC) x).2++[(cyS p aC (lvP p aC) (cyO p aC (lvP p aC) x).1 x).2]else(cyO p aC (lvP p aC) x).2)/\x+1<=2*p.es.length/\(cyS p aC (lvP p aC) (cyO p aC (lvP p aC) x).1 x).fst.length=2*p.es.length/\2*p.es.length-(x+1)<2*p.es.length-x)))/\
  (¬(x:Int)<((2*p.es.length:Nat):Int)->(cyO p aC (lvP p aC) x).2.length=(cyO p aC (lvP p aC) x).2.length/\(cyO p aC (lvP p aC) x).2=cyP p aC))) (by kernel_rfl) (by
  change PlOk p/\LvO p aC at hp;obtain⟨P,O⟩:=hp;have hl:=P.le;have V:=ni P aC;have I0:=λk hk=>tX (q:=aC) P V k hk;refine⟨P,O,by unfold aG;omega,by omega,by omega,by omega,by omega,⟨rfl,rfl,rfl,rfl,rfl,cO _,mg⟩,λx hx=>⟨λh=>⟨⟨⟨rfl,rfl,rfl,rfl,CyI.start hx.2 (by omega)⟩,λy hy=>⟨λh0=> ?_,λh0=> ?_⟩⟩,λ_=>⟨λh1=> ?_,λh1=> ?_⟩⟩,λh=>⟨rfl,?_⟩⟩⟩
  .have H:=hy.hin h0;have e1:=hy.len;have e2:y.2.1.toNat<y.1.length:=by have:=H.2;omega
   have e3:ix y.2.1 (2*p.es.length):=by have:=H.2;unfold ix;omega
   have e4:=hy.cnt;refine⟨e3,e2,λhb=>⟨λ_=> ?_,λh=>by cases h⟩,λhb=> ?_⟩
   .have hb:cQ y.1 y.2.1.toNat=false:=by simpa using hb
    have hc:=qQ e2 hb;obtain⟨s1,s2⟩:=hy.step P V h0 hb rfl;exact⟨e3,e2,rfl,by simp only[eD];omega,P,H,V,rfl,rfl,rfl,rfl,s1,s2⟩
   .have hb:cQ y.1 y.2.1.toNat=true:=by simpa using hb
    obtain⟨s1,s2⟩:=hy.stop (λhh=>by rw[hb]at hh;cases hh.2.1);exact⟨rfl,s1,s2⟩
  .obtain⟨s1,s2⟩:=hy.stop (λhh=>h0 hh.1);exact⟨rfl,s1,s2⟩
  .obtain⟨i1,i2,_⟩:=I0 x (by omega);obtain⟨j1,_,_⟩:=I0 (x+1) (by omega);have e1:0<(cyS p aC (lvP p aC) (cyO p aC (lvP p aC) x).1 x).2.length:=by omega
   rw[if_pos e1];exact⟨rfl,by simp only[eD];omega,by unfold aG;omega,by omega,rfl,rfl,rfl,rfl,by omega,j1,by omega⟩
  .obtain⟨j1,_,_⟩:=I0 (x+1) (by omega);have e1:¬0<(cyS p aC (lvP p aC) (cyO p aC (lvP p aC) x).1 x).2.length:=by omega
   rw[if_neg e1];exact⟨by unfold aG;omega,by omega,rfl,rfl,rfl,rfl,by omega,j1,by omega⟩
  .obtain rfl:x=2*p.es.length:=by omega
   rfl)
noncomputable def NQ:Tab:=ap [(92,Pv)] Lx
def KH:NQ.Ok aH:=aq I5 ⟨aBw,trivial⟩
structure QOk(q:Pt):Prop where
 d:1<=q.den/\q.den<=33000000
 x: -(4000*q.den)<=q.x/\q.x<=4000*q.den
 y: -(4000*q.den)<=q.y/\q.y<=4000*q.den
structure BwE where
 h:Int
 lf:Pt
 rt:Pt
 a:V
 b:V
def bwE(p:Pl)(k:Nat):BwE:=
 let l:=lnP p k
 if l.2.x<l.1.x then⟨2*k+1,aQ p.vs (aP p.es k).to.toNat,aQ p.vs (aP p.es k).fr.toNat,l.2,l.1⟩else⟨2*k,aQ p.vs (aP p.es k).fr.toNat,aQ p.vs (aP p.es k).to.toNat,l.1,l.2⟩
def bwN(q:Pt)(e:BwE):Int:=e.a.y*(aDd e.b e.a).x*q.den+(aDd e.b e.a).y*(q.x-e.a.x*q.den)
abbrev Bw:=Int×Int×Int×Int
def bwC(q:Pt)(e:BwE)(B:Bw):Int:=orL [aDh (bwN q e*B.2.2.1) (B.2.1*(aDd e.b e.a).x),aDh ((aDd e.b e.a).y*B.2.2.1) (B.2.2.2*(aDd e.b e.a).x)]
def bwS(q:Pt)(e:BwE)(B:Bw):Bw:=
 if(aDd e.b e.a).x=0\/q.x*e.lf.den<e.lf.x*q.den\/e.rt.x*q.den<=q.x*e.rt.den then B
 else if q.y*(aDd e.b e.a).x<=bwN q e then B
 else if B.1<0\/0<bwC q e B then(e.h,bwN q e,(aDd e.b e.a).x,(aDd e.b e.a).y)else B
def bwK(p:Pl)(q:Pt):Nat->Bw
 |0=>(-1,0,0,0)
 |k+1=>bwS q (bwE p k) (bwK p q k)
def bwP(p:Pl)(q:Pt):Int:=(bwK p q p.es.length).1
def jY{a b:Int}{A B:Nat}(h1:a.natAbs<=A)(h2:b.natAbs<=B):(a*b).natAbs<=A*B:=by rw[qF];exact Nat.mul_le_mul h1 h2
def ig{a:Int}(h:a.natAbs<=9000000000000000000):aG a:=by unfold aG;omega
structure BwB(e:BwE):Prop where
 a:bd 2000 e.a
 b:bd 2000 e.b
 l:POk e.lf/\e.lf.den<=33000000
 r:POk e.rt/\e.rt.den<=33000000
def Jy{p:Pl}(P:PlOk p){k:Nat}(h:k<p.es.length):BwB (bwE p k):=by
 obtain⟨h1,h2⟩:=BX P (e:=(k:Int)) ⟨by omega,by omega⟩;have h3:=P.fr _ (l0 h);have hv:∀i:Nat,i<p.vs.length->POk (aQ p.vs i)/\(aQ p.vs i).den<=33000000:=λi hi=>P.pt _ (by rw[show aQ p.vs i=p.vs[i]from cS hi];exact eR hi)
 have h4:=hv (aP p.es k).fr.toNat (by omega);have h5:=hv (aP p.es k).to.toNat (by omega);unfold bwE;dsimp only;split
 .exact⟨h2,h1,h5,h4⟩
 .exact⟨h1,h2,h4,h5⟩
def BwB.d{e:BwE}(h:BwB e):(aDd e.b e.a).x.natAbs<=4000/\(aDd e.b e.a).y.natAbs<=4000:=by have h1:=h.a;have h2:=h.b;unfold bd at h1 h2;unfold aDd;dsimp only;omega
def QOk.n{q:Pt}(Q:QOk q):q.den.natAbs<=33000000/\q.x.natAbs<=132000000000/\q.y.natAbs<=132000000000:=by have:=Q.d;have:=Q.x;have:=Q.y;omega
def Js{q:Pt}(Q:QOk q){e:BwE}(h:BwB e):(e.a.y*(aDd e.b e.a).x).natAbs<=8000000/\(e.a.y*(aDd e.b e.a).x*q.den).natAbs<=264000000000000/\(e.a.x*q.den).natAbs<=66000000000/\(q.x-e.a.x*q.den).natAbs<=198000000000/\((aDd e.b e.a).y*(q.x-e.a.x*q.den)).natAbs<=792000000000000/\(bwN q e).natAbs<=1056000000000000:=by
 obtain⟨d1,d2⟩:=h.d;obtain⟨q1,q2,q3⟩:=Q.n;have h1:=h.a;unfold bd at h1;have a1:=jY (a:=e.a.y) (A:=2000) (by omega) d1;have a2:=jY a1 q1;have a3:=jY (a:=e.a.x) (A:=2000) (by omega) q1;have a4:(q.x-e.a.x*q.den).natAbs<=198000000000:=by omega
 have a5:=jY d2 a4;refine⟨a1,a2,a3,a4,a5,?_⟩;unfold bwN;omega
structure BwO(B:Bw):Prop where
 n:B.2.1.natAbs<=1056000000000000
 x:B.2.2.1.natAbs<=4000
 y:B.2.2.2.natAbs<=4000
def Jw{p:Pl}(P:PlOk p){q:Pt}(Q:QOk q):∀k,k<=p.es.length->BwO (bwK p q k)
 |0,_=>⟨by show(0:Int).natAbs<=_;decide,by show(0:Int).natAbs<=_;decide,by show(0:Int).natAbs<=_;decide⟩
 |k+1,h=>by
  have h1:=Jw P Q k (by omega);have h2:=Jy P (k:=k) (by omega);have h3:=(Js Q h2).2.2.2.2.2;have h4:=h2.d;show BwO (bwS q (bwE p k) (bwK p q k));unfold bwS;split
  .exact h1
  .split
   .exact h1
   .split
    .exact⟨h3,h4.1,h4.2⟩
    .exact h1
def t3(q:Pt):List SV:=[.int .i64 q.x,.int .i64 q.y,.int .i64 q.den]
noncomputable def P1:Con:=con (ac aPl (a1 aT)) (λ(p,q)=>[PlOk p,QOk q]) (λ(p,q)=> .int .i64 (bwP p q))
def aBB:P1.Ok aH 76:=bA (a7 KH) (raw:=au) (λ(p,q)=>[lp 4 22 p.es.length (λ_=>[]) [] (λk=>[(5,.int .i64 (bwK p q k).1),(6,.int .i64 (bwK p q k).2.1),(7,.int .i64 (bwK p q k).2.2.1),(8,.int .i64 (bwK p q k).2.2.2)]) (λ_=>[]) λk=>
  [(13+10000,.mk Unit (λ_ _=>some ()) [] (λ_=>[]) (λ_=>[(13,.int .i64 (bwE p k).h)]) (λ_=>[(24,.box 53 (v2 (bwE p k).a)),(25,.box 53 (v2 (bwE p k).b)),(43,.box 60 (t3 (bwE p k).lf)),(44,.box 60 (t3 (bwE p k).rt))]) (λ_=>0) (λ_=>[])),
  jU 20 [(5,.int .i64 (bwK p q (k+1)).1),(6,.int .i64 (bwK p q (k+1)).2.1),(7,.int .i64 (bwK p q (k+1)).2.2.1),(8,.int .i64 (bwK p q (k+1)).2.2.2)]]]
  ) (λ(_,_)=>⟨_,rfl⟩) λ(p,q) hp=>aw (q:=(0=(0:Int)/\(-1:Int)= -1/\(0:Int)=0/\(0:Int)=0/\(0:Int)=0/\(0:Nat)<=p.es.length)/\
 (∀x:Nat,x<=p.es.length->((x:Int)<p.es.length->(ix (x:Int) p.es.length/\PlOk p/\(0<=(x:Int)/\(x:Int)<p.es.length)/\aG (2*(x:Int))/\ix (aP p.es x).fr p.vs.length/\ix (aP p.es x).to p.vs.length/\(((lnP p (x:Int)).2.x<(lnP p (x:Int)).1.x->aG (2*(x:Int)+1)/\2*(x:Int)+1=(bwE p x).h/\(lnP p (x:Int)).2.x=(bwE p x).a.x/\(lnP p (x:Int)).2.y=(bwE p x).a.y/\(lnP p (x:Int)).1.x=(bwE p x).b.x/\(lnP p (x:Int)).1.y=(bwE p x).b.y/\(aQ p.vs (aP p.es x).to.toNat).x=(bwE p x).lf.x/\(aQ p.vs (aP p.es x).to.toNat).y=(bwE p x).lf.y/\(aQ p.vs (aP p.es x).to.toNat).den=(bwE p x).lf.den/\(aQ p.vs (aP p.es x).fr.toNat).x=(bwE p x).rt.x/\(aQ p.vs (aP p.es x).fr.toNat).y=(bwE p x).rt.y/\(aQ p.vs (aP p.es x).fr.toNat).den=(bwE p x).rt.den)/\
     (¬(lnP p (x:Int)).2.x<(lnP p (x:Int)).1.x->2*(x:Int)=(bwE p x).h/\(lnP p (x:Int)).1.x=(bwE p x).a.x/\(lnP p (x:Int)).1.y=(bwE p x).a.y/\(lnP p (x:Int)).2.x=(bwE p x).b.x/\(lnP p (x:Int)).2.y=(bwE p x).b.y/\(aQ p.vs (aP p.es x).fr.toNat).x=(bwE p x).lf.x/\(aQ p.vs (aP p.es x).fr.toNat).y=(bwE p x).lf.y/\(aQ p.vs (aP p.es x).fr.toNat).den=(bwE p x).lf.den/\(aQ p.vs (aP p.es x).to.toNat).x=(bwE p x).rt.x/\(aQ p.vs (aP p.es x).to.toNat).y=(bwE p x).rt.y/\(aQ p.vs (aP p.es x).to.toNat).den=(bwE p x).rt.den))/\
    (∀y:Unit,bd 1000000000 (bwE p x).b/\bd 1000000000 (bwE p x).a/\((aDd (bwE p x).b (bwE p x).a).x=0->(bwK p q x).1=(bwK p q (x+1)).1/\(bwK p q x).2.1=(bwK p q (x+1)).2.1/\(bwK p q x).2.2.1=(bwK p q (x+1)).2.2.1/\(bwK p q x).2.2.2=(bwK p q (x+1)).2.2.2)/\
     (¬(aDd (bwE p x).b (bwE p x).a).x=0->aG ((bwE p x).lf.x*q.den)/\aG (q.x*(bwE p x).lf.den)/\(q.x*(bwE p x).lf.den<(bwE p x).lf.x*q.den->(bwK p q x).1=(bwK p q (x+1)).1/\(bwK p q x).2.1=(bwK p q (x+1)).2.1/\(bwK p q x).2.2.1=(bwK p q (x+1)).2.2.1/\(bwK p q x).2.2.2=(bwK p q (x+1)).2.2.2)/\
      (¬q.x*(bwE p x).lf.den<(bwE p x).lf.x*q.den->aG ((bwE p x).rt.x*q.den)/\aG (q.x*(bwE p x).rt.den)/\((bwE p x).rt.x*q.den<=q.x*(bwE p x).rt.den->(bwK p q x).1=(bwK p q (x+1)).1/\(bwK p q x).2.1=(bwK p q (x+1)).2.1/\(bwK p q x).2.2.1=(bwK p q (x+1)).2.2.1/\(bwK p q x).2.2.2=(bwK p q (x+1)).2.2.2)/\
       (¬(bwE p x).rt.x*q.den<=q.x*(bwE p x).rt.den->aG ((bwE p x).a.y*(aDd (bwE p x).b (bwE p x).a).x)/\aG ((bwE p x).a.y*(aDd (bwE p x).b (bwE p x).a).x*q.den)/\aG ((bwE p x).a.x*q.den)/\aG (q.x-(bwE p x).a.x*q.den)/\aG ((aDd (bwE p x).b (bwE p x).a).y*(q.x-(bwE p x).a.x*q.den))/\aG ((bwE p x).a.y*(aDd (bwE p x).b (bwE p x).a).x*q.den+(aDd (bwE p x).b (bwE p x).a).y*(q.x-(bwE p x).a.x*q.den))/\aG (q.y*(aDd (bwE p x).b (bwE p x).a).x)/\(q.y*(aDd (bwE p x).b (bwE p x).a).x<=(bwE p x).a.y*(aDd (bwE p x).b (bwE p x).a).x*q.den+(aDd (bwE p x).b (bwE p x).a).y*(q.x-(bwE p x).a.x*q.den)->(bwK p q x).1=(bwK p q (x+1)).1/\(bwK p q x).2.1=(bwK p q (x+1)).2.1/\(bwK p q x).2.2.1=(bwK p q (x+1)).2.2.1/\(bwK p q x).2.2.2=(bwK p q (x+1)).2.2.2)/\
        (¬q.y*(aDd (bwE p x).b (bwE p x).a).x<=(bwE p x).a.y*(aDd (bwE p x).b (bwE p x).a).x*q.den+(aDd (bwE p x).b (bwE p x).a).y*(q.x-(bwE p x).a.x*q.den)->aG (((bwE p x).a.y*(aDd (bwE p x).b (bwE p x).a).x*q.den+(aDd (bwE p x).b (bwE p x).a).y*(q.x-(bwE p x).a.x*q.den))*(bwK p q x).2.2.1)/\aG ((bwK p q x).2.1*(aDd (bwE p x).b (bwE p x).a).x)/\aG ((aDd (bwE p x).b (bwE p x).a).y*(bwK p q x).2.2.1)/\aG ((bwK p q x).2.2.2*(aDd (bwE p x).b (bwE p x).a).x)/\[aDh (((bwE p x).a.y*(aDd (bwE p x).b (bwE p x).a).x*q.den+(aDd (bwE p x).b (bwE p x).a).y*(q.x-(bwE p x).a.x*q.den))*(bwK p q x).2.2.1) ((bwK p q x).2.1*(aDd (bwE p x).b (bwE p x).a).x),aDh ((aDd (bwE p x).b (bwE p x).a).y*(bwK p q x).2.2.1) ((bwK p q x).2.2.2*(aDd (bwE p x).b (bwE p x).a).x)].length<=1000/\((bwK p q x).1<0->(bwE p x).h=(bwK p q (x+1)).1/\(bwE p x).a.y*(aDd (bwE p x).b (bwE p x).a).x*q.den+(aDd (bwE p x).b (bwE p x).a).y*(q.x-(bwE p x).a.x*q.den)=(bwK p q (x+1)).2.1/\(aDd (bwE p x).b (bwE p x).a).x=(bwK p q (x+1)).2.2.1/\(aDd (bwE p x).b (bwE p x).a).y=(bwK p q (x+1)).2.2.2)/\
         (¬(bwK p q x).1<0->(0<orL [aDh (((bwE p x).a.y*(aDd (bwE p x).b (bwE p x).a).x*q.den+(aDd (bwE p x).b (bwE p x).a).y*(q.x-(bwE p x).a.x*q.den))*(bwK p q x).2.2.1) ((bwK p q x).2.1*(aDd (bwE p x).b (bwE p x).a).x),aDh ((aDd (bwE p x).b (bwE p x).a).y*(bwK p q x).2.2.1) ((bwK p q x).2.2.2*(aDd (bwE p x).b (bwE p x).a).x)]->(bwE p x).h=(bwK p q (x+1)).1/\(bwE p x).a.y*(aDd (bwE p x).b (bwE p x).a).x*q.den+(aDd (bwE p x).b (bwE p x).a).y*(q.x-(bwE p x).a.x*q.den)=(bwK p q (x+1)).2.1/\(aDd (bwE p x).b (bwE p x).a).x=(bwK p q (x+1)).2.2.1/\(aDd (bwE p x).b (bwE p x).a).y=(bwK p q (x+1)).2.2.2)/\
          (¬0<orL [aDh (((bwE p x).a.y*(aDd (bwE p x).b (bwE p x).a).x*q.den+(aDd (bwE p x).b (bwE p x).a).y*(q.x-(bwE p x).a.x*q.den))*(bwK p q x).2.2.1) ((bwK p q x).2.1*(aDd (bwE p x).b (bwE p x).a).x),aDh ((aDd (bwE p x).b (bwE p x).a).y*(bwK p q x).2.2.1) ((bwK p q x).2.2.2*(aDd (bwE p x).b (bwE p x).a).x)]->(bwK p q x).1=(bwK p q (x+1)).1/\(bwK p q x).2.1=(bwK p q (x+1)).2.1/\(bwK p q x).2.2.1=(bwK p q (x+1)).2.2.1/\(bwK p q x).2.2.2=(bwK p q (x+1)).2.2.2))))))))/\
   (∀y:Unit,aG ((x:Int)+1)/\(x:Int)+1=((x+1:Nat):Int)/\(bwK p q (x+1)).1=(bwK p q (x+1)).1/\(bwK p q (x+1)).2.1=(bwK p q (x+1)).2.1/\(bwK p q (x+1)).2.2.1=(bwK p q (x+1)).2.2.1/\(bwK p q (x+1)).2.2.2=(bwK p q (x+1)).2.2.2/\x+1<=p.es.length/\p.es.length-(x+1)<p.es.length-x))/\
  (¬(x:Int)<p.es.length->(bwK p q x).1=bwP p q))) (by kernel_rfl) (by
  change PlOk p/\QOk q at hp;obtain⟨P,Q⟩:=hp;have hle:=P.le;refine⟨⟨rfl,rfl,rfl,rfl,rfl,cO _⟩,λx hx=>⟨λh=>⟨⟨by unfold ix;omega,P,⟨by omega,by omega⟩,by unfold aG;omega,?_,?_,⟨λhs=> ?_,λhs=> ?_⟩,λ_=> ?_⟩,λ_=>⟨by unfold aG;omega,by omega,rfl,rfl,rfl,rfl,by omega,by omega⟩⟩,λh=> ?_⟩⟩
  .have:=P.fr _ (l0 (l:=p.es) (i:=x) (by omega));unfold ix;omega
  .have:=P.fr _ (l0 (l:=p.es) (i:=x) (by omega));unfold ix;omega
  .have e:bwE p x=⟨2*x+1,aQ p.vs (aP p.es x).to.toNat,aQ p.vs (aP p.es x).fr.toNat,(lnP p x).2,(lnP p x).1⟩:=if_pos hs;rw[e];exact⟨by unfold aG;omega,rfl,rfl,rfl,rfl,rfl,rfl,rfl,rfl,rfl,rfl,rfl⟩
  .have e:bwE p x=⟨2*x,aQ p.vs (aP p.es x).fr.toNat,aQ p.vs (aP p.es x).to.toNat,(lnP p x).1,(lnP p x).2⟩:=if_neg hs;rw[e];exact⟨rfl,rfl,rfl,rfl,rfl,rfl,rfl,rfl,rfl,rfl,rfl⟩
  .have hE:=Jy P (k:=x) (by omega);have hB:=Jw P Q x (by omega);have hS:bwK p q (x+1)=bwS q (bwE p x) (bwK p q x):=rfl;rw[hS];generalize bwE p x=e at*;generalize bwK p q x=B at*;obtain⟨n1,n2,n3,n4,n5,n6⟩:=Js Q hE;obtain⟨d1,d2⟩:=hE.d;obtain⟨q1,q2,q3⟩:=Q.n;have hl:=hE.l;have hr:=hE.r;have lx:=hl.1.x;have ld:=hl.1.den;have rx:=hr.1.x;have rd:=hr.1.den;have bn:=hB.n;have bx:=hB.x;have by_:=hB.y;have m1:=jY (a:=e.lf.x) (A:=66000000000) (by omega) q1;have m2:=jY q2 (show e.lf.den.natAbs<=33000000 by omega);have m3:=jY (a:=e.rt.x) (A:=66000000000) (by omega) q1;have m4:=jY q2 (show e.rt.den.natAbs<=33000000 by omega);have m5:=jY q3 d1;have m6:=jY n6 bx;have m7:=jY bn d1;have m8:=jY d2 bx;have m9:=jY by_ d1;have stay:∀R:Bw,R=B->B.1=R.1/\B.2.1=R.2.1/\B.2.2.1=R.2.2.1/\B.2.2.2=R.2.2.2:=λR h=>by subst h;exact⟨rfl,rfl,rfl,rfl⟩
   refine⟨kO hE.b (by decide),kO hE.a (by decide),λg1=>stay _ (if_pos (.inl g1)),λg1=>⟨ig (by omega),ig (by omega),λg2=>stay _ (if_pos (.inr (.inl g2))),λg2=>⟨ig (by omega),ig (by omega),λg3=>stay _ (if_pos (.inr (.inr g3))),λg3=> ?_⟩⟩⟩;have hn:¬((aDd e.b e.a).x=0\/q.x*e.lf.den<e.lf.x*q.den\/e.rt.x*q.den<=q.x*e.rt.den):=λh=>by
    rcases h with h|h|h
    .exact g1 h
    .exact g2 h
    .exact g3 h
   have eS:bwS q e B=if q.y*(aDd e.b e.a).x<=bwN q e then B else if B.1<0\/0<bwC q e B then(e.h,bwN q e,(aDd e.b e.a).x,(aDd e.b e.a).y)else B:=if_neg hn;rw[eS];refine⟨ig (by omega),ig (by omega),ig (by omega),ig (by omega),ig (by omega),ig (by unfold bwN at n6;omega),ig (by omega),λg4=>stay _ (if_pos g4),λg4=>⟨ig ?_,ig (by omega),ig (by omega),ig (by omega),by simp,λg5=> ?_,λg5=>⟨λg6=> ?_,λg6=>stay _ ?_⟩⟩⟩
   .unfold bwN at m6;omega
   .have g4':¬q.y*(aDd e.b e.a).x<=bwN q e:=g4;rw[if_neg g4',if_pos (.inl g5)];exact⟨rfl,rfl,rfl,rfl⟩
   .have g4':¬q.y*(aDd e.b e.a).x<=bwN q e:=g4;rw[if_neg g4',if_pos (.inr g6)];exact⟨rfl,rfl,rfl,rfl⟩
   .have g4':¬q.y*(aDd e.b e.a).x<=bwN q e:=g4;rw[if_neg g4',if_neg];rintro(h|h)
    .exact g5 h
    .exact g6 h
  .obtain rfl:x=p.es.length:=by omega
   rfl)
noncomputable def Nb:Tab:=ap [(76,P1)] NQ
def KL:Nb.Ok aH:=aq KH ⟨aBB,trivial⟩
def ff(s:S):Bool:=decide (s.a=s.b)
def fN(s:S):Bool:= !bR s.a 2000|| !bR s.b 2000
def aFp(f:Nat):Ar Unit where
 enc _:= .pro [.fnp f [] []] 0
 dec s:=match s with
  | .pro [.fnp g [] []] 0=>(match ae g f with|true=>some ()|false=>none)
  |_=>none
 ok s a h:=by
  split at h
  .split at h<;>cases h;rename_i hg;rw[bp hg]
  .cases h
 pl _:=⟨_,rfl⟩
def C7:Ar (Unit×Unit):=aCz 43 (ac (aFp 39) a0)
noncomputable def QH:Con:=con (a1 aS) (λ_=>[]) (λs=> .bool (ff s)
 )
def aBQ:QH.Ok aH 42:=bA (a7 KL) (raw:=au) (λ_=>[]) (λ_=>⟨_,rfl⟩) λs _=>aw (q:=decide (s.a=s.b)=ff s) (by kernel_rfl) (by rfl)
noncomputable def Nz:Tab:=ap [(42,QH)] Nb
def KZ:Nz.Ok aH:=aq KL ⟨aBQ,trivial⟩
noncomputable def QK:Con:=con (a1 aV) (λ_=>[]) (λv=> .bool (bR v 2000)
 )
def aBR:QK.Ok aH 39:=bA (a7 KZ) (raw:=au) (λ_=>[]) (λ_=>⟨_,rfl⟩) λv _=>aw (q:=(0:Int)<=2000/\(2000:Int)<=9000000000000000000/\bR v 2000=bR v 2000) (by kernel_rfl) (by exact⟨by decide,by decide,rfl⟩)
noncomputable def N9:Tab:=ap [(39,QK)] Nz
def Kc:N9.Ok aH:=aq KZ ⟨aBR,trivial⟩
noncomputable def QG:Con:=con (ac aS (a1 (aFp 39))) (λ(_,_)=>[]) (λ(s,_)=> .bool (fN s)
 )
def aBP:QG.Ok aH 43:=bA (a7 Kc) (raw:=au) (λ(_,_)=>[]) (λ(_,_)=>⟨_,rfl⟩) λ(s,c) _=>aw (q:=((!bR s.a 2000)=true->true=fN s)/\
 ((!bR s.a 2000)=false->(!bR s.b 2000)=fN s)) (by kernel_rfl) (by unfold fN;grind)
noncomputable def Ny:Tab:=ap [(43,QG)] N9
def KY:Ny.Ok aH:=aq Kc ⟨aBP,trivial⟩
noncomputable def M7:Con:=con (ac (aL .S) (a1 (aF 42))) (λ(l,_)=>[l.length<=1000000]) (λ(l,_)=> .int .i64 (fI ff l))
def aAM:M7.Ok aH 105:=bA (a7 KY) (raw:=au) (λ(l,_)=>[cnt 2 8 l.length (af λj=>ff (aK l j)=false)]
  ) (λ(_,_)=>⟨_,rfl⟩) λ(l,c) hp=>aw (q:=(0=(0:Int)/\(0:Nat)<=l.length/\af (λj=>ff (aK l j)=false) 0)/\
 (∀x:Nat,x<=l.length/\af (λj=>ff (aK l j)=false) x->((x:Int)<l.length->ix (x:Int) l.length/\(ff (aK l x)=true->(x:Int)=fI ff l)/\
   (ff (aK l x)=false->aG ((x:Int)+1)/\(x:Int)+1=((x+1:Nat):Int)/\x+1<=l.length/\af (λj=>ff (aK l j)=false) (x+1)/\l.length-(x+1)<l.length-x))/\
  (¬(x:Int)<l.length-> -1=fI ff l))) (by kernel_rfl) (by
  change l.length<=1000000 at hp
  repeat' first|with_reducible apply c6|with_reducible intro
  all_goals repeat with_reducible cases‹_/\_›
  all_goals first|assumption|rfl|exact trivial|exact nb ‹_› |exact nb' ‹_› |omega|exact fK (by omega)|(unfold ix;omega)|(unfold aG;omega)|exact d8 _|exact b8 ‹_› ‹_› |(refine b8 ‹_› ?_;simp_all;done)|exact kT (t:= .S) (by omega) ‹_› ‹_› |(obtain rfl:_=l.length:=oW ‹_› (by omega);exact lH (t:= .S) ‹_›)|grind)
noncomputable def MB:Tab:=ap [(105,M7)] Ny
def I9:MB.Ok aH:=aq KY ⟨aAM,trivial⟩
noncomputable def QJ:Con:=con (ac (aL .S) (a1 (aF 42))) (λ(l,_)=>[l.length<=1000000]) (λ(l,_)=> .bool (l.any ff)
 )
def Pf:QJ.Ok aH 41:=bA (a7 I9) (raw:=au) (λ(_,_)=>[]) (λ(_,_)=>⟨_,rfl⟩) λ(l,c) hp=>aw (q:=l.length<=1000000/\decide (0<=fI ff l)=iu l ff) (by kernel_rfl) (by change l.length<=1000000 at hp;exact⟨hp,qw _ _⟩)
noncomputable def N8:Tab:=ap [(41,QJ)] MB
def Kb:N8.Ok aH:=aq I9 ⟨Pf,trivial⟩
noncomputable def M6:Con:=con (ac (aL .S) (a1 C7)) (λ(l,_)=>[l.length<=1000000]) (λ(l,_)=> .int .i64 (fI fN l))
def aAL:M6.Ok aH 105:=bA (a7 Kb) (raw:=au) (λ(l,_)=>[cnt 2 8 l.length (af λj=>fN (aK l j)=false)]
  ) (λ(_,_)=>⟨_,rfl⟩) λ(l,c) hp=>aw (q:=(0=(0:Int)/\(0:Nat)<=l.length/\af (λj=>fN (aK l j)=false) 0)/\
 (∀x:Nat,x<=l.length/\af (λj=>fN (aK l j)=false) x->((x:Int)<l.length->ix (x:Int) l.length/\(fN (aK l x)=true->(x:Int)=fI fN l)/\
   (fN (aK l x)=false->aG ((x:Int)+1)/\(x:Int)+1=((x+1:Nat):Int)/\x+1<=l.length/\af (λj=>fN (aK l j)=false) (x+1)/\l.length-(x+1)<l.length-x))/\
  (¬(x:Int)<l.length-> -1=fI fN l))) (by kernel_rfl) (by
  change l.length<=1000000 at hp
  repeat' first|with_reducible apply c6|with_reducible intro
  all_goals repeat with_reducible cases‹_/\_›
  all_goals first|assumption|rfl|exact trivial|exact nb ‹_› |exact nb' ‹_› |omega|exact fK (by omega)|(unfold ix;omega)|(unfold aG;omega)|exact d8 _|exact b8 ‹_› ‹_› |(refine b8 ‹_› ?_;simp_all;done)|exact kT (t:= .S) (by omega) ‹_› ‹_› |(obtain rfl:_=l.length:=oW ‹_› (by omega);exact lH (t:= .S) ‹_›)|grind)
noncomputable def MA:Tab:=ap [(105,M6)] N8
def I8:MA.Ok aH:=aq Kb ⟨aAL,trivial⟩
noncomputable def QI:Con:=con (ac (aL .S) (a1 C7)) (λ(l,_)=>[l.length<=1000000]) (λ(l,_)=> .bool (l.any fN)
 )
def Pe:QI.Ok aH 41:=bA (a7 I8) (raw:=au) (λ(_,_)=>[]) (λ(_,_)=>⟨_,rfl⟩) λ(l,c) hp=>aw (q:=l.length<=1000000/\decide (0<=fI fN l)=iu l fN) (by kernel_rfl) (by change l.length<=1000000 at hp;exact⟨hp,qw _ _⟩)
noncomputable def N7:Tab:=ap [(41,QI)] MA
def Ka:N7.Ok aH:=aq I8 ⟨Pe,trivial⟩
def aE:Ar Ed where
 enc e:= .agg [.int .i64 e.fr,.int .i64 e.to,.int .i64 e.lf,.int .i64 e.rt,.lst .I e.src]
 dec s:=match s with
  | .agg [.int .i64 a,.int .i64 b,.int .i64 c,.int .i64 d,r] =>(match iR .I r with|some l=>some ⟨a,b,c,d,l⟩|none=>none)
  |_=>none
 ok s a h:=by
  split at h
  .split at h<;>cases h;rename_i h1;simp only[SV.av,avs,i7 h1]
  .cases h
 pl _:=⟨_,rfl⟩
def gK(a b:Ed):Int:=if aDh a.fr b.fr=0 then aDh a.to b.to else aDh a.fr b.fr
def ptL(x:Pt)(l:List Pt):List Int:=l.map λv=>aW v x
def Hd(x:Pt)(l:List Pt):(ptL x l).length=l.length:=by unfold ptL;simp
def JK(x:Pt){l:List Pt}{k:Nat}(h:k<l.length):aM (ptL x l) k=aW (aQ l k) x:=by
 have e1:(ptL x l)[k]? =some (aW l[k] x):=by unfold ptL;rw[dw,dA h];rfl
 show(ptL x l).getD k 0=aW (l.getD k ⟨0,0,1⟩) x;rw[bq,e1,bq,dA h];rfl
def ptX(x:Pt)(l:List Pt):Nat:=bsP id (ptL x l)
def ptF(x:Pt)(l:List Pt):Bool:=bsF id (ptL x l)
noncomputable def QC:Con:=con (ac (aL .T) (ac aT (a1 (aF 47)))) (λ(l,x,_)=>[l.length<=1000000,POk x,(∀v∈l,POk v)]) (λ(l,x,_)=> .tup [.int .i64 (ptX x l:Nat),.bool (ptF x l)])
def aBL:QC.Ok aH 49:=bA (a7 Ka) (raw:=au) (λ(l,x,_)=>CT id (ptL x l)
  ) (λ(_,_,_)=>⟨_,rfl⟩) λ(l,x,c) hp=>aw (q:=(0=(0:Int)/\(l.length:Int)=l.length/\bsI id (ptL x l) (0,l.length))/\
 (∀x_1:Prod Nat Nat,bsI id (ptL x l) x_1->((x_1.1:Int)<x_1.2->(aG ((x_1.1:Int)+x_1.2)/\(0:Int)<=1/\aG (mO iW (kH iW ((x_1.1:Int)+x_1.2)) 1)/\mO iW (kH iW ((x_1.1:Int)+x_1.2)) 1=(((x_1.1+x_1.2)/2:Nat):Int))/\
   (∀y:Unit,ix (((x_1.1+x_1.2)/2:Nat):Int) l.length/\POk (aQ l ((x_1.1+x_1.2)/2))/\POk x/\(aW (aQ l ((x_1.1+x_1.2)/2)) x<0->aG ((((x_1.1+x_1.2)/2:Nat):Int)+1)/\(((x_1.1+x_1.2)/2:Nat):Int)+1=(((x_1.1+x_1.2)/2+1:Nat):Int)/\(x_1.2:Int)=x_1.2/\bsI id (ptL x l) ((x_1.1+x_1.2)/2+1,x_1.2)/\x_1.2-((x_1.1+x_1.2)/2+1)<x_1.2-x_1.1)/\
    (¬aW (aQ l ((x_1.1+x_1.2)/2)) x<0->(x_1.1:Int)=x_1.1/\(((x_1.1+x_1.2)/2:Nat):Int)=(((x_1.1+x_1.2)/2:Nat):Int)/\bsI id (ptL x l) (x_1.1,(x_1.1+x_1.2)/2)/\(x_1.1+x_1.2)/2-x_1.1<x_1.2-x_1.1)))/\
  (¬(x_1.1:Int)<x_1.2->((x_1.1:Int)<l.length->ix (x_1.1:Int) l.length/\POk (aQ l x_1.1)/\POk x/\(x_1.1:Int)=ptX x l/\decide (aW (aQ l x_1.1) x=0)=ptF x l)/\
   (¬(x_1.1:Int)<l.length->(x_1.1:Int)=ptX x l/\false=ptF x l)))) (by kernel_rfl) (by
  change l.length<=1000000/\POk x/\((∀v∈l,POk v))at hp;obtain⟨hl,hx,hm⟩:=hp;have hm:∀k,k<l.length->POk (aQ l k):=λk hk=>hm _ (by rw[show aQ l k=l[k]from cS hk];exact eR hk)
  have el:=Hd x l;have en:∀{k:Nat},k<l.length->aM (ptL x l) k=aW (aQ l k) x:=λh=>JK x h;refine⟨⟨rfl,rfl,cO _,Nat.le_of_eq el.symm,by dsimp only;rw[<-el];rfl⟩,λy hy=>⟨λhlt=>⟨⟨by unfold aG;have:=hy.2.1;have:=hy.1;omega,by omega,?_,qt (by have:=hy.2.1;have:=hy.1;omega)⟩,λ_=>⟨by have:=hy.2.1;unfold ix;omega,hm _ (by have:=hy.2.1;omega),hx,λhn=>⟨by have:=hy.2.1;unfold aG;omega,by omega,rfl,⟨?_,hy.2.1,?_⟩,?_⟩,λhn=>⟨rfl,rfl,⟨?_,?_,?_⟩,?_⟩⟩⟩,λhlt=> ?_⟩⟩
  .rw[qt (by have:=hy.2.1;have:=hy.1;omega)];have:=hy.2.1;unfold aG;omega
  .dsimp only;omega
  .dsimp only;rw[<-hy.2.2];exact(Bm (by omega) (by rw[en (by have:=hy.2.1;omega)];exact hn)).symm
  .omega
  .dsimp only;omega
  .have:=hy.2.1;dsimp only;omega
  .dsimp only;rw[<-hy.2.2];exact(Bo (by omega) (by rw[en (by have:=hy.2.1;omega)];exact hn)).symm
  .omega
  .have e:ptX x l=y.1:=by show bsP id (ptL x l)=_;rw[<-hy.2.2];exact A8 (by omega)
   have:=hy.2.1;have:=hy.1;have eF:ptF x l=(decide (ptX x l<(ptL x l).length)&&decide (aM (ptL x l) (ptX x l)=0)):=rfl;refine⟨λh1=>⟨by unfold ix;omega,hm _ (by omega),hx,by rw[e],?_⟩,λh1=>⟨by rw[e],?_⟩⟩
   .rw[eF,e,show decide (y.1<(ptL x l).length)=true from decide_eq_true (by omega),jH,en (by omega)]
   .rw[eF,e,show decide (y.1<(ptL x l).length)=false from decide_eq_false (by omega),ll])
noncomputable def Nt:Tab:=ap [(49,QC)] N7
def KV:Nt.Ok aH:=aq Ka ⟨aBL,trivial⟩
noncomputable def QA:Con:=con (ac aE (a1 aE)) (λ(_,_)=>[]) (λ(a,b)=> .int .i64 (gK a b)
 )
def Pd:QA.Ok aH 51:=bA (a7 KV) (raw:=au) (λ(_,_)=>[]) (λ(_,_)=>⟨_,rfl⟩) λ(a,b) _=>aw (q:=[aDh a.fr b.fr,aDh a.to b.to].length<=1000/\orL [aDh a.fr b.fr,aDh a.to b.to] =gK a b) (by kernel_rfl) (by refine⟨by simp,?_⟩;unfold gK orL orL orL;grind)
noncomputable def Nr:Tab:=ap [(51,QA)] Nt
def Z7:Nr.Ok aH:=aq KV ⟨Pd,trivial⟩
noncomputable section
def cxI(T:Tab):Cx:=⟨aH,T,(cx T).lt,(cx T).q,(cx T).mt,λf=>match ae f 48 with|true=>true|false=>(match ae f 54 with|true=>true|false=>(match ae f 1000044 with|true=>true|false=>ae f 1000045))⟩
def uG{T:Tab}(h:T.Ok aH):(cxI T).Ok:=⟨h,(a7 h).2.1,(a7 h).2.2⟩
def IV{X:Cx}(hX:X.Ok){D:Nat->InD}(hD:n8 X D){raw:Nat->Nat->Bool}{f:Nat}{α:Type}{A:Arl α}{pre:α->List Prop}{res:α->SV}(ann:α->List (Nat×Ann))(hr:∀x,∃q,(res x).av= .p q)
  (h:∀x,kA (pre x)->(q8 X D l8 true raw f (ann x) (A.enc x) λn rs=>xk X.P n rs (res x)).holds):(con A pre res).Ok X.P f:=by
 intro s x hd hp;obtain⟨B,hB⟩:=A.pl x;obtain⟨q,hq⟩:=hr x;obtain⟨hok,fn,c,L0,N0,hf,hb,h0,hw⟩:=vv hX hD (Q:=λrs=>ra X.P rs q) hB (λ_ _ _ _=>nF _ _ _) (λn rs e F L N hh=>Ag hq hh) (h x (fH.2 hp));exact⟨B,q,by rw[A.ok s x hd,hB],hq,vT hok hf hb h0 hw⟩
def fM:List Pt->List Pt
 |[] =>[]
 |[x] =>[x]
 |x::y::r=>if x=y then fM (y::r)else x::fM (y::r)
end
def pP{p q:Pt}:aW p q<0↔(p.y*q.den<q.y*p.den\/(p.y*q.den=q.y*p.den/\p.x*q.den<q.x*p.den)):=by unfold aW aDh;split<;>(try split)<;>(try split)<;>(try split)<;>omega
def zY{p q:Pt}:aW p q=0↔p.y*q.den=q.y*p.den/\p.x*q.den=q.x*p.den:=by unfold aW aDh;split<;>(try split)<;>(try split)<;>(try split)<;>omega
def POk.gcd{p:Pt}(h:POk p):cE (cE p.x.natAbs p.y.natAbs) p.den.natAbs=1:=by have:=h.v;unfold dE at this;simp only[cD,beq_iff_eq]at this;exact this.2
def IP{a b d c e f:Nat}(hg:cE (cE a b) d=1)(h1:a*f=c*d)(h2:b*f=e*d):d∣f:=by have k1:d∣a*f:=⟨c,by rw[h1,ur]⟩;have k2:d∣b*f:=⟨e,by rw[h2,ur]⟩;have k3:d∣d*f:=⟨f,rfl⟩;have k4:d∣cE (cE (a*f) (b*f)) (d*f):=Nat.dvd_gcd (Nat.dvd_gcd k1 k2) k3;rw[Dj,Dj,hg,oV]at k4;exact k4
def POk.eq{p q:Pt}(hp:POk p)(hq:POk q)(h:aW p q=0):p=q:=by
 obtain⟨h1,h2⟩:=zY.1 h;have dp:=hp.den;have dq:=hq.den;have e1:p.x.natAbs*q.den.natAbs=q.x.natAbs*p.den.natAbs:=by rw[<-qF,<-qF,h2]
 have e2:p.y.natAbs*q.den.natAbs=q.y.natAbs*p.den.natAbs:=by rw[<-qF,<-qF,h1]
 have k1:=IP hp.gcd e1 e2;have k2:=IP hq.gcd e1.symm e2.symm;have k3:=Nat.dvd_antisymm k1 k2;have hd:p.den=q.den:=by omega
 rw[hd]at h1 h2;have hx:=Int.eq_of_mul_eq_mul_right (by omega) h2;have hy:=Int.eq_of_mul_eq_mul_right (by omega) h1;cases p;cases q;simp_all
def qH{a b c d e f:Int}(hb:0<b)(hd:0<d)(hf:0<f)(h1:a*d<=c*b)(h2:c*f<=e*d):a*f<=e*b/\(a*d<c*b\/c*f<e*d->a*f<e*b):=by
 have k1:a*d*f<=c*b*f:=kD h1 (by omega);have k2:c*f*b<=e*d*b:=kD h2 (by omega);have k3:a*f*d<=e*b*d:=by
  have e1:a*f*d=a*d*f:=by grind
  have e2:e*b*d=e*d*b:=by grind
  have e3:c*b*f=c*f*b:=by grind
  omega
 refine⟨Int.le_of_mul_le_mul_right k3 hd,λh=> ?_⟩;have k4:a*f*d<e*b*d:=by
  have e1:a*f*d=a*d*f:=by grind
  have e2:e*b*d=e*d*b:=by grind
  have e3:c*b*f=c*f*b:=by grind
  rcases h with h|h
  .have:=Dc h hf;omega
  .have:=Dc h hb;omega
 exact Int.lt_of_mul_lt_mul_right k4 (by omega)
def PZ{l:List Pt}(h:∀p∈l,POk p):OrdG (ltC aW) l:=by
 have hd:∀p∈l,0<p.den:=λp hp=>by have:=(h p hp).den;omega
 refine⟨λx hx y hy z hz h1 h2=> ?_,λx hx y hy h1=> ?_,λx hx y hy h1 h2=> ?_⟩
 .have h1:=pP.1 (of_decide_eq_true h1);have h2:=pP.1 (of_decide_eq_true h2);have dx:=hd x hx;have dy:=hd y hy;have dz:=hd z hz;refine decide_eq_true (pP.2 ?_);rcases h1 with h1|⟨h1,h3⟩
  .rcases h2 with h2|⟨h2,h4⟩
   .exact .inl ((qH dx dy dz (vJ h1) (vJ h2)).2 (.inl h1))
   .exact .inl ((qH dx dy dz (vJ h1) (vK h2)).2 (.inl h1))
  .rcases h2 with h2|⟨h2,h4⟩
   .exact .inl ((qH dx dy dz (vK h1) (vJ h2)).2 (.inr h2))
   .refine .inr ⟨?_,(qH dx dy dz (vJ h3) (vJ h4)).2 (.inl h3)⟩;have a1:=(qH dx dy dz (vK h1) (vK h2)).1;have a2:=(qH dz dy dx (vK h2.symm) (vK h1.symm)).1;omega
 .have h1:=pP.1 (of_decide_eq_true h1);refine decide_eq_false λh2=> ?_;have h2:=pP.1 h2;omega
 .have h1:¬aW x y<0:=of_decide_eq_false h1;have h2:¬aW y x<0:=of_decide_eq_false h2;rw[pP]at h1 h2;exact(h x hx).eq (h y hy) (zY.2 (by omega))
def d46:List SV->Option (List Pt)
 |[.lst .T l,.fnp 47 [] []] =>some l
 |_=>none
noncomputable def QD:Con:=⟨List Pt,d46,λl=>[l.length<=1000000,(∀p∈l,POk p)],.mutR .T 60 λl=>aY (ltC aW) l⟩
def aBM:QD.Ok aH 46:=by
 intro l rest x hd hp;have hr:rest=[.fnp 47 [] []]/\x=l:=by
  change d46 (.lst .T l::rest)=some x at hd;unfold d46 at hd;split at hd
  .rename_i l' e;cases e;cases hd;exact⟨rfl,rfl⟩
  .cases hd
 obtain⟨rfl,rfl⟩:=hr;obtain⟨h1,h2⟩:=fH.2 hp;refine⟨[.fn (.func 47) [] []],rfl,?_⟩;exact FD (ρ0:=Tryz.sort46_ren) Tryz.sort46 .T 60 rfl Tryz.isAgg60 Tryz.sizeOf60 (by kernel_rfl) x 47 [] h1 aW (λp hp q hq=>by
  obtain⟨A,r,hA,hr,hS⟩:=k47 [aT.enc p,aT.enc q] (p,q) rfl (fH.1 ⟨h2 p hp,h2 q hq⟩);have hA2:A=[LT.T.argP p,LT.T.argP q] :=by have h5:avs [aT.enc p,aT.enc q] =([LT.T.argP p,LT.T.argP q] :List PV).map .p:=rfl;rw[h5]at hA;have:=congrArg bJ hA;rw[cW,cW]at this;cases this;rfl
  have hr2:r= .int .i64 (aW p q):=by have h6:(SV.int .i64 (aW p q)).av= .p r:=hr;cases h6;rfl
  subst hA2;subst hr2;exact⟨false,hS⟩) (PZ h2)
def EdK(l:List Ed):Prop:=∀a∈l,∀b∈l,a.fr=b.fr->a.to=b.to->a=b
def nX{a b:Ed}:gK a b<0↔(a.fr<b.fr\/(a.fr=b.fr/\a.to<b.to)):=by unfold gK aDh;split<;>(try split)<;>(try split)<;>(try split)<;>omega
def uf{l:List Ed}(h:EdK l):OrdG (ltC gK) l:=by
 refine⟨λx hx y hy z hz h1 h2=> ?_,λx hx y hy h1=> ?_,λx hx y hy h1 h2=> ?_⟩
 .have h1:=nX.1 (of_decide_eq_true h1);have h2:=nX.1 (of_decide_eq_true h2);exact decide_eq_true (nX.2 (by omega))
 .have h1:=nX.1 (of_decide_eq_true h1);refine decide_eq_false λh2=> ?_;have h2:=nX.1 h2;omega
 .have h1:¬gK x y<0:=of_decide_eq_false h1;have h2:¬gK y x<0:=of_decide_eq_false h2;rw[nX]at h1 h2;exact h x hx y hy (by omega) (by omega)
noncomputable def Nv:Tab:=ap [(46,QD)] Nr
def KW:Nv.Ok aH:=aq Z7 ⟨aBM,trivial⟩
def cmW(l:List Pt)(k:Nat):Nat->List Pt
 |0=>[]
 |j+1=>if 1<=j/\¬aQ l (k+j)=aQ l (k+j-1)then cmW l k j++[aQ l (k+j)]else cmW l k j
def cmR(l:List Pt)(k j:Nat):List Pt:=l.take k++cmW l k j++l.drop (k+(cmW l k j).length)
def cmD(l:List Pt)(k:Nat):Prop:=af (λi=>0<i->¬aQ l i=aQ l (i-1)) k
def dd(p:Pt):List Pt->List Pt
 |[] =>[]
 |y::r=>if p=y then dd y r else y::dd y r
def Ya{p y:Pt}{r:List Pt}:dd p (y::r)=if p=y then dd y r else y::dd y r:=rfl
def Gv:∀(r:List Pt) (x:Pt),fM (x::r)=x::dd x r
 |[],x=>by unfold fM dd;rfl
 |y::r,x=>by
  unfold fM dd;rw[Gv r y];grind
def nU{l:List Pt}{i:Nat}(h:i<l.length):aQ l i=l[i] :=cS h
def xU{l:List Pt}{i:Nat}(h:i<l.length):l.drop i=aQ l i::l.drop (i+1):=by rw[nU h,List.drop_eq_getElem_cons h]
def Z4{l:List Pt}{i:Nat}(h:i<l.length):l.take (i+1)=l.take i++[aQ l i] :=by rw[nU h,List.take_append_getElem h]
def Bl{l:List Pt}:∀{k:Nat},1<=k->k<=l.length->cmD l k->l.take k++dd (aQ l (k-1)) (l.drop k)=fM l
 |0,h,_,_=>by omega
 |1,_,h,_=>by
  cases l with
  |nil=>simp at h
  |cons x r=>rw[Gv];rfl
 |k+2,_,h,hd=>by
  have ih:=Bl (l:=l) (k:=k+1) (by omega) (by omega) (λi hi=>hd i (by omega));have hk:¬aQ l (k+1)=aQ l k:=hd (k+1) (by omega) (by omega);rw[xU (i:=k+1) (by omega)]at ih;unfold dd at ih;rw[if_neg (λe=>hk e.symm)]at ih;rw[Z4 (i:=k+1) (by omega),lj];exact ih
def Jn{l:List Pt}{k:Nat}:∀{j:Nat},1<=j->k+j<=l.length->cmW l k j++dd (aQ l (k+j-1)) (l.drop (k+j))=dd (aQ l k) (l.drop (k+1))
 |0,h,_=>by omega
 |1,_,_=>by
  unfold cmW cmW;rfl
 |j+2,_,h=>by
  have ih:=Jn (l:=l) (k:=k) (j:=j+1) (by omega) (by omega);rw[xU (i:=k+(j+1)) (by omega),Ya]at ih;rw[<-ih,show cmW l k (j+2)=if 1<=j+1/\¬aQ l (k+(j+1))=aQ l (k+(j+1)-1)then cmW l k (j+1)++[aQ l (k+(j+1))]else cmW l k (j+1)from rfl];rw[show k+(j+2)=k+(j+1)+1 by omega,show k+(j+1)+1-1=k+(j+1) by omega];by_cases e:aQ l (k+(j+1))=aQ l (k+(j+1)-1)
  .rw[if_neg (λh=>h.2 e),if_pos e.symm]
  .rw[if_pos ⟨by omega,e⟩,if_neg (λh=>e h.symm),lj];rfl
def tY{l:List Pt}{k:Nat}:∀(j:Nat),(cmW l k j).length<=j-1
 |0=>by unfold cmW;simp
 |j+1=>by
  have:=tY (l:=l) (k:=k) j;unfold cmW;split
  .rw[dh];simp;omega
  .omega
def Yj{l:List Pt}{k j:Nat}(h:k+j<=l.length):(cmR l k j).length=l.length:=by have:=tY (l:=l) (k:=k) j;unfold cmR;simp only[dh,ew,mh];omega
def Jo{l:List Pt}{k j i:Nat}(h:k+j<=l.length)(hi:k+j<=i+1)(hj:1<=j):aQ (cmR l k j) i=aQ l i:=by
 have:=tY (l:=l) (k:=k) j;unfold cmR aQ;rw[bq,iU (by simp;omega),List.getElem?_drop,bq]
 congr 2
 simp only[dh,ew];omega
def Yi{l:List Pt}{k:Nat}(h:k<=l.length):cmR l k 1=l:=by unfold cmR cmW cmW;simp
def XB{l:List Pt}{k j:Nat}(e:aQ l (k+j)=aQ l (k+j-1)):cmR l k (j+1)=cmR l k j:=by
 have e2:cmW l k (j+1)=cmW l k j:=by show(if _ then _ else _)=_;rw[if_neg (λh=>h.2 e)]
 unfold cmR;rw[e2]
def Gy{l:List Pt}{k j:Nat}(hj:1<=j)(e:¬aQ l (k+j)=aQ l (k+j-1)):cmW l k (j+1)=cmW l k j++[aQ l (k+j)] :=by show(if _ then _ else _)=_;rw[if_pos ⟨hj,e⟩]
def XC{l:List Pt}{k j:Nat}(h:k+j<l.length)(hj:1<=j)(e:¬aQ l (k+j)=aQ l (k+j-1)):cmR l k (j+1)=(cmR l k j).set (k+(cmW l k j).length) (aQ l (k+j)):=by
 have hl:=tY (l:=l) (k:=k) j;have hp:(l.take k++cmW l k j).length=k+(cmW l k j).length:=by simp only[dh,ew];omega
 have e1:(cmR l k j).set (k+(cmW l k j).length) (aQ l (k+j))=(l.take k++cmW l k j)++(l.drop (k+(cmW l k j).length)).set 0 (aQ l (k+j)):=by unfold cmR;rw[List.set_append,if_neg (by omega),hp,sE]
 rw[e1,xU (l:=l) (i:=k+(cmW l k j).length) (by omega)];unfold cmR;rw[Gy hj e];simp[oO]
def Zp{l:List Pt}{k:Nat}(h1:1<=k)(hk:k<l.length)(hd:cmD l k)(e:aQ l k=aQ l (k-1)):(cmR l k (l.length-k)).take (k+(cmW l k (l.length-k)).length)=fM l:=by have a:=Bl h1 (by omega) hd;rw[xU hk]at a;unfold dd at a;rw[if_pos e.symm,<-Jn (j:=l.length-k) (by omega) (by omega),show k+(l.length-k)=l.length by omega,List.drop_length]at a;rw[<-a];unfold cmR dd;rw[je,List.take_append_of_le_length (by simp;omega),ir (by simp;omega)]
def Zq{l:List Pt}(h:1<=l.length)(hd:cmD l l.length):fM l=l:=by have a:=Bl h (az _) hd;rw[List.drop_length,List.take_length]at a;unfold dd at a;rw[<-a,je]
def Gx{l:List Pt}(h:l.length<2):fM l=l:=by
 match l,h with
 |[],_=>rfl
 |[x],_=>rfl
def vp:∀(l:List Pt),∀p∈fM l,p∈l
 |[],p,h=>h
 |[x],p,h=>h
 |x::y::r,p,h=>by
  unfold fM at h;have:=vp (y::r) p;grind
def Md{S T:List Pt}{m:Nat}(hS:S.length=m)(hm:m<=1000000)(hT:fM S=T)(h2:¬(m:Int)<2):(1=(1:Int)/\(1:Nat)<=m/\(1:Nat)<=1/\cmD S 1)/\
 (∀x_1:Nat,x_1<=m/\(1:Nat)<=x_1/\cmD S x_1->((x_1:Int)<m->ix (x_1:Int) m/\x_1<S.length/\aG ((x_1:Int)-1)/\ix ((x_1:Int)-1) m/\((x_1:Int)-1).toNat<S.length/\([(aQ S x_1).x,(aQ S x_1).y,(aQ S x_1).den] =[(aQ S ((x_1:Int)-1).toNat).x,(aQ S ((x_1:Int)-1).toNat).y,(aQ S ((x_1:Int)-1).toNat).den]->(0<=(x_1:Int)/\(x_1:Int)<=m)/\(1=(1:Int)/\(x_1:Int)=((x_1+(cmW S x_1 1).length:Nat):Int)/\S=cmR S x_1 1/\(1:Nat)<=1/\(1:Nat)<=m-x_1)/\
 (∀x_2:Nat,(1:Nat)<=x_2/\x_2<=m-x_1->((x_2:Int)<((m-x_1:Nat):Int)->ix (x_2:Int) (m-x_1)/\x_1+x_2<(cmR S x_1 x_2).length/\aG ((x_2:Int)-1)/\ix ((x_2:Int)-1) (m-x_1)/\x_1+((x_2:Int)-1).toNat<(cmR S x_1 x_2).length/\(¬[(aQ (cmR S x_1 x_2) (x_1+x_2)).x,(aQ (cmR S x_1 x_2) (x_1+x_2)).y,(aQ (cmR S x_1 x_2) (x_1+x_2)).den] =[(aQ (cmR S x_1 x_2) (x_1+((x_2:Int)-1).toNat)).x,(aQ (cmR S x_1 x_2) (x_1+((x_2:Int)-1).toNat)).y,(aQ (cmR S x_1 x_2) (x_1+((x_2:Int)-1).toNat)).den]->ix (x_2:Int) (m-x_1)/\x_1+x_2<(cmR S x_1 x_2).length/\ix ((x_1+(cmW S x_1 x_2).length:Nat):Int) m/\x_1+(cmW S x_1 x_2).length<(cmR S x_1 x_2).length/\aG (((x_1+(cmW S x_1 x_2).length:Nat):Int)+1)/\aG ((x_2:Int)+1)/\(x_2:Int)+1=((x_2+1:Nat):Int)/\((x_1+(cmW S x_1 x_2).length:Nat):Int)+1=((x_1+(cmW S x_1 (x_2+1)).length:Nat):Int)/\cR (cmR S x_1 x_2) (x_1+(cmW S x_1 x_2).length) (aQ (cmR S x_1 x_2) (x_1+x_2))=cmR S x_1 (x_2+1)/\(1:Nat)<=x_2+1/\x_2+1<=m-x_1/\m-(x_2+1)<m-x_2)/\
 (¬(¬[(aQ (cmR S x_1 x_2) (x_1+x_2)).x,(aQ (cmR S x_1 x_2) (x_1+x_2)).y,(aQ (cmR S x_1 x_2) (x_1+x_2)).den] =[(aQ (cmR S x_1 x_2) (x_1+((x_2:Int)-1).toNat)).x,(aQ (cmR S x_1 x_2) (x_1+((x_2:Int)-1).toNat)).y,(aQ (cmR S x_1 x_2) (x_1+((x_2:Int)-1).toNat)).den])->aG ((x_2:Int)+1)/\(x_2:Int)+1=((x_2+1:Nat):Int)/\((x_1+(cmW S x_1 x_2).length:Nat):Int)=((x_1+(cmW S x_1 (x_2+1)).length:Nat):Int)/\cmR S x_1 x_2=cmR S x_1 (x_2+1)/\(1:Nat)<=x_2+1/\x_2+1<=m-x_1/\m-(x_2+1)<m-x_2))/\
 (¬(x_2:Int)<((m-x_1:Nat):Int)->(0<=((x_1+(cmW S x_1 x_2).length:Nat):Int)/\((x_1+(cmW S x_1 x_2).length:Nat):Int)<=m)/\x_1+(cmW S x_1 x_2).length+(m-(x_1+(cmW S x_1 x_2).length))<=(cmR S x_1 x_2).length/\(0<=((x_1+(cmW S x_1 x_2).length:Nat):Int)/\((x_1+(cmW S x_1 x_2).length:Nat):Int)<=m)/\0+(x_1+(cmW S x_1 x_2).length)<=(ai (x_1+(cmW S x_1 x_2).length) (cmR S x_1 x_2)++bS (m-(x_1+(cmW S x_1 x_2).length)) (⟨0,0,0⟩:Pt)++bT (x_1+(cmW S x_1 x_2).length+(m-(x_1+(cmW S x_1 x_2).length))) (cmR S x_1 x_2)).length/\ai (x_1+(cmW S x_1 x_2).length) (bT 0 (ai (x_1+(cmW S x_1 x_2).length) (cmR S x_1 x_2)++bS (m-(x_1+(cmW S x_1 x_2).length)) (⟨0,0,0⟩:Pt)++bT (x_1+(cmW S x_1 x_2).length+(m-(x_1+(cmW S x_1 x_2).length))) (cmR S x_1 x_2)))=T)))/\
 (¬[(aQ S x_1).x,(aQ S x_1).y,(aQ S x_1).den] =[(aQ S ((x_1:Int)-1).toNat).x,(aQ S ((x_1:Int)-1).toNat).y,(aQ S ((x_1:Int)-1).toNat).den]->aG ((x_1:Int)+1)/\(x_1:Int)+1=((x_1+1:Nat):Int)/\x_1+1<=m/\(1:Nat)<=x_1+1/\cmD S (x_1+1)/\m-(x_1+1)<m-x_1))/\
 (¬(x_1:Int)<m->m=S.length/\S=T)):=by
 subst hS;have el:∀p q:Pt,[p.x,p.y,p.den] =[q.x,q.y,q.den]->p=q:=by intro p q h;cases p;cases q;simpa using h
 refine⟨⟨rfl,by omega,az _,λi hi h=>by omega⟩,λk hk=>⟨λhlt=>⟨by unfold ix;omega,by omega,by unfold aG;omega,by unfold ix;omega,by omega,λhe=> ?_,λhne=>⟨by unfold aG;omega,rfl,by omega,by omega,?_,by omega⟩⟩,λhge=>⟨rfl,?_⟩⟩⟩
 .have e0:((k:Int)-1).toNat=k-1:=by omega
  rw[e0]at he;have he:=el _ _ he;obtain⟨hkm,hk1,hd⟩:=hk;refine⟨⟨by omega,by omega⟩,⟨rfl,by unfold cmW cmW;simp,(Yi hkm).symm,az _,by omega⟩,λj hj=> ?_⟩;have hw:=tY (l:=S) (k:=k) j;have hl:=Yj (l:=S) (k:=k) (j:=j) (by omega);refine⟨λhlt=> ?_,λhge=> ?_⟩
  .have e1:((j:Int)-1).toNat=j-1:=by omega
   rw[e1,show k+(j-1)=k+j-1 by omega,Jo (i:=k+j) (by omega) (by omega) hj.1,Jo (i:=k+j-1) (by omega) (by omega) hj.1,hl];refine⟨by unfold ix;omega,by omega,by unfold aG;omega,by unfold ix;omega,by omega,λhn=> ?_,λhn=> ?_⟩
   .have hn:¬aQ S (k+j)=aQ S (k+j-1):=λh=>hn (by rw[h]);refine⟨by unfold ix;omega,by omega,by unfold ix;omega,by omega,by unfold aG;omega,by unfold aG;omega,rfl,?_,(XC (by omega) hj.1 hn).symm,by omega,by omega,by omega⟩;rw[Gy hj.1 hn,dh];simp;omega
   .have hn:=el _ _ (Classical.not_not.1 hn);refine⟨by unfold aG;omega,rfl,?_,(XB hn).symm,by omega,by omega,by omega⟩;rw[show cmW S k (j+1)=cmW S k j from if_neg (λh=>h.2 hn)]
  .have ej:j=S.length-k:=by omega
   rw[hl];refine⟨⟨by omega,by omega⟩,by omega,⟨by omega,by omega⟩,?_,?_⟩
   .simp only[dh,ew,mg,mh,hl];omega
   .subst ej;rw[<-hT,<-Zp hk1 (by omega) hd he,mq,lj,List.take_append_of_le_length (by simp only[ew,hl];omega),List.take_take,Nat.min_self]
 .intro i hi h0 he2;rcases jc i k with h|h
  .exact hk.2.2 i h h0 he2
  .have:i=k:=by omega
   subst this;have e0:((i:Int)-1).toNat=i-1:=by omega
   rw[e0]at hne;exact hne (by rw[he2])
 .rw[<-hT];have:k=S.length:=by omega
  subst this;exact(Zq hk.2.1 hk.2.2).symm
noncomputable def RY(xs:List SV)(L:aJ):List (Nat×Ann):=match xs with
 |[.own s _ n] =>(match L.at s with
  |some (.row _ .T l)=>[lp 4 3 n (λk=>[1<=k,cmD l k]) [] (λ_=>[]) (λ_=>[]) λk=>
   [(9,.mk Nat (λF _=>np F 5) [] (λj=>[1<=j,j<=n-k]) (λj=>[(5,.int .i64 (j:Int)),(3,.int .i64 ((k+(cmW l k j).length:Nat):Int))]) (λj=>[(s,.row 60 .T (cmR l k j))]) (λj=>n-j) λ_=>[])]]
  |_=>[])
 |_=>[]
noncomputable def inD:Nat->InD:=λ_=>⟨l8,au,RY⟩
def Jb(X:Cx):n8 X inD:=λ_ _ _ _ _=>nF _ _ _
def aa(l:List aDc)(i:Nat):Nat->List Pt
 |0=>[bP (aK l i).a,bP (aK l i).b]
 |k+1=>if k=i then aa l i k else
   (if shB (aK l i) (aK l k)=true then(if atB (aK l i) (aK l k)=true then aa l i k++[(ag (aK l i) (aK l k)).p]else aa l i k)++[bP (ag (aK l i) (aK l k)).s.a,bP (ag (aK l i) (aK l k)).s.b]
   else(if atB (aK l i) (aK l k)=true then aa l i k++[(ag (aK l i) (aK l k)).p]else aa l i k))
def zn(l:List aDc)(i:Nat):∀k,(aa l i k).length<=3*k+2
 |0=>by unfold aa;simp
 |k+1=>by
  have:=zn l i k;unfold aa;split
  .omega
  .split<;>split<;>(try simp only[dh,iJ,iI])<;>omega
def JI{l:List aDc}{i k:Nat}(h:k=i):aa l i (k+1)=aa l i k:=by show(if _ then _ else _)=_;rw[if_pos h]
def tu{l:List aDc}{i k:Nat}(h:¬k=i):aa l i (k+1)=(if shB (aK l i) (aK l k)=true then(if atB (aK l i) (aK l k)=true then aa l i k++[(ag (aK l i) (aK l k)).p]else aa l i k)++[bP (ag (aK l i) (aK l k)).s.a,bP (ag (aK l i) (aK l k)).s.b]
  else(if atB (aK l i) (aK l k)=true then aa l i k++[(ag (aK l i) (aK l k)).p]else aa l i k)):=by
 show(if _ then _ else _)=_;rw[if_neg h]
def bC(l:List aDc)(i:Nat):List Pt:=fM (aY (ltC aW) (aa l i l.length))
noncomputable def QE:Con:=con (ac (aL .S) (a1 aN)) (λ(l,i)=>[l.length<=1000,i<l.length,(∀p∈aa l i l.length,POk p)]) (λ(l,i)=> .lst .T (bC l i))
def aBN:QE.Ok aH 45:=IV (uG KW) (Jb _) (raw:=au) (λ(l,i)=>[lp 3 27 l.length (λ_=>[]) [14] (λk=>[(5,.own 14 .T (aa l i k).length)]) (λk=>[(14,.row 60 .T (aa l i k))])]
  ) (λ(_,_)=>⟨_,rfl⟩) λ(l,i) hp=>aw (q:=ix (i:Int) l.length/\ix (i:Int) l.length/\(0=(0:Int)/\(2:Nat)=(aa l i 0).length/\[(bP (aK l i).a),(bP (aK l i).b)] =aa l i 0/\(0:Nat)<=l.length)/\
 (∀x:Nat,x<=l.length->((x:Int)<l.length->ix (x:Int) l.length/\((x:Int)=i->aG ((x:Int)+1)/\(x:Int)+1=((x+1:Nat):Int)/\(aa l i x).length=(aa l i (x+1)).length/\aa l i x=aa l i (x+1)/\x+1<=l.length/\l.length-(x+1)<l.length-x)/\
   (¬(x:Int)=i->ix (i:Int) l.length/\(atB (aK l i) (aK l x)=true->(aa l i x).length=(aa l i x).length/\(aa l i x).length+[(ag (aK l i) (aK l x)).p].length<=1000000/\ix (i:Int) l.length/\(shB (aK l i) (aK l x)=true->(aa l i x++[(ag (aK l i) (aK l x)).p]).length=(aa l i x++[(ag (aK l i) (aK l x)).p]).length/\(aa l i x++[(ag (aK l i) (aK l x)).p]).length+[(bP (ag (aK l i) (aK l x)).s.a),(bP (ag (aK l i) (aK l x)).s.b)].length<=1000000/\aG ((x:Int)+1)/\(x:Int)+1=((x+1:Nat):Int)/\(aa l i x++[(ag (aK l i) (aK l x)).p] ++[(bP (ag (aK l i) (aK l x)).s.a),(bP (ag (aK l i) (aK l x)).s.b)]).length=(aa l i (x+1)).length/\aa l i x++[(ag (aK l i) (aK l x)).p] ++[(bP (ag (aK l i) (aK l x)).s.a),(bP (ag (aK l i) (aK l x)).s.b)] =aa l i (x+1)/\x+1<=l.length/\l.length-(x+1)<l.length-x)/\
     (shB (aK l i) (aK l x)=false->aG ((x:Int)+1)/\(x:Int)+1=((x+1:Nat):Int)/\(aa l i x++[(ag (aK l i) (aK l x)).p]).length=(aa l i (x+1)).length/\aa l i x++[(ag (aK l i) (aK l x)).p] =aa l i (x+1)/\x+1<=l.length/\l.length-(x+1)<l.length-x))/\
    (atB (aK l i) (aK l x)=false->ix (i:Int) l.length/\(shB (aK l i) (aK l x)=true->(aa l i x).length=(aa l i x).length/\(aa l i x).length+[(bP (ag (aK l i) (aK l x)).s.a),(bP (ag (aK l i) (aK l x)).s.b)].length<=1000000/\aG ((x:Int)+1)/\(x:Int)+1=((x+1:Nat):Int)/\(aa l i x++[(bP (ag (aK l i) (aK l x)).s.a),(bP (ag (aK l i) (aK l x)).s.b)]).length=(aa l i (x+1)).length/\aa l i x++[(bP (ag (aK l i) (aK l x)).s.a),(bP (ag (aK l i) (aK l x)).s.b)] =aa l i (x+1)/\x+1<=l.length/\l.length-(x+1)<l.length-x)/\
     (shB (aK l i) (aK l x)=false->aG ((x:Int)+1)/\(x:Int)+1=((x+1:Nat):Int)/\(aa l i x).length=(aa l i (x+1)).length/\aa l i x=aa l i (x+1)/\x+1<=l.length/\l.length-(x+1)<l.length-x))))/\
  (¬(x:Int)<l.length->(aa l i x).length=(aa l i x).length/\(aa l i x).length<=1000000/\(∀p:Pt,p∈aa l i x->POk p)/\(((aa l i x).length:Int)<2->(aa l i x).length=(aY (ltC aW) (aa l i x)).length/\aY (ltC aW) (aa l i x)=bC l i)/\
   (¬((aa l i x).length:Int)<2->(1=(1:Int)/\(1:Nat)<=(aa l i x).length/\(1:Nat)<=1/\cmD (aY (ltC aW) (aa l i x)) 1)/\
    (∀x_1:Nat,x_1<=(aa l i x).length/\(1:Nat)<=x_1/\cmD (aY (ltC aW) (aa l i x)) x_1->((x_1:Int)<(aa l i x).length->ix (x_1:Int) (aa l i x).length/\x_1<(aY (ltC aW) (aa l i x)).length/\aG ((x_1:Int)-1)/\ix ((x_1:Int)-1) (aa l i x).length/\((x_1:Int)-1).toNat<(aY (ltC aW) (aa l i x)).length/\([(aQ (aY (ltC aW) (aa l i x)) x_1).x,(aQ (aY (ltC aW) (aa l i x)) x_1).y,(aQ (aY (ltC aW) (aa l i x)) x_1).den] =[(aQ (aY (ltC aW) (aa l i x)) ((x_1:Int)-1).toNat).x,(aQ (aY (ltC aW) (aa l i x)) ((x_1:Int)-1).toNat).y,(aQ (aY (ltC aW) (aa l i x)) ((x_1:Int)-1).toNat).den]->(0<=(x_1:Int)/\(x_1:Int)<=(aa l i x).length)/\(1=(1:Int)/\(x_1:Int)=((x_1+(cmW (aY (ltC aW) (aa l i x)) x_1 1).length:Nat):Int)/\aY (ltC aW) (aa l i x)=cmR (aY (ltC aW) (aa l i x)) x_1 1/\(1:Nat)<=1/\(1:Nat)<=(aa l i x).length-x_1)/\
       (∀x_2:Nat,(1:Nat)<=x_2/\x_2<=(aa l i x).length-x_1->((x_2:Int)<(((aa l i x).length-x_1:Nat):Int)->ix (x_2:Int) ((aa l i x).length-x_1)/\x_1+x_2<(cmR (aY (ltC aW) (aa l i x)) x_1 x_2).length/\aG ((x_2:Int)-1)/\ix ((x_2:Int)-1) ((aa l i x).length-x_1)/\x_1+((x_2:Int)-1).toNat<(cmR (aY (ltC aW) (aa l i x)) x_1 x_2).length/\(¬[(aQ (cmR (aY (ltC aW) (aa l i x)) x_1 x_2) (x_1+x_2)).x,(aQ (cmR (aY (ltC aW) (aa l i x)) x_1 x_2) (x_1+x_2)).y,(aQ (cmR (aY (ltC aW) (aa l i x)) x_1 x_2) (x_1+x_2)).den] =[(aQ (cmR (aY (ltC aW) (aa l i x)) x_1 x_2) (x_1+((x_2:Int)-1).toNat)).x,(aQ (cmR (aY (ltC aW) (aa l i x)) x_1 x_2) (x_1+((x_2:Int)-1).toNat)).y,(aQ (cmR (aY (ltC aW) (aa l i x)) x_1 x_2) (x_1+((x_2:Int)-1).toNat)).den]->ix (x_2:Int) ((aa l i x).length-x_1)/\x_1+x_2<(cmR (aY (ltC aW) (aa l i x)) x_1 x_2).length/\ix ((x_1+(cmW (aY (ltC aW) (aa l i x)) x_1 x_2).length:Nat):Int) (aa l i x).length/\x_1+(cmW (aY (ltC aW) (aa l i x)) x_1 x_2).length<(cmR (aY (ltC aW) (aa l i x)) x_1 x_2).length/\aG (((x_1+(cmW (aY (ltC aW) (aa l i x)) x_1 x_2).length:Nat):Int)+1)/\aG ((x_2:Int)+1)/\(x_2:Int)+1=((x_2+1:Nat):Int)/\((x_1+(cmW (aY (ltC aW) (aa l i x)) x_1 x_2).length:Nat):Int)+1=((x_1+(cmW (aY (ltC aW) (aa l i x)) x_1 (x_2+1)).length:Nat):Int)/\cR (cmR (aY (ltC aW) (aa l i x)) x_1 x_2) (x_1+(cmW (aY (ltC aW) (aa l i x)) x_1 x_2).length) (aQ (cmR (aY (ltC aW) (aa l i x)) x_1 x_2) (x_1+x_2))=cmR (aY (ltC aW) (aa l i x)) x_1 (x_2+1)/\(1:Nat)<=x_2+1/\x_2+1<=(aa l i x).length-x_1/\(aa l i x).length-(x_2+1)<(aa l i x).length-x_2)/\
         (¬(¬[(aQ (cmR (aY (ltC aW) (aa l i x)) x_1 x_2) (x_1+x_2)).x,(aQ (cmR (aY (ltC aW) (aa l i x)) x_1 x_2) (x_1+x_2)).y,(aQ (cmR (aY (ltC aW) (aa l i x)) x_1 x_2) (x_1+x_2)).den] =[(aQ (cmR (aY (ltC aW) (aa l i x)) x_1 x_2) (x_1+((x_2:Int)-1).toNat)).x,(aQ (cmR (aY (ltC aW) (aa l i x)) x_1 x_2) (x_1+((x_2:Int)-1).toNat)).y,(aQ (cmR (aY (ltC aW) (aa l i x)) x_1 x_2) (x_1+((x_2:Int)-1).toNat)).den])->aG ((x_2:Int)+1)/\(x_2:Int)+1=((x_2+1:Nat):Int)/\((x_1+(cmW (aY (ltC aW) (aa l i x)) x_1 x_2).length:Nat):Int)=((x_1+(cmW (aY (ltC aW) (aa l i x)) x_1 (x_2+1)).length:Nat):Int)/\cmR (aY (ltC aW) (aa l i x)) x_1 x_2=cmR (aY (ltC aW) (aa l i x)) x_1 (x_2+1)/\(1:Nat)<=x_2+1/\x_2+1<=(aa l i x).length-x_1/\(aa l i x).length-(x_2+1)<(aa l i x).length-x_2))/\
        (¬(x_2:Int)<(((aa l i x).length-x_1:Nat):Int)->(0<=((x_1+(cmW (aY (ltC aW) (aa l i x)) x_1 x_2).length:Nat):Int)/\((x_1+(cmW (aY (ltC aW) (aa l i x)) x_1 x_2).length:Nat):Int)<=(aa l i x).length)/\x_1+(cmW (aY (ltC aW) (aa l i x)) x_1 x_2).length+((aa l i x).length-(x_1+(cmW (aY (ltC aW) (aa l i x)) x_1 x_2).length))<=(cmR (aY (ltC aW) (aa l i x)) x_1 x_2).length/\(0<=((x_1+(cmW (aY (ltC aW) (aa l i x)) x_1 x_2).length:Nat):Int)/\((x_1+(cmW (aY (ltC aW) (aa l i x)) x_1 x_2).length:Nat):Int)<=(aa l i x).length)/\0+(x_1+(cmW (aY (ltC aW) (aa l i x)) x_1 x_2).length)<=(ai (x_1+(cmW (aY (ltC aW) (aa l i x)) x_1 x_2).length) (cmR (aY (ltC aW) (aa l i x)) x_1 x_2)++bS ((aa l i x).length-(x_1+(cmW (aY (ltC aW) (aa l i x)) x_1 x_2).length)) (⟨0,0,0⟩:Pt)++bT (x_1+(cmW (aY (ltC aW) (aa l i x)) x_1 x_2).length+((aa l i x).length-(x_1+(cmW (aY (ltC aW) (aa l i x)) x_1 x_2).length))) (cmR (aY (ltC aW) (aa l i x)) x_1 x_2)).length/\ai (x_1+(cmW (aY (ltC aW) (aa l i x)) x_1 x_2).length) (bT 0 (ai (x_1+(cmW (aY (ltC aW) (aa l i x)) x_1 x_2).length) (cmR (aY (ltC aW) (aa l i x)) x_1 x_2)++bS ((aa l i x).length-(x_1+(cmW (aY (ltC aW) (aa l i x)) x_1 x_2).length)) (⟨0,0,0⟩:Pt)++bT (x_1+(cmW (aY (ltC aW) (aa l i x)) x_1 x_2).length+((aa l i x).length-(x_1+(cmW (aY (ltC aW) (aa l i x)) x_1 x_2).length))) (cmR (aY (ltC aW) (aa l i x)) x_1 x_2)))=bC l i)))/\
      (¬[(aQ (aY (ltC aW) (aa l i x)) x_1).x,(aQ (aY (ltC aW) (aa l i x)) x_1).y,(aQ (aY (ltC aW) (aa l i x)) x_1).den] =[(aQ (aY (ltC aW) (aa l i x)) ((x_1:Int)-1).toNat).x,(aQ (aY (ltC aW) (aa l i x)) ((x_1:Int)-1).toNat).y,(aQ (aY (ltC aW) (aa l i x)) ((x_1:Int)-1).toNat).den]->aG ((x_1:Int)+1)/\(x_1:Int)+1=((x_1+1:Nat):Int)/\x_1+1<=(aa l i x).length/\(1:Nat)<=x_1+1/\cmD (aY (ltC aW) (aa l i x)) (x_1+1)/\(aa l i x).length-(x_1+1)<(aa l i x).length-x_1))/\
     (¬(x_1:Int)<(aa l i x).length->(aa l i x).length=(aY (ltC aW) (aa l i x)).length/\aY (ltC aW) (aa l i x)=bC l i)))))) (by kernel_rfl) (by
  change l.length<=1000/\i<l.length/\((∀p∈aa l i l.length,POk p))at hp;obtain⟨hl,hi,hP⟩:=hp;have hlen:=zn l i;refine⟨by unfold ix;omega,by unfold ix;omega,⟨rfl,rfl,rfl,cO _⟩,λx hx=>⟨λhlt=>⟨by unfold ix;omega,λhe=> ?_,λhne=>⟨by unfold ix;omega,λha=>⟨rfl,?_,by unfold ix;omega,λhs=>⟨rfl,?_,?_⟩,λhs=> ?_⟩,λha=>⟨by unfold ix;omega,λhs=>⟨rfl,?_,?_⟩,λhs=> ?_⟩⟩⟩,λhge=> ?_⟩⟩
  .rw[JI (by omega)];exact⟨by unfold aG;omega,rfl,rfl,rfl,by omega,by omega⟩
  .have:=hlen x;simp only[iJ,iI];omega
  .have:=hlen x;simp only[dh,iJ,iI];omega
  .rw[tu (by omega),if_pos hs,if_pos ha];exact⟨by unfold aG;omega,rfl,rfl,rfl,by omega,by omega⟩
  .rw[tu (by omega),if_neg (by rw[hs];exact sH),if_pos ha];exact⟨by unfold aG;omega,rfl,rfl,rfl,by omega,by omega⟩
  .have:=hlen x;simp only[iJ,iI];omega
  .rw[tu (by omega),if_pos hs,if_neg (by rw[ha];exact sH)];exact⟨by unfold aG;omega,rfl,rfl,rfl,by omega,by omega⟩
  .rw[tu (by omega),if_neg (by rw[hs];exact sH),if_neg (by rw[ha];exact sH)];exact⟨by unfold aG;omega,rfl,rfl,rfl,by omega,by omega⟩
  .have ex:x=l.length:=by omega
   subst ex;have:=hlen l.length;have hSl:(aY (ltC aW) (aa l i l.length)).length=(aa l i l.length).length:=(fP _ _).length_eq;refine⟨rfl,by omega,hP,λh2=>⟨hSl.symm,?_⟩,λh2=>Md hSl (by omega) rfl h2⟩;exact(Gx (by omega)).symm)
noncomputable def Nw:Tab:=ap [(45,QE)] Nv
def Z8:Nw.Ok aH:=aq KW ⟨aBN,trivial⟩
def d50:List SV->Option (List Ed)
 |[.lst .E l,.fnp 51 [] []] =>some l
 |_=>none
noncomputable def QB:Con:=⟨List Ed,d50,λl=>[l.length<=1000000,EdK l],.mutR .E 45 λl=>aY (ltC gK) l⟩
def aBK:QB.Ok aH 50:=by
 intro l rest x hd hp;have hr:rest=[.fnp 51 [] []]/\x=l:=by
  change d50 (.lst .E l::rest)=some x at hd;unfold d50 at hd;split at hd
  .rename_i l' e;cases e;cases hd;exact⟨rfl,rfl⟩
  .cases hd
 obtain⟨rfl,rfl⟩:=hr;obtain⟨h1,h2⟩:=fH.2 hp;refine⟨[.fn (.func 51) [] []],rfl,?_⟩;exact FD (ρ0:=Tryz.sort50_ren) Tryz.sort50 .E 45 rfl Tryz.isAgg45 Tryz.sizeOf45 (by kernel_rfl) x 51 [] h1 gK (λp hp q hq=>by
  obtain⟨A,r,hA,hr,hS⟩:=Pd [aE.enc p,aE.enc q] (p,q) rfl (fH.1 trivial);have hA2:A=[LT.E.argP p,LT.E.argP q] :=by have h5:avs [aE.enc p,aE.enc q] =([LT.E.argP p,LT.E.argP q] :List PV).map .p:=rfl;rw[h5]at hA;have:=congrArg bJ hA;rw[cW,cW]at this;cases this;rfl
  have hr2:r= .int .i64 (gK p q):=by have h6:(SV.int .i64 (gK p q)).av= .p r:=hr;cases h6;rfl
  subst hA2;subst hr2;exact⟨false,hS⟩) (uf h2)
noncomputable def Ns:Tab:=ap [(50,QB)] Nw
def KU:Ns.Ok aH:=aq Z8 ⟨aBK,trivial⟩
noncomputable def QF:Con:=con (a1 (aL .S)) (λl=>[l.length<=1000000]) (λl=> .lst .S l
 )
def aBO:QF.Ok aH 44:=IV (uG KU) (Jb _) (raw:=au) (λ_=>[]) (λ_=>⟨_,rfl⟩) λl hp=>aw (q:=(l=([] :List S)->l=([] :List S))/\
 ([] :List S).length+l.length<=1000000/\(([] :List S)++l).length=(([] :List S)++l).length/\([] :List S)++l=l) (by kernel_rfl) (by change l.length<=1000000 at hp;exact⟨λh=>h,by simpa using hp,rfl,rfl⟩)
noncomputable def Nx:Tab:=ap [(44,QF)] Ns
def KX:Nx.Ok aH:=aq KU ⟨aBO,trivial⟩
def POk.q{p:Pt}(h:POk p)(hd:p.den<=33000000):QOk p:=by have h1:=h.den;have h2:=h.x;exact⟨⟨h1.1,hd⟩,by omega,by omega⟩
structure EdIn(p:Pl)(e:Ed):Prop where
 fr:0<=e.fr/\e.fr<p.vs.length
 to:0<=e.to/\e.to<p.vs.length
 src:∀x∈e.src,0<=x/\x<p.sg.length
 len:e.src.length<=1000000
def btP(p:Pl)(v:V)(e:Ed):Bool:=(e.src.all λx=>onS (aK p.sg x.toNat) v)&&(decide (aW (aQ p.vs e.fr.toNat) (bP v)<0)&&decide (aW (bP v) (aQ p.vs e.to.toNat)<0))
structure PlF(p:Pl):Prop where
 ed:∀e∈p.es,0<=e.lf/\e.lf<p.fs.length/\0<=e.rt/\e.rt<p.fs.length/\e.src.length<=1000000
 lf:p.fs.length<=1000000
 fc:∀f∈p.fs,f.length<=1000000/\∀c∈f,c.length<=1000000/\∀h∈c,HIn p h
def aVp:Ar V where
 enc v:= .pro [.int .i64 v.x,.int .i64 v.y] 0
 dec s:=match s with
  | .pro [.int .i64 x,.int .i64 y] 0=>some ⟨x,y⟩
  |_=>none
 ok s a h:=by grind
 pl _:=⟨_,rfl⟩
def aC7:Ar (Pl×V×Unit):=aCz 74 (ac aPp (ac aVp a0))
def CY:Ar (Unit×Pl×Unit):=aCz 133 (ac (aFp 132) (ac aPp a0))
def CX:Ar (Unit×Pl×Unit):=aCz 135 (ac (aFp 132) (ac aPp a0))
def cY(n most:Int):Bool:=decide (n<0\/most<=n)
noncomputable def Ms:Con:=con (ac aT (a1 aT)) (λ(a,b)=>[QOk a,QOk b]) (λ(a,b)=> .int .i64 (aW a b)
 )
def aAx:Ms.Ok aH 137:=bA (a7 KX) (raw:=au) (λ(_,_)=>[]) (λ(_,_)=>⟨_,rfl⟩) λ(a,b) hp=>aw (q:=aG (a.y*b.den)/\aG (b.y*a.den)/\aG (a.x*b.den)/\aG (b.x*a.den)/\[aDh (a.y*b.den) (b.y*a.den),aDh (a.x*b.den) (b.x*a.den)].length<=1000/\orL [aDh (a.y*b.den) (b.y*a.den),aDh (a.x*b.den) (b.x*a.den)] =aW a b) (by kernel_rfl) (by
 change QOk a/\QOk b at hp;obtain⟨ha,hb⟩:=hp;have key:∀{x d e:Int},-(4000*e)<=x->x<=4000*e->1<=e->e<=33000000->1<=d->d<=33000000->aG (x*d):=by intro x d e h1 h2 h3 h4 h5 h6;have k1:x*d<=132000000000*d:=kD (by omega) (by omega);have k2: -132000000000*d<=x*d:=kD (by omega) (by omega);unfold aG;omega
 refine⟨key ha.y.1 ha.y.2 ha.d.1 ha.d.2 hb.d.1 hb.d.2,key hb.y.1 hb.y.2 hb.d.1 hb.d.2 ha.d.1 ha.d.2,key ha.x.1 ha.x.2 ha.d.1 ha.d.2 hb.d.1 hb.d.2,key hb.x.1 hb.x.2 hb.d.1 hb.d.2 ha.d.1 ha.d.2,by simp,?_⟩;unfold aW orL orL orL;grind)
noncomputable def Lj:Tab:=ap [(137,Ms)] Nx
def Iw:Lj.Ok aH:=aq KX ⟨aAx,trivial⟩
noncomputable def P2:Con:=con (ac aPl (ac aE (a1 aV))) (λ(p,e,v)=>[PlOk p,EdIn p e,bd 4000 v]) (λ(p,e,v)=> .bool (btP p v e))
def aBC:P2.Ok aH 75:=bA (a7 Iw) (raw:=au) (λ(p,e,v)=>[cnt 2 13 e.src.length (af λj=>onS (aK p.sg (aM e.src j).toNat) v=true)]
  ) (λ(_,_,_)=>⟨_,rfl⟩) λ(p,e,v) hp=>aw (q:=(0=(0:Int)/\(0:Nat)<=e.src.length/\af (λj=>onS (aK p.sg (aM e.src j).toNat) v=true) 0)/\
 (∀x:Nat,x<=e.src.length/\af (λj=>onS (aK p.sg (aM e.src j).toNat) v=true) x->((x:Int)<e.src.length->ix (x:Int) e.src.length/\ix (aM e.src x) p.sg.length/\((!onS (aK p.sg (aM e.src x).toNat) v)=true->false=btP p v e)/\
   ((!onS (aK p.sg (aM e.src x).toNat) v)=false->aG ((x:Int)+1)/\(x:Int)+1=((x+1:Nat):Int)/\x+1<=e.src.length/\af (λj=>onS (aK p.sg (aM e.src j).toNat) v=true) (x+1)/\e.src.length-(x+1)<e.src.length-x))/\
  (¬(x:Int)<e.src.length->ix e.fr p.vs.length/\QOk (aQ p.vs e.fr.toNat)/\QOk (bP v)/\(aW (aQ p.vs e.fr.toNat) (bP v)<0->ix e.to p.vs.length/\QOk (bP v)/\QOk (aQ p.vs e.to.toNat)/\decide (aW (bP v) (aQ p.vs e.to.toNat)<0)=btP p v e)/\
   (¬aW (aQ p.vs e.fr.toNat) (bP v)<0->false=btP p v e)))) (by kernel_rfl) (by
  change PlOk p/\EdIn p e/\bd 4000 v at hp;obtain⟨hP,hE,hv⟩:=hp;have hin:∀{k:Nat},k<e.src.length->aM e.src k∈e.src:=λhk=>by rw[show aM e.src _=e.src[_]from cS hk];exact eR hk
  have hq:QOk (bP v):=by unfold bd at hv;refine⟨⟨Int.le_refl 1,by show(1:Int)<=33000000;omega⟩,?_,?_⟩<;>(show _<=_/\_<=_)<;>(unfold bP;dsimp only;omega)
  have hpt:∀{k:Int},0<=k->k<p.vs.length->QOk (aQ p.vs k.toNat):=λ{k} h1 h2=>by
   have hk:k.toNat<p.vs.length:=by omega
   have:=hP.pt _ (eR hk);rw[show aQ p.vs k.toNat=p.vs[k.toNat]from cS hk];exact this.1.q this.2
  have hf:=hE.fr;have ht:=hE.to;have hl:=hE.len;refine⟨⟨rfl,cO _,d8 _⟩,λx hx=>⟨λhlt=>⟨by unfold ix;omega,?_,λhn=> ?_,λhn=>⟨by unfold aG;omega,rfl,by omega,b8 hx.2 (by simpa using hn),by omega⟩⟩,λhge=>⟨by unfold ix;omega,hpt hf.1 hf.2,hq,λh1=>⟨by unfold ix;omega,hq,hpt ht.1 ht.2,?_⟩,λh1=> ?_⟩⟩⟩
  .have:=hE.src _ (hin (k:=x) (by omega));unfold ix;omega
  .have hn:onS (aK p.sg (aM e.src x).toNat) v=false:=by simpa using hn
   unfold btP;rw[show(e.src.all λx=>onS (aK p.sg x.toNat) v)=false from List.all_eq_false.2 ⟨_,hin (k:=x) (by omega),by rw[hn];exact sH⟩];rfl
  all_goals
   have hall:(e.src.all λx=>onS (aK p.sg x.toNat) v)=true:=List.all_eq_true.2 λy hy=>by obtain⟨k,hk,rfl⟩:=List.getElem_of_mem hy;have:onS (aK p.sg (aM e.src k).toNat) v=true:=hx.2 k (by omega);rw[show aM e.src k=e.src[k]from cS hk]at this;exact this
   unfold btP;rw[hall,jH];first|rw[decide_eq_true h1,jH] |rw[decide_eq_false h1,ll])
noncomputable def Nf:Tab:=ap [(75,P2)] Lj
def KM:Nf.Ok aH:=aq Iw ⟨aBC,trivial⟩
noncomputable def P3:Con:=con (ac aE (ac aPp (a1 aVp))) (λ(e,p,v)=>[PlOk p,EdIn p e,bd 4000 v]) (λ(e,p,v)=> .bool (btP p v e)
 )
def aBD:P3.Ok aH 74:=bA (a7 KM) (raw:=au) (λ(_,_,_)=>[]) (λ(_,_,_)=>⟨_,rfl⟩) λ(e,p,v) hp=>aw (q:=PlOk p/\EdIn p e/\bd 4000 v/\btP p v e=btP p v e) (by kernel_rfl) (by change PlOk p/\EdIn p e/\bd 4000 v at hp;exact⟨hp.1,hp.2.1,hp.2.2,rfl⟩)
noncomputable def Ng:Tab:=ap [(74,P3)] Nf
def KN:Ng.Ok aH:=aq KM ⟨aBD,trivial⟩
noncomputable def P4:Con:=con (ac (aL .E) (a1 aC7)) (λ(l,c)=>[l.length<=1000000,PlOk c.1,(∀e∈l,EdIn c.1 e),bd 4000 c.2.1]) (λ(l,c)=> .int .i64 (fI (λe=>btP c.1 c.2.1 e) l))
def aBE:P4.Ok aH 73:=bA (a7 KN) (raw:=au) (λ(l,c)=>[cnt 2 8 l.length (af λj=>btP c.1 c.2.1 (aP l j)=false)]
  ) (λ(_,_)=>⟨_,rfl⟩) λ(l,c) hp=>aw (q:=(0=(0:Int)/\(0:Nat)<=l.length/\af (λj=>btP c.1 c.2.1 (aP l j)=false) 0)/\
 (∀x:Nat,x<=l.length/\af (λj=>btP c.1 c.2.1 (aP l j)=false) x->((x:Int)<l.length->ix (x:Int) l.length/\PlOk c.1/\EdIn c.1 (aP l x)/\bd 4000 c.2.1/\(btP c.1 c.2.1 (aP l x)=true->(x:Int)=fI (λe=>btP c.1 c.2.1 e) l)/\
   (btP c.1 c.2.1 (aP l x)=false->aG ((x:Int)+1)/\(x:Int)+1=((x+1:Nat):Int)/\x+1<=l.length/\af (λj=>btP c.1 c.2.1 (aP l j)=false) (x+1)/\l.length-(x+1)<l.length-x))/\
  (¬(x:Int)<l.length-> -1=fI (λe=>btP c.1 c.2.1 e) l))) (by kernel_rfl) (by
  change l.length<=1000000/\PlOk c.1/\((∀e∈l,EdIn c.1 e))/\bd 4000 c.2.1 at hp;obtain⟨hl,hP,hE,hv⟩:=hp;refine⟨⟨rfl,cO _,d8 _⟩,λx hx=>⟨λhlt=>⟨by unfold ix;omega,hP,hE _ ?_,hv,λhe=> ?_,λhne=>⟨by unfold aG;omega,rfl,by omega,b8 hx.2 hne,by omega⟩⟩,λhge=> ?_⟩⟩
  .have hlt:x<l.length:=by omega
   rw[show aP l x=l[x]from cS hlt];exact eR hlt
  .exact kT (t:= .E) (q:=λe=>btP c.1 c.2.1 e) (by omega) he hx.2
  .obtain rfl:x=l.length:=by omega
   exact lH (t:= .E) (q:=λe=>btP c.1 c.2.1 e) hx.2)
noncomputable def Nh:Tab:=ap [(73,P4)] Ng
def KO:Nh.Ok aH:=aq KN ⟨aBE,trivial⟩
noncomputable def P5:Con:=con (ac (aL .T) (a1 aT)) (λ(l,_)=>[l.length<=1000000]) (λ(l,q)=> .int .i64 (fI (λu=>decide (q=u)) l))
def aBF:P5.Ok aH 71:=bA (a7 KO) (raw:=au) (λ(l,q)=>[cnt 2 8 l.length (af λj=>decide (q=aQ l j)=false)]
  ) (λ(_,_)=>⟨_,rfl⟩) λ(l,q) hp=>aw (q:=(0=(0:Int)/\(0:Nat)<=l.length/\af (λj=>decide (q=aQ l j)=false) 0)/\
 (∀x:Nat,x<=l.length/\af (λj=>decide (q=aQ l j)=false) x->((x:Int)<l.length->ix (x:Int) l.length/\([q.x,q.y,q.den] =[(aQ l x).x,(aQ l x).y,(aQ l x).den]->(x:Int)=fI (λu=>decide (q=u)) l)/\
   (¬[q.x,q.y,q.den] =[(aQ l x).x,(aQ l x).y,(aQ l x).den]->aG ((x:Int)+1)/\(x:Int)+1=((x+1:Nat):Int)/\x+1<=l.length/\af (λj=>decide (q=aQ l j)=false) (x+1)/\l.length-(x+1)<l.length-x))/\
  (¬(x:Int)<l.length-> -1=fI (λu=>decide (q=u)) l))) (by kernel_rfl) (by
  change l.length<=1000000 at hp;have el:∀p q:Pt,[p.x,p.y,p.den] =[q.x,q.y,q.den]->p=q:=by intro p q h;cases p;cases q;simpa using h
  refine⟨⟨rfl,cO _,d8 _⟩,λx hx=>⟨λhlt=>⟨by unfold ix;omega,λhe=> ?_,λhne=>⟨by unfold aG;omega,rfl,by omega,b8 hx.2 (decide_eq_false λe=>hne (by rw[e])),by omega⟩⟩,λhge=> ?_⟩⟩
  .exact kT (t:= .T) (q:=λu=>decide (q=u)) (by omega) (decide_eq_true (el _ _ he)) hx.2
  .obtain rfl:x=l.length:=by omega
   exact lH (t:= .T) hx.2)
noncomputable def Ni:Tab:=ap [(71,P5)] Nh
def KP:Ni.Ok aH:=aq KO ⟨aBF,trivial⟩
noncomputable def Mw:Con:=con (ac aI (a1 aI)) (λ(_,_)=>[]) (λ(n,m)=> .bool (cY n m)
 )
def aAB:Mw.Ok aH 132:=bA (a7 KP) (raw:=au) (λ(_,_)=>[]) (λ(_,_)=>⟨_,rfl⟩) λ(n,m) _=>aw (q:=(n<0->true=cY n m)/\
 (¬n<0->decide (m<=n)=cY n m)) (by kernel_rfl) (by exact⟨λh=>(decide_eq_true (.inl h)).symm,λh=>by unfold cY;simp[h]⟩)
noncomputable def Lo:Tab:=ap [(132,Mw)] Ni
def I3:Lo.Ok aH:=aq KP ⟨aAB,trivial⟩
noncomputable def Mv:Con:=con (ac aI (ac (aFp 132) (a1 aPp))) (λ(_,_,_)=>[]) (λ(n,_,p)=> .bool (cY n p.sg.length)
 )
def aAA:Mv.Ok aH 133:=bA (a7 I3) (raw:=au) (λ(_,_,_)=>[]) (λ(_,_,_)=>⟨_,rfl⟩) λ(n,c,p) _=>aw (q:=cY n (p.sg.length:Int)=cY n (p.sg.length:Int)) (by kernel_rfl) (by exact rfl)
noncomputable def Ln:Tab:=ap [(133,Mv)] Lo
def Iz:Ln.Ok aH:=aq I3 ⟨aAA,trivial⟩
noncomputable def Mt:Con:=con (ac aI (ac (aFp 132) (a1 aPp))) (λ(_,_,p)=>[PlOk p]) (λ(n,_,p)=> .bool (cY n (2*(p.es.length:Int)))
 )
def aAy:Mt.Ok aH 135:=bA (a7 Iz) (raw:=au) (λ(_,_,_)=>[]) (λ(_,_,_)=>⟨_,rfl⟩) λ(n,c,p) hp=>aw (q:=aG (2*(p.es.length:Int))/\cY n (2*(p.es.length:Int))=cY n (2*(p.es.length:Int))) (by kernel_rfl) (by change PlOk p at hp;have:=hp.le;exact⟨by unfold aG;omega,rfl⟩)
noncomputable def Ll:Tab:=ap [(135,Mt)] Ln
def Ix:Ll.Ok aH:=aq Iz ⟨aAy,trivial⟩
noncomputable def Mi:Con:=con (ac (aL .I) (a1 CY)) (λ(l,_)=>[l.length<=1000000]) (λ(l,c)=> .int .i64 (fI (λn=>cY n c.2.1.sg.length) l))
def aAo:Mi.Ok aH 204:=bA (a7 Ix) (raw:=au) (λ(l,c)=>[cnt 2 8 l.length (af λj=>cY (aM l j) c.2.1.sg.length=false)]
  ) (λ(_,_)=>⟨_,rfl⟩) λ(l,c) hp=>aw (q:=(0=(0:Int)/\(0:Nat)<=l.length/\af (λj=>cY (aM l j) (c.2.1.sg.length:Int)=false) 0)/\
 (∀x:Nat,x<=l.length/\af (λj=>cY (aM l j) (c.2.1.sg.length:Int)=false) x->((x:Int)<l.length->ix (x:Int) l.length/\(cY (aM l x) (c.2.1.sg.length:Int)=true->(x:Int)=fI (λn=>cY n (c.2.1.sg.length:Int)) l)/\
   (cY (aM l x) (c.2.1.sg.length:Int)=false->aG ((x:Int)+1)/\(x:Int)+1=((x+1:Nat):Int)/\x+1<=l.length/\af (λj=>cY (aM l j) (c.2.1.sg.length:Int)=false) (x+1)/\l.length-(x+1)<l.length-x))/\
  (¬(x:Int)<l.length-> -1=fI (λn=>cY n (c.2.1.sg.length:Int)) l))) (by kernel_rfl) (by
  change l.length<=1000000 at hp
  repeat' first|with_reducible apply c6|with_reducible intro
  all_goals repeat with_reducible cases‹_/\_›
  all_goals first|assumption|rfl|exact trivial|exact nb ‹_› |exact nb' ‹_› |omega|exact fK (by omega)|(unfold ix;omega)|(unfold aG;omega)|exact d8 _|exact b8 ‹_› ‹_› |(refine b8 ‹_› ?_;simp_all;done)|exact kT (t:= .I) (by omega) ‹_› ‹_› |(obtain rfl:_=l.length:=oW ‹_› (by omega);exact lH (t:= .I) ‹_›)|grind)
noncomputable def Kt:Tab:=ap [(204,Mi)] Ll
def Im:Kt.Ok aH:=aq Ix ⟨aAo,trivial⟩
noncomputable def Mu:Con:=con (ac (aL .I) (a1 CY)) (λ(l,_)=>[l.length<=1000000]) (λ(l,c)=> .bool (l.any λn=>cY n c.2.1.sg.length)
 )
def MX:Mu.Ok aH 134:=bA (a7 Im) (raw:=au) (λ(_,_)=>[]) (λ(_,_)=>⟨_,rfl⟩) λ(l,c) hp=>aw (q:=l.length<=1000000/\decide (0<=fI (λn=>cY n (c.2.1.sg.length:Int)) l)=iu l (λn=>cY n (c.2.1.sg.length:Int))) (by kernel_rfl) (by change l.length<=1000000 at hp;exact⟨hp,qw _ _⟩)
noncomputable def Bx:Tab:=ap [(134,Mu)] Kt
def wh:Bx.Ok aH:=aq Im ⟨MX,trivial⟩
noncomputable def Mh:Con:=con (ac (aL .I) (a1 CX)) (λ(l,c)=>[l.length<=1000000,PlOk c.2.1]) (λ(l,c)=> .int .i64 (fI (λn=>cY n (2*(c.2.1.es.length:Int))) l))
def aAn:Mh.Ok aH 204:=bA (a7 wh) (raw:=au) (λ(l,c)=>[cnt 2 8 l.length (af λj=>cY (aM l j) (2*(c.2.1.es.length:Int))=false)]
  ) (λ(_,_)=>⟨_,rfl⟩) λ(l,c) hp=>aw (q:=(0=(0:Int)/\(0:Nat)<=l.length/\af (λj=>cY (aM l j) (2*(c.2.1.es.length:Int))=false) 0)/\
 (∀x:Nat,x<=l.length/\af (λj=>cY (aM l j) (2*(c.2.1.es.length:Int))=false) x->((x:Int)<l.length->ix (x:Int) l.length/\PlOk c.2.1/\(cY (aM l x) (2*(c.2.1.es.length:Int))=true->(x:Int)=fI (λn=>cY n (2*(c.2.1.es.length:Int))) l)/\
   (cY (aM l x) (2*(c.2.1.es.length:Int))=false->aG ((x:Int)+1)/\(x:Int)+1=((x+1:Nat):Int)/\x+1<=l.length/\af (λj=>cY (aM l j) (2*(c.2.1.es.length:Int))=false) (x+1)/\l.length-(x+1)<l.length-x))/\
  (¬(x:Int)<l.length-> -1=fI (λn=>cY n (2*(c.2.1.es.length:Int))) l))) (by kernel_rfl) (by
  change l.length<=1000000/\PlOk c.2.1 at hp
  repeat' first|with_reducible apply c6|with_reducible intro
  all_goals repeat with_reducible cases‹_/\_›
  all_goals first|assumption|rfl|exact trivial|exact nb ‹_› |exact nb' ‹_› |omega|exact fK (by omega)|(unfold ix;omega)|(unfold aG;omega)|exact d8 _|exact b8 ‹_› ‹_› |(refine b8 ‹_› ?_;simp_all;done)|exact kT (t:= .I) (by omega) ‹_› ‹_› |(obtain rfl:_=l.length:=oW ‹_› (by omega);exact lH (t:= .I) ‹_›)|grind)
noncomputable def Z9:Tab:=ap [(204,Mh)] Bx
def Yw:Z9.Ok aH:=aq wh ⟨aAn,trivial⟩
noncomputable def aAX:Con:=con (ac (aL .I) (a1 CX)) (λ(l,c)=>[l.length<=1000000,PlOk c.2.1]) (λ(l,c)=> .bool (l.any λn=>cY n (2*(c.2.1.es.length:Int)))
 )
def aAz:aAX.Ok aH 134:=bA (a7 Yw) (raw:=au) (λ(_,_)=>[]) (λ(_,_)=>⟨_,rfl⟩) λ(l,c) hp=>aw (q:=l.length<=1000000/\PlOk c.2.1/\decide (0<=fI (λn=>cY n (2*(c.2.1.es.length:Int))) l)=iu l (λn=>cY n (2*(c.2.1.es.length:Int)))) (by kernel_rfl) (by change l.length<=1000000/\PlOk c.2.1 at hp;exact⟨hp.1,hp.2,qw _ _⟩)
section
variable {P:Program}
def ce.ng{o:Oper}{F:List AV}{L:Sto}{N:Nat}{r:AV}{R:List Nat}{W:List (Nat×Option Ob)}{K:List AV->Sto->Nat->Prop}(h:bB P o (dC F) L N r R W)(hK:K (cJ F o.dst r) (aX L W) (N+1)):ce P o F L N K:=by
 intro C0 B wI a w ⟨⟨ρ,s1,s2,s3⟩,s4,s5,s6,s7⟩;have hgn:∀s,cls s=N->L s=none:=by
  intro s hs;cases hx:L s with
  |none=>rfl
  |some ob=>obtain⟨q,c,h1,_⟩:=s1.ob _ _ hx;rw[s2 s (by omega)]at h1;cases h1
 refine nA (h C0 ρ L _ w B s1 s4 (λ_ _=>rfl) (λs hs=>s2 s (by omega)) hgn (λx _=>nH λt _=>s3 t)) ?_;rintro v w' ⟨ρ',k1,k2,k3,k4,k5⟩;have hext:∀s q,ρ s=some q->ρ' s=some q:=by intro s q hq;rw[k1 s λe=>by rw[s2 s (by omega)]at hq;cases hq];exact hq
 refine⟨_,_,_,hK,⟨ρ',k3,λs hs=>by rw[k1 s (by omega)];exact s2 s (by omega),λt=> ?_⟩,ci s4 k5.size,by cases o.dst<;>exact s5,by rw[kj];cases o.dst<;>simpa[Act.put]using s6,s7.trans k5⟩;rw[nD,sm,s6];by_cases e:o.dst=some t/\t<F.length
 .rw[if_pos e,if_pos e];exact k4
 .rw[if_neg e,if_neg e];exact aU.mono hext k2 _ _ (s3 t)
def ce.weak{o:Oper}{F:List AV}{L:Sto}{N:Nat}{K:List AV->Sto->Nat->Prop}(h:ce P o F L N λF L N=>∃F' L' N',cZ F L N F' L' N'/\K F' L' N'):ce P o F L N K:=by intro C0 B wI a w hS;refine nA (h C0 B wI a w hS) ?_;rintro v w' ⟨F1,L1,N1,⟨F2,L2,N2,h1,h2⟩,h3⟩;exact⟨F2,L2,N2,h2,h1 C0 B wI _ w' h3⟩
end
noncomputable section
abbrev MF:=List ((Nat×Nat)×List Int)
def tR{f:Nat->Nat}:∀{M:MF} {i:Nat} {p:List Int×AV},p∈mfK f i M->∃q∈M,p.1=dD q.1
 |[],_,p,h=>by cases h
 |q::M,i,p,h=>by
  rcases bh.1 h with rfl|h
  .exact⟨q,eG,rfl⟩
  .obtain⟨q',h1,h2⟩:=tR h;exact⟨q',dK _ h1,h2⟩
def Hu{f:Nat->Nat}{M:MF}{i:Nat}:∀p∈mfK f i M,p.1.length=2:=by intro p hp;obtain⟨q,_,e⟩:=tR hp;rw[e];rfl
def z8{f:Nat->Nat}:∀{M:MF} {i:Nat},(M.map (·.1)).Nodup->mX (mfK f i M)
 |[],_,_=>rr
 |q::M,i,h=>by
  rw[cV,kG]at h;refine List.Pairwise.cons (λp hp e=> ?_) (z8 (M:=M) (i:=i+1) h.2);obtain⟨q',h1,h2⟩:=tR hp;have e:dD q.1=p.1:=e;rw[h2]at e;exact h.1 (cF.2 ⟨q',h1,(pD e).symm⟩)
def GP{f:Nat->Nat}{z:AV}:∀{M:MF} {i a:Nat} {q:(Nat×Nat)×List Int},(M.map (·.1)).Nodup->M[a]? =some q->jS (mfK f i M) (dD q.1) z= .own (f (i+a)) 0 q.2.length
 |[],_,_,_,_,h=>by simp at h
 |p::M,i,0,q,_,h=>by
  simp at h;subst h;show(if dD p.1=dD p.1 then _ else _)=_;rw[if_pos rfl];rfl
 |p::M,i,a+1,q,hn,h=>by
  rw[cV,kG]at hn;have h:M[a]? =some q:=by simpa using h
  have hne:dD p.1≠dD q.1:=λe=>hn.1 (cF.2 ⟨q,qB h,(pD e).symm⟩);show(if dD p.1=dD q.1 then _ else jS (mfK f (i+1) M) (dD q.1) z)=_;rw[if_neg hne,GP hn.2 h,show i+1+a=i+(a+1) by omega]
def YB{f:Nat->Nat}{z:AV}{M:MF}{i:Nat}{k:Nat×Nat}(h:∀q∈M,q.1≠k):jS (mfK f i M) (dD k) z=z:=by refine zL λp hp e=> ?_;obtain⟨q,h1,h2⟩:=tR hp;rw[h2]at e;exact h q h1 (pD e)
def zK{f g:Nat->Nat}:∀{M:MF} {i:Nat},(∀j,i<=j->j<i+M.length->f j=g j)->mfK f i M=mfK g i M
 |[],_,_=>rfl
 |q::M,i,h=>by
  unfold mfK;rw[h i (az _) (by simp),zK (M:=M) λj h1 h2=>h j (by omega) (by simp;omega)]
def Hv{f:Nat->Nat}{s:Nat}{l:List Int}:∀{M:MF} {i a:Nat} {q:(Nat×Nat)×List Int},(M.map (·.1)).Nodup->M[a]? =some q->fx (mfK f i M) (dD q.1) (.own s 0 l.length)=mfK (λj=>if j=i+a then s else f j) i (M.set a (q.1,l))
 |[],_,_,_,_,h=>by simp at h
 |p::M,i,0,q,_,h=>by
  simp at h;subst h;show(if dD p.1=dD p.1 then _ else _)=_;rw[if_pos rfl];have e1:mfK f (i+1) M=mfK (λj=>if j=i+0 then s else f j) (i+1) M:=zK λj h1 _=>by rw[if_neg (by omega)]
  rw[e1];show _=([(p.1.1:Int),(p.1.2:Int)],AV.own (if i=i+0 then s else f i) 0 l.length)::mfK _ (i+1) M;rw[if_pos (Nat.add_zero i).symm];rfl
 |p::M,i,a+1,q,hn,h=>by
  rw[cV,kG]at hn;have h:M[a]? =some q:=by simpa using h
  have hne:dD p.1≠dD q.1:=λe=>hn.1 (cF.2 ⟨q,qB h,(pD e).symm⟩);show(if dD p.1=dD q.1 then _ else _::fx (mfK f (i+1) M) (dD q.1) _)=_;rw[if_neg hne,Hv hn.2 h,List.set_cons_succ];show _=([(p.1.1:Int),(p.1.2:Int)],AV.own (if i=i+(a+1)then s else f i) 0 p.2.length)::mfK _ (i+1) _;rw[if_neg (by omega),show i+1+a=i+(a+1) by omega]
def Ec{f:Nat->Nat}:∀{M M':MF} {i:Nat},mfK f i (M++M')=mfK f i M++mfK f (i+M.length) M'
 |[],M',i=>by simp[mfK]
 |q::M,M',i=>by
  show _::mfK f (i+1) (M++M')=_::_;rw[Ec (M:=M)];simp[mfK,oO,Nat.add_comm 1]
def YC{f:Nat->Nat}{s:Nat}{l:List Int}{M:MF}{i:Nat}{k:Nat×Nat}(h:∀q∈M,q.1≠k):fx (mfK f i M) (dD k) (.own s 0 l.length)=mfK (λj=>if j=i+M.length then s else f j) i (M++[(k,l)]):=by
 rw[v8 λp hp e=>by obtain⟨q,h1,h2⟩:=tR hp;rw[h2]at e;exact h q h1 (pD e)]
 rw[Ec,zK (g:=λj=>if j=i+M.length then s else f j) λj _ h2=>by rw[if_neg (by omega)]]
 congr 1
 show _=[([(k.1:Int),(k.2:Int)],AV.own (if i+M.length=i+M.length then s else f _) 0 l.length)];rw[if_pos rfl];rfl
def eW(M:MF)(k:Nat×Nat)(v:Int):MF:=match M with
 |[] =>[(k,[v])]
 |q::M=>if q.1=k then(k,q.2++[v])::M else q::eW M k v
def If{v:Int}:∀{M:MF} {a:Nat} {q:(Nat×Nat)×List Int},(M.map (·.1)).Nodup->M[a]? =some q->eW M q.1 v=M.set a (q.1,q.2++[v])
 |[],_,_,_,h=>by simp at h
 |p::M,0,q,_,h=>by simp at h;subst h;unfold eW;rw[if_pos rfl];rfl
 |p::M,a+1,q,hn,h=>by
  rw[cV,kG]at hn;have h:M[a]? =some q:=by simpa using h
  unfold eW;rw[if_neg λe=>hn.1 (cF.2 ⟨q,qB h,e.symm⟩),If hn.2 h];rfl
def G7{v:Int}{k:Nat×Nat}:∀{M:MF},(∀q∈M,q.1≠k)->eW M k v=M++[(k,[v])]
 |[],_=>rfl
 |p::M,h=>by
  unfold eW;rw[if_neg (h p eG),G7 λq hq=>h q (dK _ hq)];rfl
def Em{N x a s y:Nat}{ob:SOb}(hk':ia N x s y ob=true):js (eo N x a s) (ob.ob y) (ob.ob y):=by
 unfold ia at hk';split at hk'
 case h_2=>cases hk'
 rename_i hz;split at hk'
 .exact⟨rfl,rfl,sR (dH hk')⟩
 .exact⟨rfl,rfl,sR (dH hk')⟩
 .exact⟨rfl,rfl,fX _ _⟩
 .exact ji (.mp _) y (qL hz) (λs hs=>(dg hs).elim)
 .exact ji (.mf _) y (qL hz) (λs hs=>(dg hs).elim)
 .exact ji (.it _ _) y (qL hz) (λs hs=>(dg hs).elim)
 .refine⟨rfl,rfl,nI _ _ _ λi _=> ?_⟩;unfold cu;split
  .rename_i v hv;exact ow (dH hk' (i,v) (vl hv))
  .exact .inl ⟨_,kk (ko hz).1 (λe=>absurd e (ko hz).2.2),rfl⟩
def GO{N x a s:Nat}(hxN:ncl x<N):∀(M:MF) (i:Nat),dM (eo N x a s) (cB (mfK (λj=>inn x (j+1)) i M)) (cB (mfK (λj=>if j=a then aD s else inn x (j+1)) i M))
 |[],_=>rfl
 |q::M,i=>by
  refine⟨_,_,rfl,rfl,_,_,rfl,?_,GO hxN M (i+1)⟩;show dW _ (.own (inn x (i+1)) 0 q.2.length) (.own (if i=a then aD s else inn x (i+1)) 0 q.2.length);by_cases h:i=a
  .subst h;rw[if_pos rfl];refine .inl ⟨aD s,?_,rfl⟩;unfold eo;rw[if_pos (by rw[cP];exact hxN),if_pos rfl]
  .rw[if_neg h];exact .inl ⟨_,kk hxN λ_=>h,rfl⟩
def X8{n N0 N x a s:Nat}{F:Frm}{L:aJ}{σ:Sto}{M:MF}{k:Nat×Nat}{l:List Int}{hav:List Nat}
  (hx:σ (aD x)=some ⟨1,0,cB (mfK (λj=>if j=a then aD s else inn x (j+1)) 0 M)⟩) (ha:M[a]? =some (k,l)) (hs:σ (aD s)=some ⟨3,1,(LT.enc .I l).map .p⟩)
  (hin:∀j,j≠a->σ (inn x (j+1))=(M[j]?).map λq=>⟨3,1,(LT.enc .I q.2).map .p⟩) (hot:∀t,t≠aD x->t≠aD s->(∀j,t≠inn x (j+1))->σ t=L.fn t)
  (hxs:x≠s) (hxN:ncl x<N) (hsn:L.at s=none)
  (hF:∀t,t<n->t∈hav\/gG N x s (F.at t)=true\/F.at t= .mp x) (hL:∀y ob,L.at y=some ob->y=x\/ia N x s y ob=true):
  cZ (F.av n) σ N0 (Frm.av n ((hav.map λd=>(d,SV.any))++F)) (aJ.fn ((x,some (.mf M))::L)) N:=by
 refine tH (eo N x a s) ?_ ?_ (by rw[Frm.eH,Frm.eH]) ?_ ?_
 .intro t y ht;unfold eo at ht;grind
 .intro t t' o ht ht';unfold eo at ht ht';grind
 .intro t ht;rw[Frm.eH]at ht;rw[Frm.fi ht,Frm.fi ht];rcases nZ F t hav with h|⟨h1,h2⟩
  .rw[h];trivial
  .rw[h2];rcases hF t ht with h|h|h
   .exact absurd h h1
   .exact ow h
   .rw[h];exact⟨_,kJ hxN hxs,rfl⟩
 .intro t ob' ht;have hat:∀y,aJ.at ((x,some (.mf M))::L) y=if y=x then some (.mf M)else L.at y:=by
   intro y;show(match ae y x with|true=>_|false=>_)=_;cases h1:ae y x with
   |true=>rw[if_pos (bp h1)]
   |false=>rw[if_neg (f9 h1)]
  rcases gR t with⟨y,rfl⟩|⟨y,b,rfl⟩|hno
  .change Sg.a _ (aD y)=some ob' at ht;rw[Sg.bW,hat y]at ht;by_cases hyx:y=x
   .subst hyx;rw[if_pos rfl]at ht;have ht:=gA ht;rw[kJ hxN hxs];exact⟨_,hx,by rw[<-ht];exact⟨rfl,rfl,GO hxN M 0⟩⟩
   .rw[if_neg hyx]at ht;cases ho:L.at y with
    |none=>rw[ho]at ht;cases ht
    |some ob=>
     rw[ho]at ht;have ht:=gA ht;have hk':=(hL y ob ho).resolve_left hyx;have hys:y≠s:=λe=>by rw[e,hsn]at ho;cases ho
     have hz:mK N x s y=true:=by
      unfold ia at hk';split at hk'
      .assumption
      .cases hk'
     rw[kJ (ko hz).1 hys];refine⟨ob.ob y,?_,by rw[<-ht];exact Em hk'⟩;show σ (aD y)=_;rw[hot _ (λe=>hyx (eL e)) (λe=>hys (eL e)) λj e=>by have:=(cI e).2;omega];show Sg.a L.at (aD y)=_;rw[Sg.bW,ho];rfl
  .change Sg.a _ (inn y (b+1))=some ob' at ht;rw[Sg.co,hat y]at ht;by_cases hyx:y=x
   .subst hyx;rw[if_pos rfl]at ht;change (M[b]?).map (λq=>(⟨3,1,(LT.enc .I q.2).map .p⟩:Ob))=some ob' at ht;by_cases hb:b=a
    .subst hb;rw[ha]at ht;have ht:=gA ht;have hm:eo N y b s (inn y (b+1))=some (some (aD s)):=by unfold eo;rw[if_pos (by rw[cP];exact hxN),if_pos rfl]
     rw[hm];exact⟨_,hs,by rw[<-ht];exact⟨rfl,rfl,fX _ _⟩⟩
    .rw[kk hxN λ_=>hb];exact⟨ob',(hin b hb).trans ht,jk (o':= .mf M) (a:=b) ht⟩
   .rw[if_neg hyx]at ht;cases ho:L.at y with
    |none=>rw[ho]at ht;cases ht
    |some ob=>
     rw[ho]at ht;have hk':=(hL y ob ho).resolve_left hyx;have hz:mK N x s y=true:=by
      unfold ia at hk';split at hk'
      .assumption
      .cases hk'
     rw[kk (ko hz).1 λe=>absurd e hyx];refine⟨ob',?_,jk (o':=ob) ht⟩;show σ (inn y (b+1))=_;rw[hot _ (λe=>by have:=(cI e).2;omega) (λe=>by have:=(cI e).2;omega) λj e=>hyx (cI e).1];show Sg.a L.at (inn y (b+1))=_;rw[Sg.co,ho];exact ht
  .change Sg.a _ t=some ob' at ht;rw[Sg.fp _ hno]at ht;cases ht
def ZQ{P:Program}{oa:Oper}{n N x a k m:Nat}{F:Frm}{L:aJ}{xa ya:Operand}{t t':TypeId}{M:MF}{q:(Nat×Nat)×List Int}{v:Int}{K:List AV->Sto->Nat->Prop}
  (hoa:oa.op= .call {callee:= .builtin .append,args:= #[xa,ya],argTypes:= #[t,t']}) (ht':(bu P t').isSome=true) (he:bu P t=some 3) (hta:jy P 3=true) (hsz:aj P 3=1)
  (hx:cA n F xa= .ownf x .I a k) (hy:cA n F ya= .ownx m 1) (hM:L.at x=some (.mf M)) (hq:M[a]? =some q) (hk:k=q.2.length) (hm:L.at m=some (.arr 3 1 [.int .i64 v])) (hlen:q.2.length+1<=1000000)
  (hK:K (cJ (F.av n) oa.dst (.own (sit N 0) 0 (q.2++[v]).length)) (aX L.fn [(inn x (a+1),none),(sit N 0,some ⟨3,1,(LT.enc .I (q.2++[v])).map .p⟩)]) (N+1)):ce P oa (F.av n) L.fn N K:=by
 have h:=td (P:=P) (E:=dC (F.av n)) (σ:=L.fn) (n:=N) (K:=λr R W=>r= .own (sit N 0) 0 (q.2++[v]).length/\W=[(inn x (a+1),none),(sit N 0,some ⟨3,1,(LT.enc .I (q.2++[v])).map .p⟩)]) ht' hoa ?_
 .obtain⟨r,R,W,h1,rfl,rfl⟩:=h;exact ce.ng h1 hK
 .refine⟨3,he,hta,?_⟩;rw[hsz,<-eT,<-eT,hx,hy];have hlI:∀l:List Int,(LT.enc .I l).length=l.length:=λl=>(LT.I.wide.length l).trans (Nat.mul_one _);refine⟨⟨3,1,(LT.enc .I q.2).map .p⟩,?_,rfl,rfl,?_,⟨3,1,(LT.enc .I [v]).map .p⟩,(LT.enc .I [v]).map .p,?_,rfl,rfl,?_,?_,?_⟩
  .show Sg.a L.at (inn x (a+1))=_;rw[Sg.co,hM];show(M[a]?).map _=_;rw[hq];rfl
  .rw[eB,hlI,hk,Nat.mul_one]
  .show Sg.a L.at (aD m)=_;rw[Sg.bW,hm];rfl
  .omega
  .rw[dh,hk];rfl
  .rw[LT.I.wide.append,d7];rfl
def X9{P:Program}{ol:Oper}{n N x:Nat}{F:Frm}{L:aJ}{xl il:Operand}{t kt et:TypeId}{M:MF}{key:Nat×Nat}{K:List AV->Sto->Nat->Prop}(ho:ol.op= .lookup t xl il false)(ht:P.underlying t=some (.map kt et))(hk:MKey P kt 2)
  (hz:∀w,(zeroValue et).run P w= .ok (.slice none 0 0) w) (hx:cA n F xl= .mp x) (hi:(cA n F il).av= .p (.agg (eu (dD key)))) (hM:L.at x=some (.mf M)) (hn:(M.map (·.1)).Nodup)
  (h1:∀(a:Nat) (q:(Nat×Nat)×List Int),M[a]? =some q->q.1=key->K ((dv n F ol.dst (.ownf x .I a q.2.length)).av n) L.fn (N+1)) (h0:(∀q∈M,q.1≠key)->K ((dv n F ol.dst .nil).av n) L.fn (N+1)):ce P ol (F.av n) L.fn N K:=by
 have e0:aX L.fn [] =L.fn:=rfl;have hsim:=Ef (P:=P) (o:=ol) (E:=dC (F.av n)) (σ:=L.fn) (n:=N) (m:=2) (s:=aD x) (ks:=mfK (λi=>inn x (i+1)) 0 M) (xs:=dD key) (z:= .nil) (zv:= .slice none 0 0) ho ht hk hz (λρ C=>by rfl) (by rw[<-eT,hx];rfl) (by rw[<-eT];exact hi) rfl (by show Sg.a L.at (aD x)=_;rw[Sg.bW,hM];rfl) Hu (z8 hn);by_cases h:∃(a:Nat) (q:(Nat×Nat)×List Int),M[a]? =some q/\q.1=key
 .obtain⟨a,q,hq,rfl⟩:=h;rw[GP hn hq,gc]at hsim;refine ce.ng hsim ?_;have:=h1 a q hq rfl;rw[<-iy]at this;exact this
 .have hne:∀q∈M,q.1≠key:=λq hq e=>by obtain⟨a,ha⟩:=List.getElem?_of_mem hq;exact h ⟨a,q,ha,e⟩
  rw[YB hne]at hsim;refine ce.ng hsim ?_;have:=h0 hne;rw[<-iy]at this;exact this
def ZP{P:Program}{om:Oper}{n N0 N x s a:Nat}{F:Frm}{L:aJ}{xm im ym:Operand}{t kt et:TypeId}{M M':MF}{key k:Nat×Nat}{l:List Int}{hav:List Nat}{K:List AV->Sto->Nat->Prop}(ho:om.op= .mapUpdate t xm im ym)(hd:om.dst=none)(ht:P.underlying t=some (.map kt et))(hk:MKey P kt 2)
  (hx:cA n F xm= .mp x) (hi:(cA n F im).av= .p (.agg (eu (dD key)))) (hy:cA n F ym= .own s .I l.length) (hM:L.at x=some (.mf M)) (hn:(M.map (·.1)).Nodup)
  (hput:fx (mfK (λi=>inn x (i+1)) 0 M) (dD key) (.own (aD s) 0 l.length)=mfK (λj=>if j=a then aD s else inn x (j+1)) 0 M') (ha:M'[a]? =some (k,l)) (hj:∀j,j≠a->M'[j]? =M[j]?)
  (hxs:x≠s) (hxN:ncl x<N) (hsn:L.at s=none) (hF:∀t,t<n->t∈hav\/gG N x s (F.at t)=true\/F.at t= .mp x) (hL:∀y ob,L.at y=some ob->y=x\/ia N x s y ob=true)
  (hK:K (Frm.av n ((hav.map λd=>(d,SV.any))++F)) (aJ.fn ((x,some (.mf M'))::L)) N):ce P om (F.av n) (aX L.fn [(inn x (a+1),none),(aD s,some ⟨3,1,(LT.enc .I l).map .p⟩)]) N0 K:=by
 have hσ:∀u,u≠inn x (a+1)->u≠aD s->aX L.fn [(inn x (a+1),none),(aD s,some ⟨3,1,(LT.enc .I l).map .p⟩)] u=L.fn u:=by intro u h1 h2;unfold aX;simp[cL,beq_eq_false_iff_ne.2 h1,beq_eq_false_iff_ne.2 h2]
 have hσs:aX L.fn [(inn x (a+1),none),(aD s,some ⟨3,1,(LT.enc .I l).map .p⟩)] (aD s)=some ⟨3,1,(LT.enc .I l).map .p⟩:=by
  have h1:aD s≠inn x (a+1):=λe=>by have:=(cI e).2;omega
  unfold aX;simp[cL,beq_eq_false_iff_ne.2 h1]
 have hxi:aD x≠inn x (a+1):=λe=>by have:=(cI e).2;omega
 have hxn:aD x≠aD s:=λe=>hxs (eL e);generalize aX L.fn [(inn x (a+1),none),(aD s,some ⟨3,1,(LT.enc .I l).map .p⟩)] =σ at hσ hσs|-;have hsim:=Ds (P:=P) (o:=om) (E:=dC (F.av n)) (σ:=σ) (n:=N0) (m:=2) (s:=aD x) (ks:=mfK (λi=>inn x (i+1)) 0 M) (xs:=dD key) ho ht hk (by rw[<-eT,hx];rfl) (by rw[<-eT];exact hi) rfl (by rw[hσ _ hxi hxn];show Sg.a L.at (aD x)=_;rw[Sg.bW,hM];rfl) Hu (z8 hn);rw[<-eT,hy,show(SV.own s .I l.length).av= .own (aD s) 0 l.length from rfl,hput]at hsim;refine ce.weak (ce.ng hsim ⟨_,_,_,?_,hK⟩);rw[hd];show cZ (F.av n) _ _ _ _ _;have hup:∀u,u≠aD x->aX σ [(aD x,some ⟨1,0,cB (mfK (λj=>if j=a then aD s else inn x (j+1)) 0 M')⟩)] u=σ u:=by intro u h;unfold aX;simp[cL,beq_eq_false_iff_ne.2 h]
 refine X8 (a:=a) (s:=s) ?_ ha ?_ ?_ ?_ hxs hxN hsn hF hL
 .unfold aX;simp[cL]
 .rw[hup _ λe=>hxn e.symm,hσs]
 .intro j hja;rw[hup _ (λe=>by have:=(cI e).2;omega),hσ _ (λe=>hja (by have:=(cI e).2;omega)) (λe=>by have:=(cI e).2;omega)];show Sg.a L.at (inn x (j+1))=_;rw[Sg.co,hM,hj j hja];rfl
 .intro u h1 h2 h3;rw[hup u h1,hσ u (h3 a) h2]
end
def x3(S:Nat->Option (List PV))(x' y:AV):Prop:=x'= .any\/x'=y\/∃s cells n,S s=some cells/\y= .own s 0 n/\x'= .p (.sl n cells)
def Ct(S:Nat->Option (List PV))(o:Option Ob)(ob:Ob):Prop:=o=some ob\/∃ob0,o=some ob0/\ob.ty=ob0.ty/\ob.esz=ob0.esz/\¬(ob.esz=0/\ob.ty=0)/\ob.cells.length=ob0.cells.length/\
 ∀(i:Nat) x,ob.cells[i]? =some x->∃y,ob0.cells[i]? =some y/\x3 S x y
def Ct.get{S:Nat->Option (List PV)}{o:Option Ob}{ob:Ob}(h:Ct S o ob):∃ob0,o=some ob0/\ob.ty=ob0.ty/\ob.esz=ob0.esz:=by
 rcases h with h|⟨ob0,h1,h2,h3,_⟩
 .grind
 grind
def Dt{F F':List AV}{L L':Sto}{N:Nat}(S:Nat->Option (List PV))(hs:∀s cells,S s=some cells->∃ty esz,L s=some ⟨ty,esz,cells.map .p⟩/\esz≠0)(hl:F'.length=F.length)
  (hF:∀t,t<F.length->x3 S (F'.getD t .any) (F.getD t .any)) (hL:∀k ob,L' k=some ob->S k=none/\Ct S (L k) ob):cZ F L N F' L' N:=by
 intro C0 B wI a w ⟨⟨ρ,s1,s2,s3⟩,s4,s5,s6,s7⟩;have hdead:∀k,L k=none->L' k=none:=by
  intro k hk;cases h:L' k with
  |none=>rfl
  |some ob=>obtain⟨ob0,h0,_⟩:=(hL k ob h).2.get;grind
 have hmono:∀b o v,ak C0 B w ρ L b o v->ak C0 B w ρ L' b o v:=λb o v ⟨e1,e2,e3⟩=>⟨e1,λk c h=>hdead k (e2 k c h),e3⟩;have hone:∀x' y v,x3 S x' y->aU ρ (ak C0 B w ρ L) y v->aU ρ (ak C0 B w ρ L') x' v:=by
  rintro x' y v (rfl|rfl|⟨s,cells,n,hS,rfl,rfl⟩) hv
  .unfold aU;trivial
  .exact aU.mono (λ_ _ h=>h) hmono _ v hv
  .obtain⟨ty,esz,hs,hz⟩:=hs s cells hS;unfold aU at hv|-;obtain⟨q,c,hρ,hcase⟩:=hv;obtain⟨q2,c2,hρ2,hob⟩:=s1.ob s _ hs;rw[hρ]at hρ2;cases hρ2;unfold a8;rcases hcase with⟨h1,h4,h5,_⟩|⟨b,o',c',h1,h4,h5,h6,h7⟩
   .subst h5;rcases hob with⟨_,⟨_,h8,_⟩|⟨h8,_⟩⟩|⟨b,arr,h8,_⟩
    .exact⟨none,0,h4,az _,λ_=>⟨rfl,by simp_all⟩,λad e=>by cases e⟩
    .grind
    grind
   .obtain⟨rfl,rfl⟩:=h7 rfl;rcases hob with⟨h8,_⟩|⟨b2,arr,h8,h9,h10⟩
    .grind
    .rw[h1]at h8;cases h8;refine⟨_,c',h4,h5,(λe=>by cases e),λad e=> ?_⟩;cases e;refine⟨λ_=>rfl,cj.of _ _ _ λi x hi=> ?_⟩;obtain⟨u,k1,k2,k3⟩:=h10.cells i (.p x) (by grind);unfold aU at k3;refine⟨u,⟨by rw[gc,h10.cell];exact k1,λk c2 hk=> ?_,.inl h9⟩,k2,a8.mono hmono x u k3⟩;cases h:L' k with
     |none=>rfl
     |some ob=>
      obtain⟨hne,h2⟩:=hL k ob h;obtain⟨ob0,h2,_⟩:=h2.get;have:=s1.inj k s ob0 _ b c2 c' h2 hs hk (by rw[hρ,h1]);subst this;rw[hS]at hne;cases hne
 refine⟨⟨ρ,⟨?_,?_,?_⟩,s2,?_⟩,s4,s5,by rw[s6,hl],s7⟩
 .intro k ob hk;obtain⟨hne,h2|⟨ob0,h2,g1,g2,g3,g4,g5⟩⟩:=hL k ob hk
  .obtain⟨q,c,hρ,hcase⟩:=s1.ob k ob h2;refine⟨q,c,hρ,?_⟩;rcases hcase with⟨g1,g2⟩|⟨b,arr,g1,g2,g3⟩
   .refine .inl ⟨g1,?_⟩;rcases g2 with g2|⟨g2,g3⟩
    .exact .inl g2
    .exact .inr ⟨g2,g3.mono (λ_ _ h=>h) hmono λ_ _ _ _=>rfl⟩
   .refine .inr ⟨b,arr,g1,g2,⟨g3.blk,g3.box,g3.row,λi x hi=> ?_⟩⟩;obtain⟨v,m1,m2,m3⟩:=g3.cells i x hi;exact⟨v,m1,m2,aU.mono (λ_ _ h=>h) hmono _ v m3⟩
  .obtain⟨q,c,hρ,hcase⟩:=s1.ob k ob0 h2;refine⟨q,c,hρ,?_⟩;rcases hcase with⟨k1,⟨k2,k3,k4⟩|⟨k2,k3⟩⟩|⟨b,arr,k1,k2,k3⟩
   .grind
   .refine .inl ⟨k1,.inr ⟨by omega,?_⟩⟩;rcases k3 with⟨k3,_⟩|⟨k3,k4,es,clock,k5,k6,k7,k8⟩|⟨k3,k4,vs,k5,k8⟩
    .exact absurd ⟨by omega,by rw[g1,k3]⟩ g3
    .refine .inr (.inl ⟨g1.trans k3,k4,es,clock,k5,k6,k7,?_⟩);have hlen:=k8.length;refine ao.of _ _ (by rw[g4];exact hlen) λi x hi=> ?_;obtain⟨y,y1,y2⟩:=g5 i x hi;obtain⟨v,h1,h2⟩:=k8.get _ _ i y y1;exact⟨v,h1,hone x y v y2 h2⟩
    .refine .inr (.inr ⟨g1.trans k3,k4,vs,k5,?_⟩);have hlen:=k8.length;refine ao.of _ _ (by rw[g4];exact hlen) λi x hi=> ?_;obtain⟨y,y1,y2⟩:=g5 i x hi;obtain⟨v,h1,h2⟩:=k8.get _ _ i y y1;exact⟨v,h1,hone x y v y2 h2⟩
   .refine .inr ⟨b,arr,k1,k2,⟨by rw[g1];exact k3.blk,λh=>by rw[g4];exact k3.box (by omega),λh=>by rw[g4,g2];exact k3.row (by omega),λi x hi=> ?_⟩⟩;obtain⟨y,y1,y2⟩:=g5 i x hi;obtain⟨v,m1,m2,m3⟩:=k3.cells i y y1;grind
 .intro k k' o o' b c c' h1 h2 h3 h4;obtain⟨o1,e1,_⟩:=(hL k o h1).2.get;obtain⟨o2,e2,_⟩:=(hL k' o' h2).2.get;exact s1.inj k k' o1 o2 b c c' e1 e2 h3 h4
 .intro k k' o o' c c' h1 h2 h3 h4 h5 h6 h7;obtain⟨o1,e1,a1,a2⟩:=(hL k o h1).2.get;obtain⟨o2,e2,b1,b2⟩:=(hL k' o' h2).2.get;refine s1.mpi k k' o1 o2 c c' e1 e2 (by omega) (by omega) h5 h6 ?_;unfold mW at h7|-;grind
 .intro t;rcases jc t F.length with h|h
  .grind
  .rw[bq,eQ (by omega)];show aU _ _ .any _;unfold aU;trivial
def ze{F:List AV}{L:Sto}{N:Nat}{d:Option Nat}{l:List PV}:cZ (cJ F d (.tup (l.map .p))) L N (cJ F d (.p (.tup l))) L N:=by
 intro C0 B wI a w ⟨⟨ρ,s1,s2,s3⟩,s4,s5,s6,s7⟩;refine⟨⟨ρ,s1,s2,λt=> ?_⟩,s4,s5,by rw[s6,kj,kj],s7⟩;have:=s3 t;rw[nD]at this|-;by_cases e:d=some t/\t<F.length
 .rw[if_pos e]at this|-;obtain⟨vs,h1,h2⟩:=this;unfold aU a8;exact⟨vs,h1,ao.wA h2⟩
 .rw[if_neg e]at this|-;exact this
noncomputable section
def MTy(P:Program)(t:TypeId):Prop:=∃kt et,P.underlying t=some (.map kt et)/\MKey P kt 2/\∀w,(zeroValue et).run P w= .ok (.slice none 0 0) w
inductive MSp where
 |mk
 |rng (t:TypeId) (x:Operand)
 |nxt (x:Operand)
 |ent (x:Operand)
 |look (t:TypeId) (x i:Operand)
def pk(o:Oper):Option MSp:=match o.guard,o.op with
 |none,.makeMap _ none=>some .mk
 |none,.range t x=>some (.rng t x)
 |none,.next x false=>some (.nxt x)
 |none,.entry x=>some (.ent x)
 |none,.lookup t x i false=>some (.look t x i)
 |_,_=>none
def xN:List Oper->Option (List Oper×Oper×MSp×List Oper)
 |[] =>none
 |o::l=>(match pk o with
  |some m=>some ([],o,m,l)
  |none=>(match xN l with
   |some (pre,q,m,post)=>some (o::pre,q,m,post)
   |none=>none))
def Eb:∀{ops pre:List Oper} {o:Oper} {m:MSp} {post:List Oper},xN ops=some (pre,o,m,post)->ops=pre++o::post/\pk o=some m
 |[],_,_,_,_,h=>by cases h
 |x::l,pre,o,s,post,h=>by
  unfold xN at h;split at h
  .rename_i h1;cases h;exact⟨rfl,h1⟩
  .split at h
   .rename_i h1;cases h;obtain⟨e,h2⟩:=Eb h1;exact⟨by rw[e];rfl,h2⟩
   .cases h
def TF{o:Oper}{m:MSp}(h:pk o=some m):o.guard=none:=by unfold pk at h;split at h<;>first|assumption|cases h
def Wd{o:Oper}{m:MSp}(h:pk o=some m):match m with
  | .mk=>∃t,o.op= .makeMap t none
  | .rng t x=>o.op= .range t x
  | .nxt x=>o.op= .next x false
  | .ent x=>o.op= .entry x
  | .look t x i=>o.op= .lookup t x i false:=by
 unfold pk at h;split at h<;>cases h<;>first|assumption|exact⟨_,‹_›⟩
def ug(N x s:Nat)(v:SV):Bool:=match v with
 | .mp y=>(match ae y x with|true=>true|false=>gG N x s v)
 |v=>gG N x s v
def X1{N x s:Nat}{v:SV}(h:ug N x s v=true):gG N x s v=true\/v= .mp x:=by
 unfold ug at h;split at h
 .split at h
  .rename_i e;right;rw[bp e]
  .exact .inl h
 .exact .inl h
def kX(N x s:Nat)(F:Frm):Frm->List Nat
 |[] =>[]
 |(d,_)::r=>match ug N x s (F.at d)with
  |true=>kX N x s F r
  |false=>d::kX N x s F r
def AR{N x s t:Nat}{F:Frm}:∀{G:Frm},t∈G.map (·.1)->t∈kX N x s F G\/ug N x s (F.at t)=true
 |[],h=>by cases h
 |(d,v)::G,h=>by
  unfold kX;rw[cV]at h;cases hk:ug N x s (F.at d)with
  |true=>
   rcases bh.1 h with h|h
   .have h:t=d:=h;exact .inr (by subst h;exact hk)
   .exact AR h
  |false=>
   rcases bh.1 h with h|h
   .exact .inl (by rw[h];exact eG)
   .rcases AR (G:=G) h with h|h
    .exact .inl (dK _ h)
    .exact .inr h
def AS:∀{F:Frm} {t:Nat},t∉F.map (·.1)->F.at t= .undef
 |[],_,_=>rfl
 |(d,v)::F,t,h=>by
  rw[Frm.cd,if_neg (λe=>h (by rw[e];exact eG))];exact AS λh2=>h (dK _ h2)
def G2{N x s n:Nat}{F:Frm}:∀t,t<n->t∈kX N x s F F\/gG N x s (F.at t)=true\/F.at t= .mp x:=by
 intro t _;by_cases h:t∈F.map (·.1)
 .rcases AR (N:=N) (x:=x) (s:=s) (F:=F) h with h|h
  .exact .inl h
  .exact .inr (X1 h)
 .rw[AS h];exact .inr (.inl rfl)
def okL(N x s:Nat)(L:aJ):Bool:=cw (λq:Nat×Option SOb=>match ae q.1 x,L.at q.1 with
 |false,some ob=>ia N x s q.1 ob
 |_,_=>true) L
def Ic{L:aJ}{y:Nat}{ob:SOb}(h:L.at y=some ob):∃q∈L,q.1=y:=by
 induction L with
 |nil=>cases h
 |cons q L ih=>
  obtain⟨k,v⟩:=q;by_cases e:y=k
  .exact⟨_,eG,e.symm⟩
  .have h:(match ae y k with|true=>v|false=>aJ.at L y)=some ob:=h;rw[show ae y k=false from by cases hb:ae y k with|false=>rfl|true=>exact absurd (bp hb) e]at h;obtain⟨q,h1,h2⟩:=ih h;exact⟨q,dK _ h1,h2⟩
def JP{N x s:Nat}{L:aJ}(h:okL N x s L=true):∀y ob,L.at y=some ob->y=x\/ia N x s y ob=true:=by
 intro y ob hy;obtain⟨q,h1,rfl⟩:=Ic hy;have:=dH h q h1;rw[hy]at this;cases hb:ae q.1 x with
 |true=>exact .inl (bp hb)
 |false=>rw[hb]at this;exact .inr this
def Uw(c:Nat)(L:aJ):aJ.fn ((c,some (.mf []))::L)=aJ.fn ((c,some (.mp []))::L):=by
 have hat:∀(o:SOb) y,aJ.at ((c,some o)::L) y=if y=c then some o else L.at y:=by
  intro o y;show(match ae y c with|true=>_|false=>_)=_;cases h1:ae y c with
  |true=>rw[if_pos (bp h1)]
  |false=>rw[if_neg (f9 h1)]
 funext t
 show Sg.a _ t=Sg.a _ t;rcases gR t with⟨y,rfl⟩|⟨y,b,rfl⟩|hno
 .rw[Sg.bW,Sg.bW,hat,hat];split<;>rfl
 .rw[Sg.co,Sg.co,hat,hat];split<;>rfl
 .rw[Sg.fp _ hno,Sg.fp _ hno]
def X6{P:Program}{o:Oper}{t:TypeId}{n c:Nat}{F:Frm}{L:aJ}{K:List AV->Sto->Nat->Prop}(ho:o.op= .makeMap t none)(hc:frs L.at c=true)(hK:K ((dv n F o.dst (.mp c)).av n) (aJ.fn ((c,some (.mf []))::L)) (c+1)):ce P o (F.av n) L.fn c K:=by
 obtain⟨h1,h2⟩:=gj hc;refine ce.ng (EH (E:=dC (F.av n)) (σ:=L.fn) (n:=c) ho) ?_;have e1:cJ (F.av n) o.dst (.mp (sit c 0))=(dv n F o.dst (.mp c)).av n:=by rw[<-iy,<-h1];rfl
 have e2:aX L.fn [(sit c 0,some ⟨1,0,[]⟩)] =aJ.fn ((c,some (.mf []))::L):=by have h:=(bI.flat (σ:=L.at) (rd:=[]) (W:=[(c,some (.mp []))]) λq hq=>by rw[bM.1 hq,h2];exact⟨rfl,rfl⟩).2.2;rw[aJ.pd]at h;rw[Uw,<-h1];exact h
 rw[e1,e2];exact hK
open Classical in
def nv(x:Nat)(M:MF):Nat->Option (List PV):=λt=>if inn (nm t) (sub t)=t/\nm t=x then(match sub t with|0=>none|j+1=>(M[j]?).map λq=>LT.enc .I q.2)else none
def VF{x:Nat}{M:MF}(j:Nat):nv x M (inn x (j+1))=(M[j]?).map λq=>LT.enc .I q.2:=by unfold nv;rw[l9,l5,if_pos ⟨rfl,rfl⟩]
def T2{x y:Nat}{M:MF}:nv x M (aD y)=none:=by unfold nv aD;rw[l9,l5];split<;>rfl
def FR{x t:Nat}{M:MF}{cells:List PV}(h:nv x M t=some cells):∃j q,t=inn x (j+1)/\M[j]? =some q/\cells=LT.enc .I q.2:=by
 unfold nv at h;split at h
 .rename_i e;obtain⟨e1,e2⟩:=e;split at h
  .cases h
  .rename_i j hj;cases hm:M[j]? with
   |none=>rw[hm]at h;cases h
   |some q=>
    rw[hm]at h;cases h;exact⟨j,q,by rw[<-e1,e2,hj],hm,rfl⟩
 .cases h
def Hw{S:Nat->Option (List PV)}{f:Nat->Nat}:∀(M:MF) (i:Nat),(∀j q,M[j]? =some q->S (f (i+j))=some (LT.enc .I q.2))->(cB (itK M)).length=(cB (mfK f i M)).length/\
  ∀(k:Nat) x,(cB (itK M))[k]? =some x->∃y,(cB (mfK f i M))[k]? =some y/\x3 S x y
 |[],_,_=>⟨rfl,λk x h=>by cases k<;>cases h⟩
 |q::M,i,hS=>by
  obtain⟨h1,h2⟩:=Hw (S:=S) (f:=f) M (i+1) λj q' hq=>by have:=hS (j+1) q' (by simpa using hq);rwa[show i+(j+1)=i+1+j by omega]at this
  have e1:cB (itK (q::M))= .p (.agg (eu (itE q).1)):: .p (itE q).2::cB (itK M):=rfl;have e2:cB (mfK f i (q::M))= .p (.agg (eu (itE q).1)):: .own (f i) 0 q.2.length::cB (mfK f (i+1) M):=rfl;rw[e1,e2];refine⟨by simp[h1],λk x h=> ?_⟩;match k,h with
  |0,h=>cases h;exact⟨_,rfl,.inr (.inl rfl)⟩
  |1,h=>
   cases h;exact⟨_,rfl,.inr (.inr ⟨f i,_,_,hS 0 q rfl,rfl,rfl⟩)⟩
  |k+2,h=>exact h2 k x h
def Ux{n N x:Nat}{F:Frm}{L:aJ}{M:MF}(hM:L.at x=some (.mf M)):∃σ:Sto,cZ (F.av n) L.fn N (F.av n) σ N/\σ (aD x)=some ⟨1,0,cB (itK M)⟩/\(∀j,σ (inn x (j+1))=none)/\∀t,t≠aD x->(∀j,t≠inn x (j+1))->σ t=L.fn t:=by
 have hLx:L.fn (aD x)=some ⟨1,0,cB (mfK (λi=>inn x (i+1)) 0 M)⟩:=by show Sg.a L.at (aD x)=_;rw[Sg.bW,hM];rfl
 have hLi:∀j,L.fn (inn x (j+1))=(M[j]?).map λq=>⟨3,1,(LT.enc .I q.2).map .p⟩:=by intro j;show Sg.a L.at (inn x (j+1))=_;rw[Sg.co,hM];rfl
 have hni:∀j,aD x≠inn x (j+1):=λj e=>by have:=(cI e).2;omega
 obtain⟨σ,s1,s2,s3⟩:∃σ:Sto,σ (aD x)=some ⟨1,0,cB (itK M)⟩/\(∀j,σ (inn x (j+1))=none)/\∀t,t≠aD x->(∀j,t≠inn x (j+1))->σ t=L.fn t:=by
  classical
  refine⟨λt=>if t=aD x then some ⟨1,0,cB (itK M)⟩else if∃j,t=inn x (j+1)then none else L.fn t,if_pos rfl,λj=> ?_,λt h1 h2=> ?_⟩
  .show(if _ then _ else _)=_;rw[if_neg (λe=>hni j e.symm),if_pos ⟨j,rfl⟩]
  .show(if _ then _ else _)=_;rw[if_neg h1,if_neg (λ⟨j,e⟩=>h2 j e)]
 refine⟨σ,?_,s1,s2,s3⟩;refine Dt (nv x M) (λs cells hs=> ?_) rfl (λt _=> .inr (.inl rfl)) λk ob hk=> ?_
 .obtain⟨j,q,rfl,hq,rfl⟩:=FR hs;exact⟨3,1,by rw[hLi,hq];rfl,by decide⟩
 .by_cases h1:k=aD x
  .subst h1;rw[s1]at hk;cases hk;refine⟨T2,.inr ⟨_,hLx,rfl,rfl,λh=> ?_,?_⟩⟩
   .cases h.2
   .exact Hw (f:=λi=>inn x (i+1)) M 0 λj q hq=>by rw[gc,VF,hq];rfl
  .by_cases h2:∃j,k=inn x (j+1)
   .obtain⟨j,rfl⟩:=h2;rw[s2]at hk;cases hk
   .have h2:∀j,k≠inn x (j+1):=λj e=>h2 ⟨j,e⟩;rw[s3 k h1 h2]at hk;refine⟨?_,.inl hk⟩;cases hf:nv x M k with
    |none=>rfl
    |some cells=>obtain⟨j,q,e,_⟩:=FR hf;exact absurd e (h2 j)
def YJ{n N0 N x s:Nat}{F F1:Frm}{L:aJ}{σ:Sto}{M:MF}{d:Option Nat}
  (hx:σ (aD x)=some (itC (aD x) (aD s) .any (itK M))) (hot:∀t,t≠aD x->(∀j,t≠inn x (j+1))->σ t=L.fn t) (hxs:x≠s) (hxN:ncl x<N) (hsn:L.at s=none)
  (hF:∀t,t<n->gG N x s (F.at t)=true\/F.at t= .mp x) (hL:∀y ob,L.at y=some ob->y=x\/ia N x s y ob=true) (hF1:F1=dv n F d (.ptef x .I 0 0 0)):
  cZ (cJ (F.av n) d (.ptr (aD s) 0)) σ N0 (F1.av n) (aJ.fn ((x,some (.it none M))::L)) N:=by
 subst hF1;have hpi:eo N x 0 s (inn x 1)=some (some (aD s)):=by unfold eo;rw[if_pos (by rw[cP];exact hxN),if_pos rfl]
 refine tH (eo N x 0 s) ?_ ?_ (by rw[Frm.eH,kj,Frm.eH]) ?_ ?_
 .intro t y ht;unfold eo at ht;grind
 .intro t t' o ht ht';unfold eo at ht ht';grind
 .intro t ht;rw[kj,Frm.eH]at ht;rw[<-iy,nD,nD];by_cases e:d=some t/\t<(F.av n).length
  .rw[if_pos e,if_pos e];exact⟨_,hpi,by show AV.ptr _ _=_;simp⟩
  .rw[if_neg e,if_neg e,Frm.fi ht];rcases hF t ht with h|h
   .exact ow h
   .rw[h];exact⟨_,kJ hxN hxs,rfl⟩
 .intro t ob' ht;have hat:∀y,aJ.at ((x,some (.it none M))::L) y=if y=x then some (.it none M)else L.at y:=by
   intro y;show(match ae y x with|true=>_|false=>_)=_;cases h1:ae y x with
   |true=>rw[if_pos (bp h1)]
   |false=>rw[if_neg (f9 h1)]
  rcases gR t with⟨y,rfl⟩|⟨y,b,rfl⟩|hno
  .change Sg.a _ (aD y)=some ob' at ht;rw[Sg.bW,hat y]at ht;by_cases hyx:y=x
   .subst hyx;rw[if_pos rfl]at ht;have ht:=gA ht;rw[kJ hxN hxs];refine⟨_,hx,?_⟩;rw[<-ht];refine⟨rfl,rfl,?_⟩;refine⟨_,_,rfl,⟨_,hpi,rfl⟩,_,_,rfl,by trivial,_,_,rfl,⟨_,kJ hxN hxs,rfl⟩,?_⟩;show dM _ (cB (itK M)) (cB (itK M));rw[wD];exact fX _ _
   .rw[if_neg hyx]at ht;cases ho:L.at y with
    |none=>rw[ho]at ht;cases ht
    |some ob=>
     rw[ho]at ht;have ht:=gA ht;have hk':=(hL y ob ho).resolve_left hyx;have hys:y≠s:=λe=>by rw[e,hsn]at ho;cases ho
     have hz:mK N x s y=true:=by
      unfold ia at hk';split at hk'
      .assumption
      .cases hk'
     rw[kJ (ko hz).1 hys];refine⟨ob.ob y,?_,by rw[<-ht];exact Em hk'⟩;rw[hot _ (λe=>hyx (eL e)) λj e=>by have:=(cI e).2;omega];show Sg.a L.at (aD y)=_;rw[Sg.bW,ho];rfl
  .change Sg.a _ (inn y (b+1))=some ob' at ht;rw[Sg.co,hat y]at ht;by_cases hyx:y=x
   .subst hyx;rw[if_pos rfl]at ht;cases ht
   .rw[if_neg hyx]at ht;cases ho:L.at y with
    |none=>rw[ho]at ht;cases ht
    |some ob=>
     rw[ho]at ht;have hk':=(hL y ob ho).resolve_left hyx;have hz:mK N x s y=true:=by
      unfold ia at hk';split at hk'
      .assumption
      .cases hk'
     rw[kk (ko hz).1 λe=>absurd e hyx];refine⟨ob',?_,jk (o':=ob) ht⟩;rw[hot _ (λe=>by have:=(cI e).2;omega) λj e=>hyx (cI e).1];show Sg.a L.at (inn y (b+1))=_;rw[Sg.co,ho];exact ht
  .change Sg.a _ t=some ob' at ht;rw[Sg.fp _ hno]at ht;cases ht
def ce.pre{P:Program}{o:Oper}{F F1:List AV}{L L1:Sto}{N:Nat}{K:List AV->Sto->Nat->Prop}(hw:cZ F L N F1 L1 N)(h:ce P o F1 L1 N K):ce P o F L N K:=λC0 B wI a w hS=>h C0 B wI a w (hw C0 B wI a w hS)
def WJ{P:Program}{o:Oper}{t:TypeId}{x:Operand}{n c s:Nat}{F:Frm}{L:aJ}{M:MF}{K:List AV->Sto->Nat->Prop}(ho:o.op= .range t x)(hP:MTy P t)(hx:cA n F x= .mp s)(hM:L.at s=some (.mf M))(hc:frs L.at c=true)(hs:ncl s<c+1)
  (hF:∀t,t<n->gG (c+1) s c (F.at t)=true\/F.at t= .mp s) (hL:okL (c+1) s c L=true) (hK:K ((dv n F o.dst (.ptef s .I 0 0 0)).av n) (aJ.fn ((s,some (.it none M))::L)) (c+1)):ce P o (F.av n) L.fn c K:=by
 obtain⟨kt,et,g1,g2,g3⟩:=hP;obtain⟨h1,h2⟩:=gj hc;have hsc:s≠c:=λe=>by rw[e,h2]at hM;cases hM
 obtain⟨σ,w1,w2,w3,w4⟩:=Ux (n:=n) (N:=c) (F:=F) hM;refine ce.pre w1 (ce.weak (ce.ng (Um (E:=dC (F.av n)) (σ:=σ) (n:=c) (s:=aD s) (ks:=itK M) ho g1 (by rw[<-eT,hx];rfl) w2) ⟨_,_,_,?_,hK⟩));rw[<-h1];refine YJ (s:=c) ?_ ?_ hsc hs h2 hF (JP hL) rfl
 .unfold aX;simp[cL]
 .intro t e1 e2;rw[<-w4 t e1 e2];unfold aX;simp[cL,beq_eq_false_iff_ne.2 e1]
def MY{x:Nat}{L:aJ}{M0 M:MF}{c0 c:Option ((Nat×Nat)×List Int)}(hM:L.at x=some (.it c0 M0)):aX L.fn [(aD x,some (SOb.ob x (.it c M)))] =aJ.fn ((x,some (.it c M))::L):=by have h:=(bI.flat (σ:=L.at) (rd:=[]) (W:=[(x,some (.it c M))]) λq hq=>by rw[bM.1 hq,hM];exact⟨rfl,rfl⟩).2.2;rw[aJ.pd]at h;exact h
def YK{M:MF}{i:Nat}{p:List Int×AV}(h:(itK M)[i]? =some p):∃q,M[i]? =some q/\p=((itE q).1,.p (itE q).2):=by
 unfold itK at h;rw[dw]at h;cases hm:M[i]? with
 |none=>rw[hm]at h;cases h
 |some q=>rw[hm]at h;cases h;exact⟨q,rfl,rfl⟩
def FN:∀(M:MF) (i:Nat),(itK M).eraseIdx i=itK (M.eraseIdx i)
 |[],_=>rfl
 |_::_,0=>rfl
 |q::M,i+1=>congrArg (((itE q).1,AV.p (itE q).2):: ·) (FN M i)
def ce.mono'{P:Program}{o:Oper}{F:List AV}{L:Sto}{N:Nat}{K K':List AV->Sto->Nat->Prop}(h:ce P o F L N K)(hK:∀F L N,K F L N->K' F L N):ce P o F L N K':=by intro C0 B wI a w hS;refine nA (h C0 B wI a w hS) ?_;rintro v w' ⟨F1,L1,N1,h1,h2⟩;exact⟨F1,L1,N1,hK _ _ _ h1,h2⟩
def WV{P:Program}{o:Oper}{x:Operand}{n c s:Nat}{F:Frm}{L:aJ}{M:MF}{cur:Option ((Nat×Nat)×List Int)}{K:List AV->Sto->Nat->Prop}(ho:o.op= .next x false)(hx:cA n F x= .ptef s .I 0 0 0)(hM:L.at s=some (.it cur M))
  (h0:M=[]->K ((dv n F o.dst (.tup [.lit false])).av n) L.fn c)
  (h1:∀(i:Nat) (q:(Nat×Nat)×List Int),M[i]? =some q->K ((dv n F o.dst (.tup [.lit true,.agg [.int .i64 q.1.1,.int .i64 q.1.2],.lst .I q.2])).av n) (aJ.fn ((s,some (.it (some q) (M.eraseIdx i)))::L)) c):ce P o (F.av n) L.fn c K:=by
 refine ce.weak (Uv (s:=aD s) (p:=inn s 1) (cur:=itQ cur) (ks:=itK M) ho (by rw[<-eT,hx];rfl) (by show Sg.a L.at (aD s)=_;rw[Sg.bW,hM];rfl) (λh=> ?_) λi p hi=> ?_)
 .refine⟨_,_,_,ze (l:=[.bool false]),?_⟩;have:=h0 (by unfold itK at h;simpa using h);rw[<-iy]at this;exact this
 .obtain⟨q,hq,rfl⟩:=YK hi;have:=h1 i q hq;rw[<-iy,<-MY hM]at this;refine⟨_,_,_,ze (l:=[.bool true,.agg (eu (itE q).1),(itE q).2]),?_⟩;rw[FN];exact this
def Wz{P:Program}{o:Oper}{x:Operand}{n c s:Nat}{F:Frm}{L:aJ}{M:MF}{q:(Nat×Nat)×List Int}{K:List AV->Sto->Nat->Prop}(ho:o.op= .entry x)(hx:cA n F x= .ptef s .I 0 0 0)(hM:L.at s=some (.it (some q) M))
  (hK:K ((dv n F o.dst (.tup [.agg [.int .i64 q.1.1,.int .i64 q.1.2],.lst .I q.2])).av n) L.fn (c+1)):ce P o (F.av n) L.fn c K:=by
 refine ce.weak (ce.ng (VK (E:=dC (F.av n)) (σ:=L.fn) (n:=c) (s:=aD s) (p:=inn s 1) (a:= .p (.agg (eu (itE q).1))) (b:= .p (itE q).2) (ks:=itK M) ho (by rw[<-eT,hx];rfl) (by show Sg.a L.at (aD s)=_;rw[Sg.bW,hM];rfl)) ⟨_,_,_,ze (l:=[.agg (eu (itE q).1),(itE q).2]),?_⟩)
 rw[<-iy]at hK;exact hK
def tG{F:Frm}{hav:List Nat}(h:F.ok):Frm.ok ((hav.map λd=>(d,SV.any))++F):=by
 intro t;rcases nZ F t hav with e|⟨_,e⟩
 .rw[e];trivial
 .rw[e];exact h t
end
noncomputable section
def YA{P:Program}{oa:Oper}{n N m:Nat}{F:Frm}{L:aJ}{xa ya:Operand}{t t':TypeId}{v:Int}{K:List AV->Sto->Nat->Prop}
  (hoa:oa.op= .call {callee:= .builtin .append,args:= #[xa,ya],argTypes:= #[t,t']}) (ht':(bu P t').isSome=true) (he:bu P t=some 3) (hta:jy P 3=true) (hsz:aj P 3=1)
  (hx:cA n F xa= .nil) (hy:cA n F ya= .ownx m 1) (hm:L.at m=some (.arr 3 1 [.int .i64 v]))
  (hK:K (cJ (F.av n) oa.dst (.own (sit N 0) 0 1)) (aX L.fn [(sit N 0,some ⟨3,1,(LT.enc .I [v]).map .p⟩)]) (N+1)):ce P oa (F.av n) L.fn N K:=by
 have h:=td (P:=P) (E:=dC (F.av n)) (σ:=L.fn) (n:=N) (K:=λr R W=>r= .own (sit N 0) 0 1/\W=[(sit N 0,some ⟨3,1,(LT.enc .I [v]).map .p⟩)]) ht' hoa ?_
 .obtain⟨r,R,W,h1,rfl,rfl⟩:=h;exact ce.ng h1 hK
 .refine⟨3,he,hta,?_⟩;rw[hsz,<-eT,<-eT,hx,hy];refine⟨⟨3,1,(LT.enc .I [v]).map .p⟩,(LT.enc .I [v]).map .p,?_,rfl,rfl,by omega,rfl,rfl⟩;show Sg.a L.at (aD m)=_;rw[Sg.bW,hm];rfl
def UJ{g:Sto}{s t:Nat}{o:Ob}(h:g s=none)(hne:t≠s):aX g [(t,some o)] =aX g [(s,none),(t,some o)] :=by
 funext u
 unfold aX;by_cases e:u=s
 .subst e;simp[cL,beq_eq_false_iff_ne.2 (Ne.symm hne),h]
 .simp[cL,beq_eq_false_iff_ne.2 e]
def rL(x:SV):Option ((Nat×Nat)×Int×Int):=match x with
 | .agg [.int .i64 a,.int .i64 b] =>some ((a.toNat,b.toNat),a,b)
 |_=>none
def GG{x:SV}{k:Nat×Nat}{a b:Int}(h:rL x=some (k,a,b))(ha:0<=a/\0<=b):x.av= .p (.agg (eu (dD k))):=by
 unfold rL at h;split at h
 case h_2=>cases h
 cases h;obtain⟨m,rfl⟩:=yb ha.1;obtain⟨n,rfl⟩:=yb ha.2;rfl
structure PairD where
 x:Nat
 M:MF
 a:Option (Nat×Nat)
 v:Int
 key:Nat×Nat
 len:Nat
 ka:Int
 kb:Int
def CG(X:Cx)(mt n:Nat)(F:Frm)(L:aJ)(c:Nat)(oa om:Oper):Option (PairD×Frm):=match oa.guard,oa.op,oa.dst,om.guard,om.op,om.dst with
 |none,.call {callee:= .builtin .append,args:=⟨[xa,ya]⟩,argTypes:=⟨[ta,tb]⟩},some d,none,.mapUpdate t xm im ym,none=>
  (match(bu X.P tb).isSome,bu X.P ta,jy X.P 3,aj X.P 3,ae t mt with
  |true,some 3,true,1,true=>(match frs L.at c,dG d n,cA n F ya with
   |true,true,.ownx m 1=>(match L.at m with
    |some (.arr 3 1 [.int .i64 v])=>(match cA n F xa with
     | .ownf x .I a k=>(match L.at x,cA n ((d,.own c .I (k+1))::F) xm,rL (cA n ((d,.own c .I (k+1))::F) im),cA n ((d,.own c .I (k+1))::F) ym with
       |some (.mf M),.mp y,some (key,ka,kb),.own c' .I e=>(match ae x y,ae c c',dG (ncl x) (c+1),okL (c+1) x c L with
        |true,true,true,true=>some (⟨x,M,some (a,k),v,key,e,ka,kb⟩,(d,.own c .I (k+1))::F)
        |_,_,_,_=>none)
       |_,_,_,_=>none)
     | .nil=>(match cA n ((d,.own c .I 1)::F) xm,rL (cA n ((d,.own c .I 1)::F) im),cA n ((d,.own c .I 1)::F) ym with
       | .mp x,some (key,ka,kb),.own c' .I e=>(match L.at x with
         |some (.mf M)=>(match ae c c',dG (ncl x) (c+1),okL (c+1) x c L with
          |true,true,true=>some (⟨x,M,none,v,key,e,ka,kb⟩,(d,.own c .I 1)::F)
          |_,_,_=>none)
         |_=>none)
       |_,_,_=>none)
     |_=>none)
    |_=>none)
   |_,_,_=>none)
  |_,_,_,_,_=>none)
 |_,_,_,_,_,_=>none
def PairD.needs(D:PairD):List Prop:=match D.a with
 |some (a,k)=>[0<=D.ka/\0<=D.kb,D.len=k+1,a<D.M.length,(D.M.getD a ((0,0),[])).1=D.key,k=(D.M.getD a ((0,0),[])).2.length,k+1<=1000000,(D.M.map (·.1)).Nodup]
 |none=>[0<=D.ka/\0<=D.kb,D.len=1,∀q∈D.M,q.1≠D.key,(D.M.map (·.1)).Nodup]
def BS(X:Cx)(mt n:Nat)(dl:List Nat)(F:Frm)(L:aJ)(c:Nat)(oa om:Oper)(G:Frm->aJ->Fm):Fm:=match CG X mt n F L c oa om with
 |some (D,F3)=>(match cw (mem dl) (kX (c+1) D.x c F3 F3)with
  |true=>needs D.needs (G (((kX (c+1) D.x c F3 F3).map λd=>(d,SV.any))++F3) ((D.x,some (.mf (eW D.M D.key D.v)))::L))
  |false=> .stuck 997010)
 |none=> .stuck 997011
def Tn{X:Cx}{mt n:Nat}{F F3:Frm}{L:aJ}{c:Nat}{oa om:Oper}{D:PairD}(h:CG X mt n F L c oa om=some (D,F3)):
  ∃xa ya ta tb d xm im ym m k,oa.guard=none/\oa.op= .call {callee:= .builtin .append,args:= #[xa,ya],argTypes:= #[ta,tb]}/\oa.dst=some d/\d<n/\om.guard=none/\om.op= .mapUpdate mt xm im ym/\om.dst=none/\
   (bu X.P tb).isSome=true/\bu X.P ta=some 3/\jy X.P 3=true/\aj X.P 3=1/\frs L.at c=true/\cA n F ya= .ownx m 1/\L.at m=some (.arr 3 1 [.int .i64 D.v])/\F3=(d,.own c .I (k+1))::F/\
   cA n F3 xm= .mp D.x/\rL (cA n F3 im)=some (D.key,D.ka,D.kb)/\cA n F3 ym= .own c .I D.len/\L.at D.x=some (.mf D.M)/\ncl D.x<c+1/\okL (c+1) D.x c L=true/\
   ((∃a,D.a=some (a,k)/\cA n F xa= .ownf D.x .I a k)\/(D.a=none/\k=0/\cA n F xa= .nil)):=by
 unfold CG at h;split at h
 case h_2=>cases h
 rename_i xa ya ta tb d t xm im ym g1 g2 g3 g4 g5 g6;split at h
 case h_2=>cases h
 rename_i t1 t2 t3 t4 t5;have t5:=bp t5;subst t5;split at h
 case h_2=>cases h
 rename_i m u1 u2 u3;split at h
 case h_2=>cases h
 rename_i v u4;split at h
 .rename_i x a k u5;split at h
  case h_2=>cases h
  rename_i M y key ka kb c' e w1 w2 w3 w4;split at h
  case h_2=>cases h
  rename_i b1 b2 b3 b4;cases h;have b1:=bp b1;have b2:=bp b2;subst b1;subst b2;exact⟨xa,ya,ta,tb,d,xm,im,ym,m,k,g1,g2,g3,(dc _ _).1 u2,g4,g5,g6,t1,t2,t3,t4,u1,u3,u4,rfl,w2,w3,w4,w1,(dc _ _).1 b3,b4,.inl ⟨a,rfl,u5⟩⟩
 .rename_i u5;split at h
  case h_2=>cases h
  rename_i x key ka kb c' e w2 w3 w4;split at h
  case h_2=>cases h
  rename_i M w1;split at h
  case h_2=>cases h
  rename_i b2 b3 b4;cases h;have b2:=bp b2;subst b2;exact⟨xa,ya,ta,tb,d,xm,im,ym,m,0,g1,g2,g3,(dc _ _).1 u2,g4,g5,g6,t1,t2,t3,t4,u1,u3,u4,rfl,w2,w3,w4,w1,(dc _ _).1 b3,b4,.inr ⟨rfl,rfl,u5⟩⟩
 .cases h
def Uq{X:Cx}{mt n:Nat}{dl:List Nat}{F:Frm}{L:aJ}{c:Nat}{oa om:Oper}{G:Frm->aJ->Fm}(hmt:MTy X.P mt)(hF:F.ok)(hdl:∀d,oa.dst=some d->d∈dl)(h:(BS X mt n dl F L c oa om G).holds):
  oa.guard=none/\om.guard=none/\ce X.P oa (F.av n) L.fn c λFA LA _=>∀N3,ce X.P om FA LA N3 λFA LA N'=>N'=c+1/\eN n (λd=>d∈dl) F L FA LA λF' L'=>(G F' L').holds:=by
 unfold BS at h;split at h
 case h_2=>exact h.elim
 rename_i D F3 hD;split at h
 case h_2=>exact h.elim
 rename_i hbad;have hbad:∀d∈kX (c+1) D.x c F3 F3,d∈dl:=λd hd=>(mem_iff d dl).1 (dH hbad d hd);obtain⟨hn,hG⟩:=jj h;obtain⟨xa,ya,ta,tb,d,xm,im,ym,m,k,g1,g2,g3,g3',g4,g5,g6,t1,t2,t3,t4,u1,u3,u4,rfl,w2,w3,w4,w1,b3,b4,hcase⟩:=Tn hD;obtain⟨f1,f2⟩:=gj u1;obtain⟨kt,et,q1,q2,q3⟩:=hmt;have hxs:D.x≠c:=λe=>by rw[e,f2]at w1;cases w1
 have hF3:Frm.ok ((d,.own c .I (k+1))::F):=by
  intro t;rw[Frm.cd];split
  .trivial
  .exact hF t
 have hav:cJ (F.av n) oa.dst (.own (sit c 0) 0 (k+1))=Frm.av n ((d,.own c .I (k+1))::F):=by rw[g3,<-Frm.pX g3',<-f1];rfl
 have fin:(0<=D.ka/\0<=D.kb)->∀(a:Nat) (l:List Int),l.length=k+1->fx (mfK (λi=>inn D.x (i+1)) 0 D.M) (dD D.key) (.own (aD c) 0 l.length)=mfK (λj=>if j=a then aD c else inn D.x (j+1)) 0 (eW D.M D.key D.v)->
   (eW D.M D.key D.v)[a]? =some (D.key,l)->(∀j,j≠a->(eW D.M D.key D.v)[j]? =D.M[j]?)->(D.M.map (·.1)).Nodup->D.len=l.length->
   ∀N3,ce X.P om (Frm.av n ((d,.own c .I (k+1))::F)) (aX L.fn [(inn D.x (a+1),none),(aD c,some ⟨3,1,(LT.enc .I l).map .p⟩)]) N3 λFA LA N'=>N'=c+1/\eN n (λd=>d∈dl) F L FA LA λF' L'=>(G F' L').holds:=by
  intro h0 a l hl h1 h2 h3 h4 h5 N3;refine ZP (N:=c+1) (s:=c) (hav:=kX (c+1) D.x c ((d,.own c .I (k+1))::F) ((d,.own c .I (k+1))::F)) g5 g6 q1 q2 w2 (GG w3 h0) (by rw[w4,h5]) w1 h4 h1 h2 h3 hxs b3 f2 G2 (JP b4) ?_;refine⟨rfl,_,_,rfl,rfl,tG hF3,⟨(kX (c+1) D.x c ((d,.own c .I (k+1))::F) ((d,.own c .I (k+1))::F)).map (λd=>(d,SV.any))++[(d,.own c .I (k+1))],by simp,λq hq=> ?_⟩,⟨[_],rfl⟩,hG⟩;rcases eK.1 hq with hq|hq
  .obtain⟨d',hd',rfl⟩:=cF.1 hq;exact hbad d' hd'
  .rw[bM.1 hq];exact hdl d g3
 refine⟨g1,g4,?_⟩;rcases hcase with⟨a,ha,hx⟩|⟨ha,rfl,hx⟩
 .unfold PairD.needs at hn;rw[ha]at hn;have nz:0<=D.ka/\0<=D.kb:=hn _ (by simp);have n0:D.len=k+1:=hn _ (by simp);have n1:a<D.M.length:=hn _ (by simp);have n2:(D.M.getD a ((0,0),[])).1=D.key:=hn _ (by simp);have n3:k=(D.M.getD a ((0,0),[])).2.length:=hn _ (by simp);have n4:k+1<=1000000:=hn _ (by simp);have n5:(D.M.map (·.1)).Nodup:=hn _ (by simp);have hq:D.M[a]? =some D.M[a] :=dA n1;have e1:D.M.getD a ((0,0),[])=D.M[a] :=cS n1;rw[e1]at n2 n3;generalize D.M[a] =q at hq n2 n3;have hadd:eW D.M D.key D.v=D.M.set a (D.key,q.2++[D.v]):=by rw[<-n2];exact If n5 hq
  have hlen:(q.2++[D.v]).length=k+1:=by rw[dh,n3];rfl
  refine ZQ (q:=q) (M:=D.M) g2 t1 t2 t3 t4 hx u3 w1 hq n3 u4 (by omega) ?_;rw[hlen,hav,<-f1];refine fin nz a (q.2++[D.v]) hlen ?_ ?_ ?_ n5 (by rw[n0,hlen])
  .have:=Hv (f:=λi=>inn D.x (i+1)) (s:=aD c) (l:=q.2++[D.v]) (i:=0) n5 hq;rw[n2]at this;rw[hadd,this];simp only[gc]
  .rw[hadd,gZ];simp[n1]
  .intro j hj;rw[hadd,gZ,if_neg (λe=>hj e.symm)]
 .unfold PairD.needs at hn;rw[ha]at hn;have nz:0<=D.ka/\0<=D.kb:=hn _ (by simp);have n0:D.len=1:=hn _ (by simp);have n1:∀q∈D.M,q.1≠D.key:=hn _ (by simp);have n5:(D.M.map (·.1)).Nodup:=hn _ (by simp);have hadd:eW D.M D.key D.v=D.M++[(D.key,[D.v])] :=G7 n1;refine YA g2 t1 t2 t3 t4 hx u3 u4 ?_;have hdead:L.fn (inn D.x (D.M.length+1))=none:=by show Sg.a L.at (inn D.x (D.M.length+1))=_;rw[Sg.co,w1];show(D.M[D.M.length]?).map _=none;rw[eQ (az _)];rfl
  rw[hav,<-f1,UJ hdead λe=>by have:=(cI e).2;omega];refine fin nz D.M.length [D.v] rfl ?_ ?_ ?_ n5 n0
  .rw[hadd,YC n1];simp only[gc]
  .rw[hadd];simp
  .intro j hj;rw[hadd];rcases jc j D.M.length with h|h
   .rw[iL h]
   .rw[eQ (by simp;omega),eQ h]
def ph(X:Cx)(mt n:Nat)(o:Oper)(m:MSp)(F:Frm)(L:aJ)(c:Nat)(G:Frm->aJ->Fm):Fm:=match m with
 | .mk=>(match frs L.at c with
   |true=>G (dv n F o.dst (.mp c)) ((c,some (.mf []))::L)
   |false=> .stuck 997001)
 | .rng t x=>(match cA n F x,ae t mt,frs L.at c with
   | .mp s,true,true=>(match L.at s,dG (ncl s) (c+1),kX (c+1) s c F F,okL (c+1) s c L with
     |some (.mf M),true,[],true=>G (dv n F o.dst (.ptef s .I 0 0 0)) ((s,some (.it none M))::L)
     |_,_,_,_=> .stuck 997002)
   |_,_,_=> .stuck 997003)
 | .nxt x=>(match cA n F x with
   | .ptef s .I 0 0 0=>(match L.at s with
     |some (.it _ M)=> .both (.imp (M=[]) (G (dv n F o.dst (.tup [.lit false])) L)) (.all Nat λi=> .all ((Nat×Nat)×List Int) λq=> .imp (M[i]? =some q) (G (dv n F o.dst (.tup [.lit true,.agg [.int .i64 q.1.1,.int .i64 q.1.2],.lst .I q.2])) ((s,some (.it (some q) (M.eraseIdx i)))::L)))
     |_=> .stuck 997004)
   |_=> .stuck 997005)
 | .ent x=>(match cA n F x with
   | .ptef s .I 0 0 0=>(match L.at s with
     |some (.it (some q) M)=>G (dv n F o.dst (.tup [.agg [.int .i64 q.1.1,.int .i64 q.1.2],.lst .I q.2])) ((s,some (.it none M))::L)
     |_=> .stuck 997006)
   |_=> .stuck 997007)
 | .look t x i=>(match cA n F x,rL (cA n F i),ae t mt with
   | .mp s,some (key,ka,kb),true=>(match L.at s with
     |some (.mf M)=>needs [0<=ka/\0<=kb,(M.map (·.1)).Nodup] (.both (.all Nat λa=> .all ((Nat×Nat)×List Int) λq=> .imp (M[a]? =some q/\q.1=key) (G (dv n F o.dst (.ownf s .I a q.2.length)) L)) (.imp (∀q∈M,q.1≠key) (G (dv n F o.dst .nil) L)))
     |_=> .stuck 997008)
   |_,_,_=> .stuck 997009)
def Su{n N s:Nat}{F:Frm}{L:aJ}{M:MF}{q:(Nat×Nat)×List Int}(hM:L.at s=some (.it (some q) M)):cZ (F.av n) L.fn N (F.av n) (aJ.fn ((s,some (.it none M))::L)) N:=by
 rw[<-MY (c:=none) (M:=M) hM];have hs:L.fn (aD s)=some (SOb.ob s (.it (some q) M)):=by show Sg.a L.at (aD s)=_;rw[Sg.bW,hM];rfl
 have hup:∀t,t≠aD s->aX L.fn [(aD s,some (SOb.ob s (.it none M)))] t=L.fn t:=λt ht=>by unfold aX;simp[cL,beq_eq_false_iff_ne.2 ht]
 refine Dt (λ_=>none) (λ_ _ h=>by cases h) rfl (λt _=> .inr (.inl rfl)) λk ob hk=>⟨rfl,?_⟩;by_cases h1:k=aD s
 .subst h1;have hk:some (SOb.ob s (.it none M))=some ob:=by rw[<-hk];unfold aX;simp[cL]
  cases hk;refine .inr ⟨_,hs,rfl,rfl,λh=>absurd (show(2:Nat)=0 from h.2) (by decide),rfl,λi x hi=> ?_⟩;match i,hi with
  |0,hi=>exact⟨_,hi,.inr (.inl rfl)⟩
  |1,hi=>cases hi;exact⟨_,rfl,.inl rfl⟩
  |i+2,hi=>exact⟨_,hi,.inr (.inl rfl)⟩
 .rw[hup k h1]at hk;exact .inl hk
def Vu{X:Cx}{mt n:Nat}{o:Oper}{m:MSp}{F:Frm}{L:aJ}{c:Nat}{G:Frm->aJ->Fm}(hmt:MTy X.P mt)(hm:pk o=some m)(hF:F.ok)(h:(ph X mt n o m F L c G).holds):
  ce X.P o (F.av n) L.fn c λFA LA N'=>N'<=c+1/\eN n (λd=>o.dst=some d) F L FA LA λF' L'=>(G F' L').holds:=by
 have ho:=Wd hm;have tl:∀(r:SV) (L':aJ),r.ok->eC L L'->(G (dv n F o.dst r) L').holds->eN n (λd=>o.dst=some d) F L ((dv n F o.dst r).av n) L'.fn λF' L'=>(G F' L').holds:=
  λr L' hr hL hg=>⟨_,_,rfl,rfl,nT hF hr,qT λt ht=>ht,hL,hg⟩
 cases m with
 |mk=>
  obtain⟨t,ho⟩:=ho;unfold ph at h;dsimp only at h;split at h
  .rename_i hc;exact X6 ho hc ⟨az _,tl _ _ trivial ⟨[_],rfl⟩ h⟩
  .exact h.elim
 |rng t x=>
  unfold ph at h;dsimp only at h;split at h
  case h_2=>exact h.elim
  rename_i s hx ht hc;have ht:=bp ht;subst ht;split at h
  case h_2=>exact h.elim
  rename_i M hM hs hb hL;exact WJ ho hmt hx hM hc ((dc _ _).1 hs) (λt ht=>by
   rcases G2 (N:=c+1) (x:=s) (s:=c) (F:=F) t ht with h|h
   .rw[hb]at h;cases h
   .exact h) hL ⟨az _,tl _ _ trivial ⟨[_],rfl⟩ h⟩
 |nxt x=>
  unfold ph at h;dsimp only at h;split at h
  case h_2=>exact h.elim
  rename_i s hx;split at h
  case h_2=>exact h.elim
  rename_i cur M hM;obtain⟨h1,h2⟩:=Fm.lq h;exact WV ho hx hM (λhm=>⟨Df _,tl _ _ trivial eC.rfl ((h1:M=[]->_) hm)⟩) λi q hq=>⟨Df _,tl _ _ trivial ⟨[_],rfl⟩ ((h2:∀(i:Nat) (q:(Nat×Nat)×List Int),M[i]? =some q->_) i q hq)⟩
 |ent x=>
  unfold ph at h;dsimp only at h;split at h
  case h_2=>exact h.elim
  rename_i s hx;split at h
  case h_2=>exact h.elim
  rename_i q M hM;refine ce.weak ((Wz (K:=λFA LA N'=>FA=(dv n F o.dst (.tup [.agg [.int .i64 q.1.1,.int .i64 q.1.2],.lst .I q.2])).av n/\LA=L.fn/\N'=c+1) ho hx hM ⟨rfl,rfl,rfl⟩).mono' ?_);rintro FA LA N' ⟨rfl,rfl,rfl⟩;exact⟨_,_,_,Su hM,az _,tl _ _ trivial ⟨[_],rfl⟩ h⟩
 |look t x i=>
  unfold ph at h;dsimp only at h;split at h
  case h_2=>exact h.elim
  rename_i s key ka kb hx hi ht;have ht:=bp ht;subst ht;split at h
  case h_2=>exact h.elim
  rename_i M hM;obtain⟨hn,h⟩:=jj h;obtain⟨h1,h2⟩:=Fm.lq h;obtain⟨kt,et,q1,q2,q3⟩:=hmt;exact X9 ho q1 q2 q3 hx (GG hi (hn _ (by simp))) hM (hn _ (by simp)) (λa q ha hq=>⟨az _,tl _ _ trivial eC.rfl ((h1:∀(a:Nat) (q:(Nat×Nat)×List Int),M[a]? =some q/\q.1=key->_) a q ⟨ha,hq⟩)⟩) λhq=>⟨az _,tl _ _ trivial eC.rfl ((h2:(∀q∈M,q.1≠key)->_) hq)⟩
def tv:List Oper->Option (List Oper×Oper×Oper)
 |[] =>none
 |[a,b] =>(match a.guard,b.guard,b.op with|none,none,.mapUpdate .. =>some ([],a,b)|_,_,_=>none)
 |o::l=>(match tv l with|some (mid,a,b)=>some (o::mid,a,b)|none=>none)
def EE:∀{l mid:List Oper} {a b:Oper},tv l=some (mid,a,b)->l=mid++[a,b]/\a.guard=none/\b.guard=none
 |[],_,_,_,h=>by cases h
 |[o],_,_,_,h=>by cases h
 |[x,y],mid,a,b,h=>by
  unfold tv at h;split at h<;>cases h;exact⟨rfl,‹_›,‹_›⟩
 |o::x::y::l,mid,a,b,h=>by
  unfold tv at h;split at h<;>cases h;rename_i h1;obtain⟨e,g1,g2⟩:=EE h1;exact⟨by rw[e];rfl,g1,g2⟩
def hkM(X:Cx)(mt n:Nat):kB:=λ_ ops draw F L N K=>match draw,xN ops with
 |false,some (pre,o,m,post)=>some (dj X n (λ_=>false) N (ops.map (·.dst)) pre 0 F L [] λF L _=>ph X mt n o m F L (N+(0+pre.length)) λF L=>(match tv post with
  |some (mid,oa,om)=>dj X n (λ_=>false) (N+(0+pre.length)+1) (ops.map (·.dst)) mid (0+(pre.length+1)) F L [] λF L _=>BS X mt n (ops.filterMap (·.dst)) F L (N+(0+pre.length)+1+(0+(pre.length+1)+mid.length)) oa om λF L=>K F L (N+(0+pre.length)+1+(0+(pre.length+1)+mid.length)+1+ops.length)
  |none=>dj X n (λ_=>false) (N+(0+pre.length)+1) (ops.map (·.dst)) post (0+(pre.length+1)) F L [] λF L _=>K F L (N+(0+pre.length)+1+ops.length)))
 |_,_=>none
def ce.le{P:Program}{o:Oper}{F:List AV}{L:Sto}{N N1:Nat}{K K':List AV->Sto->Nat->Prop}(h:ce P o F L N K)(hK:∀F L N',K F L N'->N'<=N1/\K' F L N1):ce P o F L N K':=by intro C0 B wI a w hS;refine nA (h C0 B wI a w hS) ?_;rintro v w' ⟨F1,L1,N',h1,h2⟩;obtain⟨k1,k2⟩:=hK _ _ _ h1;exact⟨F1,L1,N1,k2,h2.mono k1⟩
def ZX{X:Cx}(hX:X.Ok){mt n:Nat}(hmt:MTy X.P mt)(r:Nat×Array Oper×Bool):xd X n (hkM X mt n) r:=by
 obtain⟨id,ops,draw⟩:=r;intro F L N K f hf h hF;unfold hkM at hf;split at hf
 case h_2=>cases hf
 rename_i pre o m post hdr hsp;have hdr:draw=false:=hdr;subst hdr;cases hf;obtain⟨e1,hm⟩:=Eb hsp;dsimp only at e1 h;have hds:∀o'∈ops.toList,o'.dst∈ops.toList.map (·.dst):=λo' ho=>cF.2 ⟨o',ho,rfl⟩;have hd1:∀o'∈pre,o'.dst∈ops.toList.map (·.dst):=λo' ho=>hds o' (by rw[e1];exact f7 _ ho);have hd2:∀o'∈post,o'.dst∈ops.toList.map (·.dst):=λo' ho=>hds o' (by rw[e1];exact fq _ (dK _ ho));have hdo:o.dst∈ops.toList.map (·.dst):=hds o (by rw[e1];simp);have hasg:∀d,some d∈ops.toList.map (·.dst)->d∈asg (.region id ops false):=λd hd=>by obtain⟨o',ho,e⟩:=cF.1 hd;exact kF.2 ⟨o',ho,e⟩
 refine .inr (.inl ⟨rfl,3,.inr ⟨pre,o,post,e1,TF hm,eI ?_ (iM hX pre 0 F L [] hd1 hF h)⟩⟩);rintro FA LA log ⟨F1,L1,rfl,rfl,hF1,hp1,hl1,h1⟩;have hp1:Pre (λd=>d∈asg (.region id ops false)) F F1:=hp1.mono λd hd=>hasg d hd;refine(Vu hmt hm hF1 h1).le (N1:=N+(0+pre.length)+1) ?_;rintro FA LA N' ⟨hN',F2,L2,rfl,rfl,hF2,hp2,hl2,h2⟩;refine⟨hN',?_⟩;have hp2:Pre (λd=>d∈asg (.region id ops false)) F F2:=hp1.trans (hp2.mono λd hd=>hasg d (by rw[<-hd];exact hdo));have hl2:=hl1.trans hl2;split at h2
 .rename_i mid oa om hpo;obtain⟨e2,ga,gm⟩:=EE hpo;have hd3:∀o'∈mid,o'.dst∈ops.toList.map (·.dst):=λo' ho=>hd2 o' (by rw[e2];exact f7 _ ho);have hst:=iM hX mid (0+(pre.length+1)) F2 L2 [] hd3 hF2 h2;refine .inr ⟨mid,oa,[om],e2,ga,eI ?_ hst⟩;rintro FA LA log ⟨F3,L3,rfl,rfl,hF3,hp3,hl3,h3⟩;obtain⟨_,_,h4⟩:=Uq hmt hF3 (λd hd=>kF.2 ⟨oa,by rw[e1,e2];simp,hd⟩) h3;have hp3:Pre (λd=>d∈asg (.region id ops false)) F F3:=hp2.trans (hp3.mono λd hd=>hasg d hd);refine ce.mono' h4 ?_;intro FA LA N4 h5;refine .inr ⟨[],om,[],rfl,gm,vu ?_⟩;refine(h5 _).mono' ?_;rintro FA LA N5 ⟨rfl,F4,L4,rfl,rfl,hF4,hp4,hl4,h6⟩;refine vu ⟨_,_,_,λC0 B wI a w hS=>hS,rfl,F4,L4,rfl,rfl,hF4,hp3.trans (hp4.mono λd hd=>hd),(hl2.trans hl3).trans hl4,?_⟩;simpa using h6
 .refine .inl (eI ?_ (iM hX post (0+(pre.length+1)) F2 L2 [] hd2 hF2 h2));rintro FA LA log ⟨F3,L3,rfl,rfl,hF3,hp3,hl3,h3⟩;refine⟨_,_,_,λC0 B wI a w hS=>hS,rfl,F3,L3,rfl,rfl,hF3,hp2.trans (hp3.mono λd hd=>hasg d hd),hl2.trans hl3,?_⟩;simpa using h3
end
noncomputable section
def wF{n N0 N:Nat}{FA:List AV}{F':Frm}{σ:Sto}{L':aJ}(m:Rf)(hlt:∀s x,m s=some x->cls s<N)(hinj:∀s s' o,m s=some (some o)->m s'=some (some o)->s=s')
  (hlen:FA.length=n) (hF:∀t,t<n->dW m (F'.at t).av (FA.getD t .any))
  (hO:∀y ob,L'.at y=some ob->((∃o src,m (aD y)=some (some o)/\σ o=some src/\js m (ob.ob y) src)\/(m (aD y)=some none/\(ob.ob y).esz≠0/\(ob.ob y).cells=[]))/\
    ∀b ob',ob.inner b=some ob'->(∃o src,m (inn y (b+1))=some (some o)/\σ o=some src/\js m ob' src)\/(m (inn y (b+1))=some none/\ob'.esz≠0/\ob'.cells=[])):
  cZ FA σ N0 (F'.av n) L'.fn N:=by
 refine tH m hlt hinj (by rw[Frm.eH,hlen]) (λt ht=> ?_) λt ob' ht=> ?_
 .rw[hlen]at ht;rw[Frm.fi ht];exact hF t ht
 .rcases gR t with⟨y,rfl⟩|⟨y,b,rfl⟩|hno
  .change Sg.a _ (aD y)=some ob' at ht;rw[Sg.bW]at ht;cases ho:L'.at y with
   |none=>rw[ho]at ht;cases ht
   |some ob=>
    rw[ho]at ht;have ht:=gA ht;subst ht;rcases(hO y ob ho).1 with⟨o,src,h1,h2,h3⟩|⟨h1,h2,h3⟩
    .rw[h1];exact⟨src,h2,h3⟩
    .rw[h1];exact⟨h2,h3⟩
  .change Sg.a _ (inn y (b+1))=some ob' at ht;rw[Sg.co]at ht;cases ho:L'.at y with
   |none=>rw[ho]at ht;cases ht
   |some ob=>
    rw[ho]at ht;rcases(hO y ob ho).2 b ob' ht with⟨o,src,h1,h2,h3⟩|⟨h1,h2,h3⟩
    .rw[h1];exact⟨src,h2,h3⟩
    .rw[h1];exact⟨h2,h3⟩
  .change Sg.a _ t=some ob' at ht;rw[Sg.fp _ hno]at ht;cases ht
def gH(N:Nat)(xs:List Nat)(z:Nat):Bool:=match dG (ncl z) N,mem xs z with
 |true,false=>true
 |_,_=>false
def pB{N:Nat}{xs:List Nat}{z:Nat}(h:gH N xs z=true):ncl z<N/\z∉xs:=by
 unfold gH at h;split at h
 .rename_i h1 h2;exact⟨(dc _ _).1 h1,λhm=>by rw[(mem_iff z xs).2 hm]at h2;cases h2⟩
 .cases h
def ij(N:Nat)(xs:List Nat)(v:SV):Bool:=cw (gH N xs) v.sites
def Ck(N:Nat)(xs:List Nat)(y:Nat)(ob:SOb):Bool:=match gH N xs y with
 |true=>cw (gH N xs) ob.sites
 |false=>false
def gO(N:Nat)(xs:List Nat)(F:Frm):Frm->List Nat
 |[] =>[]
 |(d,_)::r=>match ij N xs (F.at d)with
  |true=>gO N xs F r
  |false=>d::gO N xs F r
def AP{N t:Nat}{xs:List Nat}{F:Frm}:∀{G:Frm},t∈G.map (·.1)->t∈gO N xs F G\/ij N xs (F.at t)=true
 |[],h=>by cases h
 |(d,v)::G,h=>by
  unfold gO;rw[cV]at h;cases hk:ij N xs (F.at d)with
  |true=>
   rcases bh.1 h with h|h
   .have h:t=d:=h;exact .inr (by subst h;exact hk)
   .exact AP h
  |false=>
   rcases bh.1 h with h|h
   .exact .inl (by rw[h];exact eG)
   .rcases AP (G:=G) h with h|h
    .exact .inl (dK _ h)
    .exact .inr h
def wK{N:Nat}{xs:List Nat}{F:Frm}(t:Nat):t∈gO N xs F F\/ij N xs (F.at t)=true:=by
 by_cases h:t∈F.map (·.1)
 .exact AP h
 .rw[AS h];exact .inr rfl
def mR(N:Nat)(xs ys:List Nat)(L:aJ):Bool:=cw (λq:Nat×Option SOb=>match mem ys q.1,L.at q.1 with
 |false,some ob=>Ck N xs q.1 ob
 |_,_=>true) L
def wS{N:Nat}{xs ys:List Nat}{L:aJ}(h:mR N xs ys L=true):∀y ob,L.at y=some ob->y∉ys->gH N xs y=true/\cw (gH N xs) ob.sites=true:=by
 intro y ob hy hn;obtain⟨q,h1,rfl⟩:=Ic hy;have:=dH h q h1;rw[hy]at this;cases hb:mem ys q.1 with
 |true=>exact absurd ((mem_iff _ _).1 hb) hn
 |false=>
  rw[hb]at this;have this:Ck N xs q.1 ob=true:=this;unfold Ck at this;split at this
  .exact⟨‹_›,this⟩
  .cases this
def cd(k:Nat)(o:Option SOb)(L:aJ)(y:Nat):aJ.at ((k,o)::L) y=if y=k then o else L.at y:=by
 show(match ae y k with|true=>_|false=>_)=_;cases h1:ae y k with
 |true=>rw[if_pos (bp h1)]
 |false=>rw[if_neg (f9 h1)]
def rE{m:Rf}{N:Nat}{xs:List Nat}(hm:∀z,gH N xs z=true->ja m z){v:SV}(h:ij N xs v=true):dW m v.av v.av:=sW v λs hs=>hm s (dH h s hs)
def y4{m:Rf}{x y:AV}(hxy:dW m x y):∀(cs:List SV) (i:Nat),(∀(j:Nat) v,cs[j]? =some v->j≠i->dW m v.av v.av)->dM m ((avs cs).set i x) ((avs cs).set i y)
 |[],_,_=>rfl
 |c::cs,0,h=>by
  refine⟨_,_,rfl,hxy,?_⟩;have:∀l:List SV,(∀v∈l,dW m v.av v.av)->dM m (avs l) (avs l):=by
   intro l;induction l with
   |nil=>intro _;rfl
   |cons v l ih=>intro h;exact⟨_,_,rfl,h v eG,ih λu hu=>h u (dK _ hu)⟩
  refine this cs λv hv=> ?_;obtain⟨j,hj⟩:=List.getElem?_of_mem hv;exact h (j+1) v (by simpa using hj) (by omega)
 |c::cs,i+1,h=>⟨_,_,rfl,h 0 c rfl (by omega),y4 hxy cs i λj v hj hne=>h (j+1) v (by simpa using hj) (by omega)⟩
open Classical in
def jD(N x a c r:Nat):Rf:=λt=>if cls t<N then(if t=aD x then some (some (aD c))else if t=inn x (a+1)then some (some (aD r))else if t=aD c\/t=aD r then none else some (some t))else none
def VJ{N x a c r z:Nat}(h:gH N [x,c,r] z=true):ja (jD N x a c r) z:=by
 obtain⟨h1,h2⟩:=pB h;simp only[bh,dg,or_false,not_or]at h2;intro b;unfold jD;rw[if_pos (by rw[cP];exact h1),if_neg (show¬inn z b=aD x from λe=>h2.1 (cI e).1),if_neg (show¬inn z b=inn x (a+1)from λe=>h2.1 (cI e).1),if_neg];rintro(e|e)
 .exact h2.2.1 (cI e).1
 .exact h2.2.2 (cI e).1
def Wu{n N0 N x c r s k m pb off:Nat}{FA:List AV}{F':Frm}{L:aJ}{σ:Sto}{ty ity bty:TypeId}{lt:LT}{Ls:List (List lt.ty)}{l:List lt.ty}{bcs:List SV}
  (hx:L.at x=some (.fam ty ity lt Ls [])) (hr:L.fn (aD r)=some ⟨ity,lt.w,(lt.enc l).map .p⟩) (hc:L.at c=none) (hb:L.at pb=some (.box bty bcs))
  (h1:σ (aD c)=some ⟨ty,1,(bO Ls.length).map (cu x Ls [])++[.own (aD r) 0 m]⟩) (h2:σ (aD pb)=some ⟨bty,0,(avs bcs).set off (.own (aD c) 0 k)⟩)
  (h3:∀t,t≠aD x->t≠aD c->t≠aD pb->σ t=L.fn t) (hm:m=l.length) (hoff:off<bcs.length)
  (hxc:x≠c) (hxr:x≠r) (hcr:c≠r) (hxN:ncl x<N) (hpb:gH N [x,c,r] pb=true) (hbc:∀(j:Nat) v,bcs[j]? =some v->j≠off->ij N [x,c,r] v=true) (hlen:FA.length=n)
  (hF:∀t,t<n->F'.at t= .any\/(ij N [x,c,r] (F'.at t)=true/\FA.getD t .any=(F'.at t).av)) (hL:mR N [x,c,r] [x,r,s,pb] L=true):
  cZ FA σ N0 (F'.av n) (aJ.fn ((x,some (.fam ty ity lt (Ls++[l]) []))::(pb,some (.box bty (bcs.set off (.owF x k))))::(s,none)::(r,none)::L)) N:=by
 have hni:∀y z b,aD y≠inn z (b+1):=λy z b e=>by have:=(cI e).2;omega
 obtain⟨hpN,hpx⟩:=pB hpb;simp only[bh,dg,or_false,not_or]at hpx;have mx:jD N x Ls.length c r (aD x)=some (some (aD c)):=by unfold jD;rw[if_pos (by rw[show cls (aD x)=ncl x from cP x 0];exact hxN),if_pos rfl]
 have mi:jD N x Ls.length c r (inn x (Ls.length+1))=some (some (aD r)):=by unfold jD;rw[if_pos (by rw[cP];exact hxN),if_neg (λe=>hni x x _ e.symm),if_pos rfl]
 have mj:∀j,j≠Ls.length->jD N x Ls.length c r (inn x (j+1))=some (some (inn x (j+1))):=by
  intro j hj;unfold jD;rw[if_pos (by rw[cP];exact hxN),if_neg (λe=>hni x x _ e.symm),if_neg (λe=>hj (by have:=(cI e).2;omega)),if_neg];rintro(e|e)
  .exact hni c x _ e.symm
  .exact hni r x _ e.symm
 have hst:∀z,gH N [x,c,r] z=true->ja (jD N x Ls.length c r) z:=λz=>VJ;refine wF (jD N x Ls.length c r) ?_ ?_ hlen (λt ht=> ?_) λy ob hy=> ?_
 .intro t y ht;unfold jD at ht;grind
 .intro t t' o ht ht';have hcr2:aD c≠aD r:=λe=>hcr (eL e);unfold jD at ht ht';grind
 .rcases hF t ht with e|⟨e1,e2⟩
  .rw[e];trivial
  .rw[e2];exact rE hst e1
 .rw[cd]at hy;by_cases e1:y=x
  .subst e1;rw[if_pos rfl]at hy;cases hy;refine⟨.inl ⟨_,_,mx,h1,rfl,rfl,?_⟩,λb ob' hb'=> ?_⟩
   .show dM _ ((bO (Ls++[l]).length).map (cu y (Ls++[l]) [])) _;have e:(bO (Ls++[l]).length).map (cu y (Ls++[l]) [])=(bO Ls.length).map (cu y Ls [])++[.own (inn y (Ls.length+1)) 0 l.length] :=by
     rw[dh,eD,sA,d7]
     congr 1
     .refine lk λi hi=> ?_;have hi:=dY.1 hi;show AV.own (inn y (i+1)) 0 ((Ls++[l]).getD i []).length=AV.own (inn y (i+1)) 0 (Ls.getD i []).length;rw[bq,iL hi,<-bq]
     .show [AV.own (inn y (Ls.length+1)) 0 ((Ls++[l]).getD Ls.length []).length] =_;rw[bq,iU (az _),sE];rfl
    rw[e];have key:∀(A:List AV),dM (jD N y Ls.length c r) A A->dM (jD N y Ls.length c r) (A++[.own (inn y (Ls.length+1)) 0 l.length]) (A++[.own (aD r) 0 m]):=by
     intro A;induction A with
     |nil=>intro _;exact⟨_,_,rfl,.inl ⟨_,mi,by rw[hm]⟩,rfl⟩
     |cons a A ih=>
      rintro⟨u,v,e,g1,g2⟩;cases e;exact⟨_,_,rfl,g1,ih g2⟩
    refine key _ (nI _ _ _ λi hi=> ?_);have hi:=dY.1 hi;exact .inl ⟨_,mj i (by omega),rfl⟩
   .have hb':((Ls++[l])[b]?).map (λl=>(⟨ity,lt.w,(lt.enc l).map .p⟩:Ob))=some ob':=hb';left;rcases jK b Ls.length with h|h|h
    .rw[iL h]at hb';refine⟨_,ob',mj b (by omega),?_,?_⟩
     .rw[h3 _ (λe=>hni y y b e.symm) (λe=>hni c y b e.symm) (λe=>hni pb y b e.symm)];show Sg.a L.at (inn y (b+1))=_;rw[Sg.co,hx];exact hb'
     .exact jk (o':= .fam ty ity lt Ls []) (a:=b) hb'
    .subst h;rw[iU (az _),sE]at hb';cases hb';refine⟨_,⟨ity,lt.w,(lt.enc l).map .p⟩,mi,?_,rfl,rfl,fX _ _⟩;rw[h3 _ (λe=>hxr (eL e).symm) (λe=>hcr (eL e).symm) (λe=>hpx.2.2 (eL e).symm)];exact hr
    .rw[eQ (by simp;omega)]at hb';cases hb'
  .rw[if_neg e1,cd]at hy;by_cases e2:y=pb
   .subst e2;rw[if_pos rfl]at hy;cases hy;refine⟨.inl ⟨_,_,hst y hpb 0,h2,rfl,rfl,?_⟩,λb ob' hb'=>by cases hb'⟩;show dM _ (avs (bcs.set off (.owF x k))) _;rw[wb];exact y4 (show dW _ (AV.own (aD x) 0 k) (AV.own (aD c) 0 k)from .inl ⟨_,mx,rfl⟩) bcs off λj v hj hne=>rE hst (hbc j v hj hne)
   .rw[if_neg e2,cd]at hy;by_cases e3:y=s
    .rw[if_pos e3]at hy;cases hy
    .rw[if_neg e3,cd]at hy;by_cases e4:y=r
     .rw[if_pos e4]at hy;cases hy
     .rw[if_neg e4]at hy;obtain⟨g1,g2⟩:=wS hL y ob hy (by simp[e1,e2,e3,e4]);have hyc:y≠c:=λe=>by rw[e,hc]at hy;cases hy
      have hs:=hst y g1;refine⟨.inl ⟨_,ob.ob y,hs 0,?_,ji ob y hs λz hz=>hst z (dH g2 z hz)⟩,λb ob' hb'=> .inl ⟨_,ob',hs (b+1),?_,jk (o':=ob) hb'⟩⟩
      .rw[show inn y 0=aD y from rfl,h3 _ (λe=>e1 (eL e)) (λe=>hyc (eL e)) (λe=>e2 (eL e))];show Sg.a L.at (aD y)=_;rw[Sg.bW,hy];rfl
      .rw[h3 _ (λe=>hni x y b e.symm) (λe=>hni c y b e.symm) (λe=>hni pb y b e.symm)];show Sg.a L.at (inn y (b+1))=_;rw[Sg.co,hy];exact hb'
open Classical in
def mN(N c:Nat):Rf:=λt=>if cls t<N then(if t=inn c 1 then some none else some (some t))else none
def Vf{n N0 N c pb off k:Nat}{FA:List AV}{F':Frm}{L:aJ}{ty ity bty:TypeId}{lt:LT}{bcs:List SV}
  (hc:L.at c=some (.arr ty 1 [.nil])) (hb:L.at pb=some (.box bty bcs)) (hcN:ncl c<N) (hof:bcs[off]? =some (.ownx c k)) (hpb:gH N [c] pb=true) (hbc:∀(j:Nat) v,bcs[j]? =some v->j≠off->ij N [c] v=true)
  (hlen:FA.length=n) (hF:∀t,t<n->F'.at t= .any\/(ij N [c] (F'.at t)=true/\FA.getD t .any=(F'.at t).av)) (hL:mR N [c] [c,pb] L=true):
  cZ FA L.fn N0 (F'.av n) (aJ.fn ((c,some (.fam ty ity lt [[]] []))::(pb,some (.box bty (bcs.set off (.owF c k))))::L)) N:=by
 have hni:∀y z b,aD y≠inn z (b+1):=λy z b e=>by have:=(cI e).2;omega
 obtain⟨hpN,hpx⟩:=pB hpb;have hpc:pb≠c:=λe=>hpx (by rw[e];exact bM.2 rfl);have mc:mN N c (aD c)=some (some (aD c)):=by unfold mN;rw[if_pos (by rw[show cls (aD c)=ncl c from cP c 0];exact hcN),if_neg (hni c c 0)]
 have mi:mN N c (inn c 1)=some none:=by unfold mN;rw[if_pos (by rw[cP];exact hcN),if_pos rfl]
 have hst:∀z,gH N [c] z=true->ja (mN N c) z:=by intro z hz b;obtain⟨h1,h2⟩:=pB hz;unfold mN;rw[if_pos (by rw[cP];exact h1),if_neg (λe=>h2 (bM.2 (cI e).1))]
 refine wF (mN N c) ?_ ?_ hlen (λt ht=> ?_) λy ob hy=> ?_
 .intro t y ht;unfold mN at ht;grind
 .intro t t' o ht ht';unfold mN at ht ht';grind
 .rcases hF t ht with e|⟨e1,e2⟩
  .rw[e];trivial
  .rw[e2];exact rE hst e1
 .have hfn:∀y ob,L.at y=some ob->L.fn (aD y)=some (ob.ob y):=λy ob h=>by show Sg.a L.at (aD y)=_;rw[Sg.bW,h];rfl
  rw[cd]at hy;by_cases e1:y=c
  .subst e1;rw[if_pos rfl]at hy;cases hy;refine⟨.inl ⟨_,_,mc,hfn _ _ hc,rfl,rfl,?_⟩,λb ob' hb'=> ?_⟩
   .exact⟨_,_,rfl,.inr ⟨mi,rfl,rfl,rfl⟩,rfl⟩
   .have hb':(([[]] :List (List lt.ty))[b]?).map (λl=>(⟨ity,lt.w,(lt.enc l).map .p⟩:Ob))=some ob':=hb';cases b with
    |zero=>cases hb';exact .inr ⟨mi,Nat.ne_of_gt lt.gn,rfl⟩
    |succ b=>cases hb'
  .rw[if_neg e1,cd]at hy;by_cases e2:y=pb
   .subst e2;rw[if_pos rfl]at hy;cases hy;refine⟨.inl ⟨_,_,hst y hpb 0,hfn _ _ hb,rfl,rfl,?_⟩,λb ob' hb'=>by cases hb'⟩;show dM _ (avs (bcs.set off (.owF c k))) (avs bcs);have e:avs bcs=(avs bcs).set off (SV.ownx c k).av:=by
     apply ke;intro i;rw[gZ];by_cases h:off=i
     .subst h;rw[if_pos rfl,qo,hof];have hl:off<(avs bcs).length:=by rw[fh];obtain⟨h,_⟩:=oT.1 hof;exact h
      rw[if_pos hl];rfl
     .rw[if_neg h]
    rw[e,wb];exact y4 (show dW _ (AV.own (aD c) 0 k) (AV.own (aD c) 0 k)from .inl ⟨_,mc,rfl⟩) bcs off λj v hj hne=>rE hst (hbc j v hj hne)
   .rw[if_neg e2]at hy;obtain⟨g1,g2⟩:=wS hL y ob hy (by simp[e1,e2]);have hs:=hst y g1;refine⟨.inl ⟨_,ob.ob y,hs 0,hfn _ _ hy,ji ob y hs λz hz=>hst z (dH g2 z hz)⟩,λb ob' hb'=> .inl ⟨_,ob',hs (b+1),?_,jk (o':=ob) hb'⟩⟩;show Sg.a L.at (inn y (b+1))=_;rw[Sg.co,hy];exact hb'
end
noncomputable section
def qZ{P:Program}{N:Nat}{ds:List (Option Nat)}{K:List AV->Sto->dX->Prop}{o:Oper}{rest:List Oper}{i:Nat}{F F':List AV}{L L':Sto}{log:dX}{r:AV}{R Rc Wc:List Nat}{W:List (Nat×Option Ob)}(hg:o.guard=none)(c1:inC R Rc)(c2:inC (W.map (·.1)) Wc)
  (h1:bB P o (dC F) L (N+i) r R W) (hF:cJ F o.dst r=F') (hL:aX L W=L') (h2:cN P N ds rest (i+1) F' L' (log++[(Rc,Wc)]) K):cN P N ds (o::rest) i F L log K:=by
 unfold cN;rw[hg];subst hF;subst hL;exact⟨r,R,W,Rc,Wc,h1,c1,c2,h2⟩
structure GrowD where
 x:Nat
 k:Nat
 k2:Nat
 ty:TypeId
 ity:TypeId
 lt:LT
 Ls:List (List lt.ty)
 s:Nat
 r:Nat
 m:Nat
 l:List lt.ty
 pb:Nat
 off:Nat
 bty:TypeId
 bcs:List SV
def gp(a b:Nat):Bool:=ae a b
def CQ(X:Cx)(n:Nat)(F:Frm)(L:aJ)(c:Nat)(oa on' of' os:Oper):Option (GrowD×Frm):=match oa.guard,oa.op,oa.dst,on'.guard,on'.op,on'.dst with
 |none,.call {callee:= .builtin .append,args:=⟨[xa,ya]⟩,argTypes:=⟨[ta,tb]⟩},some d,none,.nilCheck xn,some d2=>(match of'.guard,of'.op,of'.dst,os.guard,os.op,os.dst with
  |none,.fieldAddr T xf fl,some d3,none,.store t xs ys,none=>(match cA n F xa,cA n F ya,mU X.P T fl with
   | .owF x k,.ownx s 1,some q=>(match L.at x,L.at s with
     |some (.fam ty ity lt Ls []),some (.arr _ 1 [.ownx r m])=>(match L.at r with
      |some (.arr ity2 ez2 cs2)=>(match lt.decs m cs2,cA n ((d,.ownx c (k+1))::F) xn,gp ez2 lt.w with
       |some l,.ptr pb po,true=>(match cA n ((d2,.ptr pb po)::(d,.ownx c (k+1))::F) xf with
        | .ptr pb2 po2=>(match cA n ((d3,.ptr pb2 (po2+q.1))::(d2,.ptr pb po)::(d,.ownx c (k+1))::F) xs,cA n ((d3,.ptr pb2 (po2+q.1))::(d2,.ptr pb po)::(d,.ownx c (k+1))::F) ys with
          | .ptr pb3 off,.ownx c' k'=>(match L.at pb3 with
            |some (.box bty bcs)=>(match gp ity2 ity,(bu X.P tb).isSome,bu X.P ta,jy X.P ty,aj X.P ty,frs L.at c with
             |true,true,some ty',true,1,true=>(match gp ty' ty,dG d n,dG d2 n,dG d3 n,gp c c',gp (aj X.P t) 1 with
              |true,true,true,true,true,true=>(match(X.P.info? t).isSome,dG off bcs.length with
               |true,true=>some (⟨x,k,k',ty,ity,lt,Ls,s,r,m,l,pb3,off,bty,bcs⟩,(d3,.ptr pb2 (po2+q.1))::(d2,.ptr pb po)::(d,.ownx c (k+1))::F)
               |_,_=>none)
              |_,_,_,_,_,_=>none)
             |_,_,_,_,_,_=>none)
            |_=>none)
          |_,_=>none)
        |_=>none)
       |_,_,_=>none)
      |_=>none)
     |_,_=>none)
   |_,_,_=>none)
  |_,_,_,_,_,_=>none)
 |_,_,_,_,_,_=>none
def lu{a b:Nat}(h:gp a b=true):a=b:=bp h
def zy{a b:Nat}(h:gp a b=false):a≠b:=f9 h
def Tz{X:Cx}{n:Nat}{F F5:Frm}{L:aJ}{c:Nat}{oa on' of' os:Oper}{D:GrowD}(h:CQ X n F L c oa on' of' os=some (D,F5)):
  ∃xa ya ta tb d xn d2 T xf fl d3 t xs ys q ty2 pb po pb2 po2,oa.guard=none/\oa.op= .call {callee:= .builtin .append,args:= #[xa,ya],argTypes:= #[ta,tb]}/\oa.dst=some d/\d<n/\
   on'.guard=none/\on'.op= .nilCheck xn/\on'.dst=some d2/\d2<n/\of'.guard=none/\of'.op= .fieldAddr T xf fl/\of'.dst=some d3/\d3<n/\os.guard=none/\os.op= .store t xs ys/\os.dst=none/\
   cA n F xa= .owF D.x D.k/\cA n F ya= .ownx D.s 1/\mU X.P T fl=some q/\L.at D.x=some (.fam D.ty D.ity D.lt D.Ls [])/\L.at D.s=some (.arr ty2 1 [.ownx D.r D.m])/\L.fn (aD D.r)=some ⟨D.ity,D.lt.w,(D.lt.enc D.l).map .p⟩/\D.m=D.l.length/\(∃ob,L.at D.r=some ob)/\
   cA n ((d,.ownx c (D.k+1))::F) xn= .ptr pb po/\cA n ((d2,.ptr pb po)::(d,.ownx c (D.k+1))::F) xf= .ptr pb2 po2/\F5=(d3,.ptr pb2 (po2+q.1))::(d2,.ptr pb po)::(d,.ownx c (D.k+1))::F/\
   cA n F5 xs= .ptr D.pb D.off/\cA n F5 ys= .ownx c D.k2/\L.at D.pb=some (.box D.bty D.bcs)/\(bu X.P tb).isSome=true/\bu X.P ta=some D.ty/\jy X.P D.ty=true/\aj X.P D.ty=1/\frs L.at c=true/\
   aj X.P t=1/\(X.P.info? t).isSome=true/\D.off<D.bcs.length:=by
 unfold CQ at h;split at h
 case h_2=>cases h
 rename_i xa ya ta tb d xn d2 g1 g2 g3 g4 g5 g6;split at h
 case h_2=>cases h
 rename_i T xf fl d3 t xs ys i1 i2 i3 i4 i5 i6;split at h
 case h_2=>cases h
 rename_i x k s q j1 j2 j3;split at h
 case h_2=>cases h
 rename_i ty ity lt Ls ty2 r m k1 k2;split at h
 case h_2=>cases h
 rename_i ity2 ez2 cs2 l1;split at h
 case h_2=>cases h
 rename_i l pb po l2 l3 lz;split at h
 case h_2=>cases h
 rename_i pb2 po2 m1;split at h
 case h_2=>cases h
 rename_i pb3 off c' k' m2 m3;split at h
 case h_2=>cases h
 rename_i bty bcs m4;split at h
 case h_2=>cases h
 rename_i ty' n1 n2 n3 n4 n5 n6;split at h
 case h_2=>cases h
 rename_i o1 o2 o3 o4 o5 o6;split at h
 case h_2=>cases h
 rename_i p1 p2;cases h;have n1:=lu n1;have o1:=lu o1;have o5:=lu o5;have o6:=lu o6;subst n1;subst o1;subst o5;obtain⟨dl1,dl2⟩:=LT.pO l2;have lz:=lu lz;refine⟨xa,ya,ta,tb,d,xn,d2,T,xf,fl,d3,t,xs,ys,q,ty2,pb,po,pb2,po2,g1,g2,g3,(dc _ _).1 o2,g4,g5,g6,(dc _ _).1 o3,i1,i2,i3,(dc _ _).1 o4,i4,i5,i6,j1,j2,j3,k1,k2,?_,dl1.symm,⟨_,l1⟩,l3,m1,rfl,m2,m3,m4,n2,n3,n4,n5,n6,o6,p1,(dc _ _).1 p2⟩;show Sg.a L.at (aD r)=_;rw[Sg.bW,l1,<-lz];show some (⟨ity2,ez2,avs cs2⟩:Ob)=_;rw[dl2]
def CP(X:Cx)(n N':Nat)(dl:List Nat)(anc:List (List Nat))(F:Frm)(L:aJ)(log:dX)(c:Nat)(oa on' of' os:Oper)(G:Frm->aJ->Fm):Fm:=match CQ X n F L c oa on' of' os with
 |some (D,F5)=>(match nf anc (log++[([ncl D.x,ncl D.s],[ncl D.x,c])] ++[([],[])] ++[([],[])] ++[([ncl D.pb],[ncl D.pb])]),cw (mem dl) (gO N' [D.x,c,D.r] F5 F5),mR N' [D.x,c,D.r] [D.x,D.r,D.s,D.pb] L,gH N' [D.x,c,D.r] D.pb,cw (ij N' [D.x,c,D.r]) (D.bcs.set D.off .undef)with
  |true,true,true,true,true=>(match gp D.x D.r,gp c D.r,dG (ncl D.x) N' with
   |false,false,true=>needs [D.k=D.Ls.length,D.k+1<=1000000] (G (((gO N' [D.x,c,D.r] F5 F5).map λd=>(d,SV.any))++F5) ((D.x,some (.fam D.ty D.ity D.lt (D.Ls++[D.l]) []))::(D.pb,some (.box D.bty (D.bcs.set D.off (.owF D.x D.k2))))::(D.s,none)::(D.r,none)::L))
   |_,_,_=> .stuck 998001)
  |_,_,_,_,_=> .stuck 998002)
 |none=> .stuck 998003
def Hl{N:Nat}{xs:List Nat}{cs:List SV}{off:Nat}(h:cw (ij N xs) (cs.set off .undef)=true):∀(j:Nat) v,cs[j]? =some v->j≠off->ij N xs v=true:=by intro j v hj hne;refine dH h v ?_;refine qB (i:=j) ?_;rw[gZ,if_neg (λe=>hne e.symm)];exact hj
def FY{c:Nat}(h:c<NM):ncl c=c:=Nat.mod_eq_of_lt h
def Wt{X:Cx}{n N N':Nat}{dl:List Nat}{anc:List (List Nat)}{ds:List (Option Nat)}{F:Frm}{L:aJ}{log:dX}{i:Nat}{oa on' of' os:Oper}{G:Frm->aJ->Fm}{K:List AV->Sto->dX->Prop}(hF:F.ok)(hdl:∀d,(oa.dst=some d\/on'.dst=some d\/of'.dst=some d)->d∈dl)
  (h:(CP X n N' dl anc F L log (N+i) oa on' of' os G).holds)
  (hK:∀(FA:List AV) (σ:Sto) (log':dX),nf anc log'=true->(∃F' L',cZ FA σ N' (F'.av n) L'.fn N'/\F'.ok/\Pre (λd=>d∈dl) F F'/\eC L L'/\(G F' L').holds)->K FA σ log'):
  cN X.P N ds [oa,on',of',os] i (F.av n) L.fn log K:=by
 unfold CP at h;split at h
 case h_2=>exact h.elim
 rename_i D F5 hD;split at h
 case h_2=>exact h.elim
 rename_i e1 e2 e3 e4 e5;split at h
 case h_2=>exact h.elim
 rename_i e6 e7 e8;have e6:=zy e6;have e7:=zy e7;have e8:=(dc _ _).1 e8;obtain⟨hn,hG⟩:=jj h;have n1:D.k=D.Ls.length:=hn _ (by simp);have n4:D.k+1<=1000000:=hn _ (by simp);obtain⟨xa,ya,ta,tb,d,xn,d2,T,xf,fl,d3,t,xs,ys,q,ty2,pb,po,pb2,po2,g1,g2,g3,g3',g4,g5,g6,g6',i1,i2,i3,i3',i4,i5,i6,j1,j2,j3,k1,k2,l1,n2,⟨obr,l1'⟩,l3,m1,rfl,m2,m3,m4,q2,q3,q4,q5,q6,o6,p1,p2⟩:=Tz hD;obtain⟨f1,f2⟩:=gj q6;have hcN:N+i<NM:=by
  unfold frs at q6;split at q6
  .exact(dc _ _).1 ‹_›
  .cases q6
 have hc0:=FY hcN;have hxc:D.x≠N+i:=λe=>by rw[e,f2]at k1;cases k1
 obtain⟨hpN,hpx⟩:=pB e4;simp only[bh,dg,or_false,not_or]at hpx;have hx:(cA n F xa).av= .own (aD D.x) 0 D.k:=by rw[j1];rfl
 have hy:(cA n F ya).av= .own (aD D.s) 0 1:=by rw[j2];rfl
 have hfx:L.fn (aD D.x)=some ⟨D.ty,1,(bO D.Ls.length).map (cu D.x D.Ls [])⟩:=by show Sg.a L.at (aD D.x)=_;rw[Sg.bW,k1];rfl
 have hfs:L.fn (aD D.s)=some ⟨ty2,1,[.own (aD D.r) 0 D.m]⟩:=by show Sg.a L.at (aD D.s)=_;rw[Sg.bW,k2];rfl
 have hfb:L.fn (aD D.pb)=some ⟨D.bty,0,avs D.bcs⟩:=by show Sg.a L.at (aD D.pb)=_;rw[Sg.bW,m4];rfl
 obtain⟨r,R,W,s1,rfl,rfl,rfl⟩:∃r R W,bB X.P oa (dC (F.av n)) L.fn (N+i) r R W/\r= .own (aD (N+i)) 0 (D.k+1)/\R=[aD D.x,aD D.s]/\W=[(aD D.x,none),(aD (N+i),some ⟨D.ty,1,(bO D.Ls.length).map (cu D.x D.Ls [])++[.own (aD D.r) 0 D.m]⟩)] :=by refine td (K:=λr R W=>r= .own (aD (N+i)) 0 (D.k+1)/\R=[aD D.x,aD D.s]/\W=[(aD D.x,none),(aD (N+i),some ⟨D.ty,1,(bO D.Ls.length).map (cu D.x D.Ls [])++[.own (aD D.r) 0 D.m]⟩)]) q2 g2 ⟨D.ty,q3,q4,?_⟩;rw[q5,<-eT,<-eT,hx,hy];exact⟨_,hfx,rfl,rfl,by simp[n1],_,_,hfs,rfl,rfl,n4,by rw[f1],rfl,by rw[f1];rfl⟩
 have hF3:cJ (F.av n) oa.dst (.own (aD (N+i)) 0 (D.k+1))=Frm.av n ((d,.ownx (N+i) (D.k+1))::F):=by rw[g3,<-Frm.pX g3'];rfl
 refine qZ (Rc:=[ncl D.x,ncl D.s]) (Wc:=[ncl D.x,N+i]) g1 ?_ ?_ s1 hF3 rfl ?_
 .intro z hz;rcases bh.1 hz with rfl|hz
  .rw[show cls (aD D.x)=ncl D.x from cP _ 0];simp
  .rw[bM.1 hz,show cls (aD D.s)=ncl D.s from cP _ 0];simp
 .intro z hz;rcases bh.1 hz with rfl|hz
  .rw[show cls (aD D.x)=ncl D.x from cP _ 0];simp
  .rw[bM.1 hz,show cls (aD (N+i))=ncl (N+i)from cP _ 0,hc0];simp
 have hcx:aD (N+i)≠aD D.x:=λe=>hxc (eL e).symm;have hpx1:aD D.pb≠aD D.x:=λe=>hpx.1 (eL e);have hpc1:aD D.pb≠aD (N+i):=λe=>hpx.2.1 (eL e);obtain⟨σ,hσ⟩:∃σ,σ=aX L.fn [(aD D.x,none),(aD (N+i),some ⟨D.ty,1,(bO D.Ls.length).map (cu D.x D.Ls [])++[.own (aD D.r) 0 D.m]⟩)] :=⟨_,rfl⟩;have s9:σ (aD (N+i))=some ⟨D.ty,1,(bO D.Ls.length).map (cu D.x D.Ls [])++[.own (aD D.r) 0 D.m]⟩:=by rw[hσ];unfold aX;simp[cL,beq_eq_false_iff_ne.2 hcx]
 have s8:∀t,t≠aD D.x->t≠aD (N+i)->σ t=L.fn t:=by intro t h1 h2;rw[hσ];unfold aX;simp[cL,beq_eq_false_iff_ne.2 h1,beq_eq_false_iff_ne.2 h2]
 rw[<-hσ];have hx3:dC (Frm.av n ((d,.ownx (N+i) (D.k+1))::F)) xn= .ptr (aD pb) po:=by rw[<-eT,l3];rfl
 have hF4:cJ (Frm.av n ((d,.ownx (N+i) (D.k+1))::F)) on'.dst (dC (Frm.av n ((d,.ownx (N+i) (D.k+1))::F)) xn)=Frm.av n ((d2,.ptr pb po)::(d,.ownx (N+i) (D.k+1))::F):=by rw[g6,<-Frm.pX g6',hx3];rfl
 refine qZ (Rc:=[]) (Wc:=[]) g4 (λz hz=>by cases hz) (λz hz=>by cases hz) (Hr (σ:=σ) g5 (by rw[hx3];rfl)) hF4 (zh _) ?_;have hx4:dC (Frm.av n ((d2,.ptr pb po)::(d,.ownx (N+i) (D.k+1))::F)) xf= .ptr (aD pb2) po2:=by rw[<-eT,m1];rfl
 obtain⟨r4,s4,rfl⟩:∃r,bB X.P of' (dC (Frm.av n ((d2,.ptr pb po)::(d,.ownx (N+i) (D.k+1))::F))) σ (N+(i+1+1)) r [] []/\r= .ptr (aD pb2) (po2+q.1):=
  FS (K:=λr=>r= .ptr (aD pb2) (po2+q.1)) i2 ⟨q,j3,by rw[hx4]⟩
 have hF5:cJ (Frm.av n ((d2,.ptr pb po)::(d,.ownx (N+i) (D.k+1))::F)) of'.dst (.ptr (aD pb2) (po2+q.1))=Frm.av n ((d3,.ptr pb2 (po2+q.1))::(d2,.ptr pb po)::(d,.ownx (N+i) (D.k+1))::F):=by rw[i3,<-Frm.pX i3'];rfl
 refine qZ (Rc:=[]) (Wc:=[]) i1 (λz hz=>by cases hz) (λz hz=>by cases hz) s4 hF5 (zh _) ?_;have hx5:dC (Frm.av n ((d3,.ptr pb2 (po2+q.1))::(d2,.ptr pb po)::(d,.ownx (N+i) (D.k+1))::F)) xs= .ptr (aD D.pb) D.off:=by rw[<-eT,m2];rfl
 have hy5:dC (Frm.av n ((d3,.ptr pb2 (po2+q.1))::(d2,.ptr pb po)::(d,.ownx (N+i) (D.k+1))::F)) ys= .own (aD (N+i)) 0 D.k2:=by rw[<-eT,m3];rfl
 obtain⟨r5,R5,W5,s5,rfl,rfl,rfl⟩:∃r R W,bB X.P os (dC (Frm.av n ((d3,.ptr pb2 (po2+q.1))::(d2,.ptr pb po)::(d,.ownx (N+i) (D.k+1))::F))) σ (N+(i+1+1+1)) r R W/\r= .undef/\R=[aD D.pb]/\W=[(aD D.pb,some ⟨D.bty,0,(avs D.bcs).set D.off (.own (aD (N+i)) 0 D.k2)⟩)] :=by refine E1 (K:=λr R W=>r= .undef/\R=[aD D.pb]/\W=[(aD D.pb,some ⟨D.bty,0,(avs D.bcs).set D.off (.own (aD (N+i)) 0 D.k2)⟩)]) i5 ?_;rw[hx5,hy5];exact⟨_,[.own (aD (N+i)) 0 D.k2],(s8 _ hpx1 hpc1).trans hfb,rfl,by rw[o6];rfl,p1,by rw[fh];exact p2,rfl,rfl,rfl⟩
 refine qZ (Rc:=[ncl D.pb]) (Wc:=[ncl D.pb]) i4 ?_ ?_ s5 (by rw[i6,cJ]) rfl ?_
 .intro z hz;rw[bM.1 hz,show cls (aD D.pb)=ncl D.pb from cP _ 0];simp
 .intro z hz;rw[bM.1 hz,show cls (aD D.pb)=ncl D.pb from cP _ 0];simp
 refine vu (hK _ _ _ e1 ?_);have hup:∀t,t≠aD D.pb->aX σ [(aD D.pb,some ⟨D.bty,0,(avs D.bcs).set D.off (.own (aD (N+i)) 0 D.k2)⟩)] t=σ t:=λt ht=>by unfold aX;simp[cL,beq_eq_false_iff_ne.2 ht]
 refine⟨_,_,Wu (c:=N+i) (m:=D.m) k1 l1 f2 m4 ((hup _ (Ne.symm hpc1)).trans s9) (by unfold aX;simp[cL]) (λt h1 h2 h3=>(hup t h3).trans (s8 t h1 h2)) n2 p2 hxc e6 e7 e8 e4 (Hl e5) (Frm.eH _ _) (λt ht=> ?_) e3,tG ?_,?_,⟨[_,_,_,_],rfl⟩,hG⟩
 .rcases nZ ((d3,.ptr pb2 (po2+q.1))::(d2,.ptr pb po)::(d,.ownx (N+i) (D.k+1))::F) t (gO N' [D.x,N+i,D.r] ((d3,.ptr pb2 (po2+q.1))::(d2,.ptr pb po)::(d,.ownx (N+i) (D.k+1))::F) ((d3,.ptr pb2 (po2+q.1))::(d2,.ptr pb po)::(d,.ownx (N+i) (D.k+1))::F))with h1|⟨h1,h2⟩
  .exact .inl h1
  .right;rw[h2];exact⟨(wK t).resolve_left h1,Frm.fi ht⟩
 .intro t;rw[Frm.cd];split
  .trivial
  .rw[Frm.cd];split
   .trivial
   .rw[Frm.cd];split
    .trivial
    .exact hF t
 .refine⟨(gO N' [D.x,N+i,D.r] ((d3,.ptr pb2 (po2+q.1))::(d2,.ptr pb po)::(d,.ownx (N+i) (D.k+1))::F) ((d3,.ptr pb2 (po2+q.1))::(d2,.ptr pb po)::(d,.ownx (N+i) (D.k+1))::F)).map (λd=>(d,SV.any))++[(d3,.ptr pb2 (po2+q.1)),(d2,.ptr pb po),(d,.ownx (N+i) (D.k+1))],by simp,λu hu=> ?_⟩;rcases eK.1 hu with hu|hu
  .obtain⟨d',hd',rfl⟩:=cF.1 hu;exact(mem_iff d' dl).1 (dH e2 d' hd')
  .simp only[bh,dg,or_false]at hu;rcases hu with rfl|rfl|rfl
   .exact hdl _ (.inr (.inr i3))
   .exact hdl _ (.inr (.inl g6))
   .exact hdl _ (.inl g3)
def CU(n N' c:Nat)(ity:TypeId)(lt:LT)(dl:List Nat)(ops:List Oper)(F:Frm)(L:aJ)(G:Frm->aJ->Fm):Fm:=match(ops.getLast?).bind λo=>match o.op with| .store _ xs _=>some xs|_=>none with
 |some xs=>(match cA n F xs with
  | .ptr pb off=>(match L.at pb,L.at c with
    |some (.box bty bcs),some (.arr ty 1 [.nil])=>(match bcs[off]? with
     |some (.ownx c' k)=>(match gp c' c,dG (ncl c) N',gH N' [c] pb,cw (ij N' [c]) (bcs.set off .undef),mR N' [c] [c,pb] L,cw (mem dl) (gO N' [c] F F)with
      |true,true,true,true,true,true=>G (((gO N' [c] F F).map λd=>(d,SV.any))++F) ((c,some (.fam ty ity lt [[]] []))::(pb,some (.box bty (bcs.set off (.owF c k))))::L)
      |_,_,_,_,_,_=> .stuck 998010)
     |_=> .stuck 998011)
    |_,_=> .stuck 998012)
  |_=> .stuck 998013)
 |none=> .stuck 998014
def XI{n N0 N' c:Nat}{ity:TypeId}{lt:LT}{dl:List Nat}{ops:List Oper}{F:Frm}{L:aJ}{G:Frm->aJ->Fm}(hF:F.ok)(h:(CU n N' c ity lt dl ops F L G).holds):
  ∃F' L',cZ (F.av n) L.fn N0 (F'.av n) L'.fn N'/\F'.ok/\Pre (λd=>d∈dl) F F'/\eC L L'/\(G F' L').holds:=by
 unfold CU at h;split at h
 case h_2=>exact h.elim
 split at h
 case h_2=>exact h.elim
 split at h
 case h_2=>exact h.elim
 rename_i bty bcs ty hb hc;split at h
 case h_2=>exact h.elim
 rename_i c' k hof;split at h
 case h_2=>exact h.elim
 rename_i e1 e2 e3 e4 e5 e6;have e1:=lu e1;subst e1;refine⟨_,_,Vf hc hb ((dc _ _).1 e2) hof e3 (Hl e4) (Frm.eH _ _) (λt ht=> ?_) e5,tG hF,⟨_,rfl,λu hu=> ?_⟩,⟨[_,_],rfl⟩,h⟩
 .rcases nZ F t (gO N' [c'] F F)with h1|⟨h1,h2⟩
  .exact .inl h1
  .right;rw[h2];exact⟨(wK t).resolve_left h1,Frm.fi ht⟩
 .obtain⟨d',hd',rfl⟩:=cF.1 hu;exact(mem_iff d' dl).1 (dH e6 d' hd')
def hkF(X:Cx)(n b k g:Nat)(ity:TypeId)(lt:LT):kB:=λid ops draw F L N K=>match draw,gp id b,gp id g with
 |false,true,_=>some (match gOk ops with
  |true=>dj X n (λ_=>false) N (ops.map (·.dst)) ops 0 F L [] λF L _=>CU n (N+ops.length) (N+k) ity lt (ops.filterMap (·.dst)) ops F L λF L=>K F L (N+ops.length)
  |false=> .stuck 998020)
 |true,_,true=>(match ops.drop (ops.length-4)with
  |[oa,on',of',os] =>some (match X.P.follows .mixedOrders,rN ops (pY ops),dOk ops n with
   |true,true,true=>dj X n (λ_=>false) N (ops.map (·.dst)) (ops.take (ops.length-4)) 0 F L [] λF L log=>CP X n (N+ops.length) (ops.filterMap (·.dst)) (pY ops) F L log (N+(0+(ops.take (ops.length-4)).length)) oa on' of' os λF L=>K F L (N+ops.length)
   |_,_,_=> .stuck 998021)
  |_=>none)
 |_,_,_=>none
def ZY{X:Cx}(hX:X.Ok){n b k g:Nat}{ity:TypeId}{lt:LT}(r:Nat×Array Oper×Bool):xd X n (hkF X n b k g ity lt) r:=by
 obtain⟨id,ops,draw⟩:=r;intro F L N K f hf h hF;unfold hkF at hf;have hds:∀o'∈ops.toList,o'.dst∈ops.toList.map (·.dst):=λo' ho=>cF.2 ⟨o',ho,rfl⟩;have hasg:∀d,some d∈ops.toList.map (·.dst)->d∈asg (.region id ops draw):=λd hd=>by obtain⟨o',ho,e⟩:=cF.1 hd;exact kF.2 ⟨o',ho,e⟩
 split at hf
 .rename_i h1 h2;have h1:draw=false:=h1;subst h1;cases hf;split at h
  case h_2=>exact h.elim
  rename_i hg;refine .inr (.inl ⟨rfl,0,eI ?_ (iM hX ops.toList 0 F L [] hds hF h)⟩);rintro FA LA log ⟨F1,L1,rfl,rfl,hF1,hp1,hl1,h1⟩;obtain⟨F2,L2,hw,hF2,hp2,hl2,hG⟩:=XI (N0:=N+ops.size) hF1 h1;refine⟨_,_,_,hw,rfl,F2,L2,rfl,rfl,hF2,(hp1.mono λd hd=>hasg d hd).trans (hp2.mono λd hd=>hd),hl1.trans hl2,hG⟩
 .rename_i h1 h2;have h1:draw=true:=h1;subst h1;split at hf
  case h_2=>cases hf
  rename_i oa on' of' os h4;cases hf;split at h
  case h_2=>exact h.elim
  rename_i q1 q2 q3;dsimp only at h h4 q2 q3;have hops:ops.toList=ops.toList.take (ops.toList.length-4)++[oa,on',of',os] :=by rw[<-h4,oU]
  have hd1:∀o'∈ops.toList.take (ops.toList.length-4),o'.dst∈ops.toList.map (·.dst):=λo' ho=>hds o' (List.mem_of_mem_take ho);have hd2:∀o'∈[oa,on',of',os],o'∈ops.toList:=λo' ho=>by rw[hops];exact fq _ ho
  refine .inr (.inr ⟨rfl,_,q1,q2,by rw[Frm.eH];exact q3,?_⟩);have hcut:∀l:List Oper,l=ops.toList.take (ops.toList.length-4)++[oa,on',of',os]->∀Kf:List AV->Sto->dX->Prop,cN X.P N (ops.toList.map (·.dst)) (ops.toList.take (ops.toList.length-4)++[oa,on',of',os]) 0 (F.av n) L.fn [] Kf->cN X.P N (ops.toList.map (·.dst)) l 0 (F.av n) L.fn [] Kf:=λl e Kf hh=>by rw[e];exact hh
  refine hcut _ hops _ (G4 _ λK1 hK1=>eI ?_ (iM hX (ops.toList.take (ops.toList.length-4)) 0 F L [] hd1 hF h));rintro FA LA log ⟨F1,L1,rfl,rfl,hF1,hp1,hl1,h1⟩;refine hK1 _ _ _ (Wt hF1 (λd hd=> ?_) h1 ?_)
  .rcases hd with hd|hd|hd
   .exact kF.2 ⟨oa,hd2 _ (by simp),hd⟩
   .exact kF.2 ⟨on',hd2 _ (by simp),hd⟩
   .exact kF.2 ⟨of',hd2 _ (by simp),hd⟩
  .rintro FA σ log' hfe ⟨F2,L2,hw,hF2,hp2,hl2,hG⟩;exact⟨hfe,_,_,_,hw,rfl,F2,L2,rfl,rfl,hF2,(hp1.mono λd hd=>hasg d hd).trans (hp2.mono λd hd=>hd),hl1.trans hl2,hG⟩
 .cases hf
end
noncomputable section
def ZM:MTy aH 101:=⟨104,43,by kernel_rfl,ZN,λw=>by kernel_rfl⟩
def Ye{X:Cx}(hX:X.Ok){α:Type}{D:α->Nat->InD}(hD:∀x,n8 X (D x)){H:kB}{raw:Nat->Nat->Bool}{f:Nat}(hH:∀(fn:Func) (c:Code),X.P.funcs[f]? =some fn->fn.body=some c->nk X fn.ntmps H c){A:Arl α}{pre:α->List Prop}{res:α->SV}(ann:α->List (Nat×Ann))(hr:∀x,∃q,(res x).av= .p q)
  (h:∀x,kA (pre x)->(q8 X (D x) H true raw f (ann x) (A.enc x) λn rs=>xk X.P n rs (res x)).holds):(con A pre res).Ok X.P f:=by
 intro s x hd hp;obtain⟨B,hB⟩:=A.pl x;obtain⟨q,hq⟩:=hr x;obtain⟨hok,fn,c,L0,N0,hf,hb,h0,hw⟩:=vv hX (hD x) (Q:=λrs=>ra X.P rs q) hB hH (λn rs e F L N hh=>Ag hq hh) (h x (fH.2 hp));exact⟨B,q,by rw[A.ok s x hd,hB],hq,vT hok hf hb h0 hw⟩
def Cn(X:Cx)(a48 a54 un:List SV->aJ->List (Nat×Ann)):Nat->InD:=λf=>match ae f 54 with
 |true=>⟨hkF X 204 3 2 17 43 .Q,au,a54⟩
 |false=>(match ae f 118 with
  |true=>⟨l8,au,un⟩
  |false=>⟨l8,au,a48⟩)
def aBu:(aH.funcs[54]?).map (·.ntmps)=some 204:=by kernel_rfl
def aBv:(aH.funcs[13]?).map (·.ntmps)=some 123:=by kernel_rfl
def YM{X:Cx}(hX:X.Ok)(hP:X.P=aH){a48 a54 un:List SV->aJ->List (Nat×Ann)}:n8 X (Cn X a48 a54 un):=by
 intro f fn c hf hb;unfold Cn;cases h1:ae f 54 with
 |true=>
  have h1:=bp h1;subst h1;have e:fn.ntmps=204:=by have:=aBu;rw[<-hP,hf]at this;simpa using this
  rw[e];exact λr _=>ZY hX r
 |false=>
  cases h2:ae f 118 with
  |true=>exact nF _ _ _
  |false=>exact nF _ _ _
def Za{X:Cx}(hX:X.Ok)(hP:X.P=aH):∀(fn:Func) (c:Code),X.P.funcs[13]? =some fn->fn.body=some c->nk X fn.ntmps (hkM X 101 123) c:=by
 intro fn c hf hb;have e:fn.ntmps=123:=by have:=aBv;rw[<-hP,hf]at this;simpa using this
 rw[e];exact λr _=>ZX hX (by rw[hP];exact ZM) r
def WD{P:Program}{fr:Bool}{f:FuncId}{A1 qs:List PV}{r:PV}(h:Sat P fr f (A1++bS qs.length .junk) r):Sat P fr f (A1++qs) r:=by
 refine⟨h.1,λC w vs hC hv=>h.2 C w vs hC ?_⟩;have key:∀(l1 l2:List PV) (vs:List Value),bK C (l1++l2) vs->bK C (l1++bS l2.length .junk) vs:=by
  intro l1;induction l1 with
  |nil=>
   intro l2;induction l2 with
   |nil=>intro vs h;exact h
   |cons y l2 ih=>
    intro vs h;obtain⟨v,r,e,_,h2⟩:=h;exact⟨v,r,e,trivial,ih r h2⟩
  |cons x l1 ih=>
   intro l2 vs h;obtain⟨v,r,e,h1,h2⟩:=h;exact⟨v,r,e,h1,ih l2 r h2⟩
 exact key A1 qs vs hv
def C4{α β:Type}(A:Arl α)(p:α->List Prop)(r:α->SV)(B:Arl β)(q:β->List Prop)(s:β->SV):Con:=⟨α ⊕ β,λl=>match A.dec l with
 |some a=>some (.inl a)
 |none=>(match B.dec l with|some b=>some (.inr b)|none=>none),λx=>match x with| .inl a=>p a| .inr b=>q b,.val false λx=>match x with| .inl a=>r a| .inr b=>s b⟩
def IW{P:Program}{f:Nat}{α β:Type}{A:Arl α}{p:α->List Prop}{r:α->SV}{B:Arl β}{q:β->List Prop}{s:β->SV}(h1:(con A p r).Ok P f)(h2:(con B q s).Ok P f):(C4 A p r B q s).Ok P f:=by
 intro l x hd hp;change (match A.dec l with|some a=>some (Sum.inl a)|none=>(match B.dec l with|some b=>some (Sum.inr b)|none=>none))=some x at hd;split at hd
 .rename_i a ha;cases hd;exact h1 l a ha hp
 .split at hd
  .rename_i b hb;cases hd;exact h2 l b hb hp
  .cases hd
end
def aPF:Ar (List Int) where
 enc l:= .pro [.lst .I l] 0
 dec s:=match s with
  | .pro [.lst .I l] 0=>some l
  |_=>none
 ok s a h:=by grind
 pl _:=⟨_,rfl⟩
def aJk:Ar Unit where
 enc _:= .junk
 dec s:=match s with
  | .junk=>some ()
  |_=>none
 ok s a h:=by grind
 pl _:=⟨_,rfl⟩
noncomputable def aAY:Con:=con (ac aN (ac aPF (ac aJk (ac aJk (ac aJk (a1 aJk)))))) (λ(j,l,_,_,_,_)=>[l.length<=1000000,j<l.length,0<=aM l j]) (λ(j,l,_,_,_,_)=> .int .i64 (aM l j)
 )
def aAE:aAY.Ok aH 118:=bA (a7 wh) (raw:=au) (λ(_,_,_,_,_,_)=>[]) (λ(_,_,_,_,_,_)=>⟨_,rfl⟩) λ(j,l,u1,u2,u3,u4) hp=>aw (q:=ix (j:Int) l.length/\(aM l j<0->ix (j:Int) l.length/\False)/\
 (¬aM l j<0->ix (j:Int) l.length/\aM l j=aM l j)) (by kernel_rfl) (by
  change l.length<=1000000/\j<l.length/\0<=aM l j at hp;obtain⟨hl,hj,h0⟩:=hp;have e:ix (j:Int) l.length:=by unfold ix;omega
  exact⟨e,λh=>by omega,λ_=>⟨e,rfl⟩⟩)
noncomputable def C2:List SV->Option (Int×List Int×List PV)
 |[.int .i64 j,.pro [.lst .I l] 0,a,b,c,d] =>(match bJ (avs [a,b,c,d])with|some q=>some (j,l,q)|none=>none)
 |_=>none
noncomputable def My:Con:=⟨Int×List Int×List PV,C2,λ(j,l,_)=>[l.length<=1000000,0<=j/\j<l.length,0<=aM l j.toNat],.val false λ(j,l,_)=> .int .i64 (aM l j.toNat)⟩
def aAD:My.Ok aH 118:=by
 intro s x hd hp;change C2 s=some x at hd;unfold C2 at hd;split at hd
 case h_2=>cases hd
 rename_i j l a b c d;split at hd
 case h_2=>cases hd
 rename_i q hq;cases hd;obtain⟨h1,h2,h3⟩:=fH.2 hp;obtain⟨n,rfl⟩:=yb h2.1;have hn:(n:Int).toNat=n:=rfl;rw[hn]at h3;have hql:q.length=4:=by have h4:=congrArg List.length (fR hq);rw[fh,eB]at h4;exact h4.symm
 obtain⟨A,r,hA,hr,hS⟩:=aAE [.int .i64 (n:Int),.pro [.lst .I l] 0,.junk,.junk,.junk,.junk] (n,l,(),(),(),()) rfl (fH.1 ⟨h1,by omega,h3⟩);have hA2:A=[.int .i64 (n:Int),.pro [.sl l.length (LT.I.enc l)] 0] ++bS q.length .junk:=by have h5:avs [SV.int .i64 (n:Int),.pro [.lst .I l] 0,.junk,.junk,.junk,.junk] =([.int .i64 (n:Int),.pro [.sl l.length (LT.I.enc l)] 0] ++bS 4 .junk:List PV).map .p:=rfl;rw[h5]at hA;have:=congrArg bJ hA;rw[cW,cW]at this;cases this;rw[hql]
 have hr2:r= .int .i64 (aM l n):=by have h6:(SV.int .i64 (aM l n)).av= .p r:=hr;cases h6;rfl
 subst hA2;subst hr2;refine⟨[.int .i64 (n:Int),.pro [.sl l.length (LT.I.enc l)] 0] ++q,_,?_,rfl,WD hS⟩;show avs ([SV.int .i64 (n:Int),.pro [.lst .I l] 0] ++[a,b,c,d])=_;rw[lr,fR hq,d7];rfl
noncomputable def By:Tab:=ap [(118,My)] Bx
def wi:By.Ok aH:=aq wh ⟨aAD,trivial⟩
def ofC(k:Int)(o c:List Int):Nat->List Int
 |0=>o
 |j+1=>(ofC k o c j).set (aM c j).toNat k
abbrev PhA:=List Int×List Int×List (List (List Int))
def ph1(p:Pl):Nat->PhA
 |0=>(bS (cyP p aC).length 0,bS (2*p.es.length) 0,[[]])
 |k+1=>if inP p (aO (cyP p aC) k) (lvP p aC)=true
   then((ph1 p k).1.set k (-1),ofC k (ph1 p k).2.1 (aO (cyP p aC) k) (aO (cyP p aC) k).length,(ph1 p k).2.2)
   else(((ph1 p k).1.set k (-1)).set k ((ph1 p k).2.2.length:Int),ofC k (ph1 p k).2.1 (aO (cyP p aC) k) (aO (cyP p aC) k).length,(ph1 p k).2.2++[[aO (cyP p aC) k]])
def bwQ(p:Pl)(c:List Int):Int:=bwP p (aQ p.vs (bv p c).toNat)
def fdP(p:Pl)(o fa c:List Int)(k:Nat):List Int:=
 if aM fa k<0 then(if 0<=bwQ p c then(fa.set k 0).set k (aM (fa.set k 0) (aM o (bwQ p c).toNat).toNat)else fa.set k 0)else fa
def ouP(fa:List Int)(fs:List (List (List Int)))(c:List Int)(k:Nat):Bool:=decide (0<aM fa k)&&(decide (0<(bl fs (aM fa k).toNat).length)&&decide (aM (aO (bl fs (aM fa k).toNat) 0) 0=aM c 0))
abbrev PhB:=List Int×List (List (List Int))
def ph2(p:Pl):Nat->PhB
 |0=>((ph1 p (cyP p aC).length).1,(ph1 p (cyP p aC).length).2.2)
 |k+1=>if ouP (ph2 p k).1 (ph2 p k).2 (aO (cyP p aC) k) k=true
   then(fdP p (ph1 p (cyP p aC).length).2.1 (ph2 p k).1 (aO (cyP p aC) k) k,(ph2 p k).2)
   else(fdP p (ph1 p (cyP p aC).length).2.1 (ph2 p k).1 (aO (cyP p aC) k) k,
    (ph2 p k).2.set (aM (fdP p (ph1 p (cyP p aC).length).2.1 (ph2 p k).1 (aO (cyP p aC) k) k) k).toNat
     (bl (ph2 p k).2 (aM (fdP p (ph1 p (cyP p aC).length).2.1 (ph2 p k).1 (aO (cyP p aC) k) k) k).toNat++[aO (cyP p aC) k]))
def ph3(p:Pl)(o fa:List Int):Nat->List Ed
 |0=>p.es
 |e+1=>(ph3 p o fa e).set e {aP (ph3 p o fa e) e with lf:=aM fa (aM o (2*e)).toNat,rt:=aM fa (aM o (2*e+1)).toNat}
def dR(p:Pl):Pl:=⟨p.sg,p.vs,ph3 p (ph1 p (cyP p aC).length).2.1 (ph2 p (cyP p aC).length).1 p.es.length,(ph2 p (cyP p aC).length).2⟩
def fZ:Nat->(Nat->Option Ob)->AV->Option PV
 |_,_,.p x=>if flat1 x=true then some x else none
 |_,_,.nil=>some (.sl 0 [])
 |d+1,σ,.own s o m=>(σ s).bind λob=>(cM (fZ d σ) ob.cells).map λl=> .sl m ((l.drop o).take (m*ob.esz))
 |d+1,σ,.ptr s off=>(σ s).bind λob=>(cM (fZ d σ) ob.cells).map λl=> .pro l off
 |d+1,σ,.agg l=>(cM (fZ d σ) l).map .agg
 |d+1,σ,.fn f a b=>(cM (fZ d σ) a).bind λx=>(cM (fZ d σ) b).map λy=> .fn f x y
 |_,_,_=>none
section
variable {P:Program}
def UR{C0:bG}{ρ:Ren}{g σ:Nat->Option Ob}{w:World}{B:Nat}(hs:StR C0 ρ g w B)(T:bG)(S:Nat->Prop)(hT:∀s ob b c,S s->g s=some ob->ρ s=some (some b,c)->B<=b->∀o v,w.cell? ⟨b,o,none⟩=some v->T b o v):∀(d:Nat) (x:AV) (y:PV) (v:Value),fZ d σ x=some y->(∀s∈bc d σ x,S s/\g s=σ s)->aU ρ (ak C0 B w ρ g) x v->a8 T y v:=by
 intro d;induction d with
 |zero=>
  intro x y v h hr hx;unfold fZ at h;split at h<;>first|(cases h;done)|skip
  .split at h<;>cases h;rename_i hf;exact sY hf hx
  .cases h;unfold aU at hx;unfold a8;grind
  all_goals (rename_i e;cases e)
 |succ d ih=>
  have ihL:∀(l:List AV) (m:List PV) (vs:List Value),cM (fZ d σ) l=some m->(∀s∈bD (bc d σ) l,S s/\g s=σ s)->ao ρ (ak C0 B w ρ g) l vs->bK T m vs:=by
   intro l m vs h hr hv;obtain⟨h1,h2⟩:=jM h;refine bK.of _ _ (by rw[<-h1];exact hv.length) λi y hi=> ?_;have hlt:i<l.length:=by rw[h1];grind
   obtain⟨y',h3,h4⟩:=h2 i l[i] (by grind);rw[hi]at h3;cases h3;obtain⟨v,h5,h6⟩:=hv.get _ _ i l[i] (by grind);exact⟨v,h5,ih _ _ v h4 (λs hs'=>hr s (jl (by grind) hs')) h6⟩
  have ihC:∀(s b c:Nat) (ob:Ob) (m:List PV),S s->g s=some ob->ρ s=some (some b,c)->cM (fZ d σ) ob.cells=some m->(∀s∈bD (bc d σ) ob.cells,S s/\g s=σ s)->cj T m b 0:=by
   intro s b c ob m hS h1 h2 h3 h4;obtain⟨hBb,arr,hO⟩:=hs.at h1 h2;obtain⟨g1,g2⟩:=jM h3;refine cj.of _ _ _ λi y hi=> ?_;have hlt:i<ob.cells.length:=by rw[g1];grind
   obtain⟨y',h5,h6⟩:=g2 i ob.cells[i] (by grind);rw[hi]at h5;cases h5;obtain⟨v,k1,k2,k3⟩:=hO.cells i ob.cells[i] (by grind);refine⟨v,?_,k2,ih _ _ v h6 (λs hs'=>h4 s (jl (by grind) hs')) k3⟩;refine hT s ob b c hS h1 h2 hBb _ _ ?_;rw[gc,hO.cell];exact k1
  intro x y v h hr hx;unfold fZ at h;split at h
  .split at h<;>cases h;rename_i hf;exact sY hf hx
  .cases h;unfold aU at hx;unfold a8;grind
  .rename_i σ _ _ _ d' s o m e;cases e;simp only[kE,iT]at h;obtain⟨ob,h1,l,h2,rfl⟩:=h;have hg:g s=some ob:=(hr s (by simp[bc])).2.trans h1;have hSs:=(hr s (by simp[bc])).1;have hr2:∀s'∈bD (bc d σ) ob.cells,S s'/\g s'=σ s':=λs' hs'=>hr s' (by simp only[bc,h1];grind);unfold a8;obtain⟨q,c,hq,⟨rfl,hv,rfl,rfl⟩|⟨b,o',c',rfl,hv,h5,h6,h7⟩⟩:=hx
   .grind
   .refine⟨_,c',hv,h5,(by grind),λad e=> ?_⟩;cases e;by_cases hm:m=0
    .subst hm;simp;trivial
    .have e:=h6 hm;have:=((ihC s b c ob l hSs hg hq h2 hr2).drop o').take (m*ob.esz);grind
  .rename_i σ _ _ _ d' s off e;simp only[kE,iT]at h;obtain⟨ob,h1,l,h2,rfl⟩:=h;have hg:g s=some ob:=(hr s (by simp[bc])).2.trans h1;have hSs:=(hr s (by simp[bc])).1;have hr2:∀s'∈bD (bc d σ) ob.cells,S s'/\g s'=σ s':=λs' hs'=>hr s' (by simp only[bc,h1];grind);unfold aU at hx;unfold a8;grind
  .rename_i d' l e;cases e;simp only[iT]at h;obtain⟨m,h2,rfl⟩:=h;obtain⟨vs,h3,h4,h5⟩:=hx;exact⟨vs,h3,ihL l m vs h2 (λs hs'=>hr s hs') h4,h5⟩
  .rename_i d' f a b e;cases e;simp only[kE,iT]at h;obtain⟨x1,h1,x2,h2,rfl⟩:=h;obtain⟨vs1,vs2,h3,h4,h5⟩:=hx;exact⟨vs1,vs2,h3,ihL a x1 vs1 h1 (λs hs'=>hr s (f7 _ hs')) h4,ihL b x2 vs2 h2 (λs hs'=>hr s (fq _ hs')) h5⟩
  .cases h
def Ci(P:Program)(rs:List ResultVar)(r:PV):jw:=λe F L _=>match e with
 | .normal| .ret=>fV P rs F L λl=>∃m,cM (fZ 3 L) l=some m/\jX m=r
 |_=>False
def TC{f:FuncId}{fn:Func}{c:Code}{A:List PV}{r:PV}(hok:fy P f=true)(hf:P.funcs[f]? =some fn)(hb:fn.body=some c)
  {L0:Sto} {N0:Nat} (h0:mF L0 N0) (h:awp P c (Ci P fn.results.toList r) (A.map .p++bS (fn.ntmps-A.length) .undef) L0 N0):Sat P true f A r:=by
 refine⟨hok,λC w vs hC hrep=> ?_⟩;obtain⟨ρ0,z1,z2,z3⟩:=h0.st hC;have hlen:=hrep.length;refine calls_of_wp hf hb (wp_mono (vr (C0:=C) (B:=w.heap.size) (wI:=w) c _ _ _ _ _ _ h ?_) ?_)
 .refine⟨⟨ρ0,z1,z2,λt=> ?_⟩,az _,rfl,by simp[hlen],Below.refl _ _⟩;by_cases ht:t<A.length
  .have e1:(A.map AV.p++bS (fn.ntmps-A.length) AV.undef).getD t .any= .p A[t] :=by rw[bq,iL (by grind)];simp[ht]
   obtain⟨v,h1,h2⟩:=hrep.get _ _ t A[t] (by grind);have e2:(vs.toArray++kY (fn.ntmps-vs.toArray.size) undef).getD t undef=v:=by rw[fW,yR (by simp;omega)];simp[h1]
   rw[e1];rw[e2];refine a8.mono (λb o x hx=>⟨hC b o x hx,by grind,.inr hx⟩) _ v h2
  .by_cases ht2:t<A.length+(fn.ntmps-A.length)
   .have e1:(A.map AV.p++bS (fn.ntmps-A.length) AV.undef).getD t .any= .undef:=by rw[bq,iU (by simp;omega),jf,if_pos (by simp;omega)];rfl
    have e2:(vs.toArray++kY (fn.ntmps-vs.toArray.size) undef).getD t undef=undef:=by rw[fW,Array.getElem?_append_right (by simp;omega),Array.getElem?_replicate];split<;>rfl
    rw[e1];rw[e2];rfl
   .have e1:(A.map AV.p++bS (fn.ntmps-A.length) AV.undef).getD t .any= .any:=by rw[bq,eQ (by simp;omega)];rfl
    rw[e1];trivial
 .rintro e a w' ⟨F,L,N,hq,⟨ρ,s1,s2,s3⟩,s4,s5,s6,s7⟩;have fin:fV P fn.results.toList F L (λl=>∃m,cM (fZ 3 L) l=some m/\jX m=r)->a.defers=[]/\∃v,(results fn a.tmps).run P w'= .ok v w'/\∃v',Ending.returned v= .returned v'/\a8 (λb o x=>((true:Bool)=false/\C b o x)\/(w.heap.size<=b/\w'.cell? ⟨b,o,none⟩=some x)) r v'/\Below w.heap.size w w':=by
   intro h;refine⟨s5,?_⟩;obtain⟨l,us,⟨m,hm,hr⟩,h2,h3⟩:=qR s1 s3 _ _ h;have hres:(results fn a.tmps).run P w'= .ok (if h:us.toArray.size=1 then us.toArray[0]else .tuple us.toArray) w':=by rw[vO,Array.mapM_eq_mapM_toList];simp only[Sem.run_bind,Sem.run_map,h2,Result.andThen_ok,Sem.run_pure]
   refine⟨_,hres,_,rfl,?_,s7⟩;obtain⟨g1,g2⟩:=jM hm;have hrl:bK (λb o x=>((true:Bool)=false/\C b o x)\/(w.heap.size<=b/\w'.cell? ⟨b,o,none⟩=some x)) m us:=by
    refine bK.of _ _ (by rw[<-g1];exact h3.length) λi y hi=> ?_;have hlt:i<l.length:=by rw[g1];grind
    obtain⟨y',h5,h6⟩:=g2 i _ (dA hlt);rw[hi]at h5;cases h5;obtain⟨v,k1,k2⟩:=h3.get _ _ i _ (dA hlt);exact⟨v,k1,UR s1 _ (λ_=>True) (λs ob b c _ _ _ hb o v h=> .inr ⟨hb,h⟩) 3 _ _ v h6 (λ_ _=>⟨trivial,rfl⟩) k2⟩
   rw[<-hr];cases m with
   |nil=>
    subst hrl;exact⟨[],rfl,by rfl⟩
   |cons x m=>
    cases m with
    |nil=>
     obtain⟨v,r',rfl,h7,h8⟩:=hrl;subst h8;unfold jX;grind
    |cons y m=>
     have hl:¬us.toArray.size=1:=by have:=hrl.length;simp at this;simp;omega
     unfold jX a8;grind
  cases e<;>first|exact fin hq|exact hq.elim
end
noncomputable section
open Classical in
def j8(N x c:Nat):Rf:=λt=>if cls t<N then(if t=aD x then some (some (aD c))else if t=aD c then none else some (some t))else none
def VI{N x c z:Nat}(h:gH N [x,c] z=true):ja (j8 N x c) z:=by obtain⟨h1,h2⟩:=pB h;simp only[bh,dg,or_false,not_or]at h2;intro b;unfold j8;rw[if_pos (by rw[cP];exact h1),if_neg (show¬inn z b=aD x from λe=>h2.1 (cI e).1),if_neg (show¬inn z b=aD c from λe=>h2.2 (cI e).1)]
def VH{n N0 N x c r s k m:Nat}{FA:List AV}{F':Frm}{L:aJ}{σ:Sto}{ty ity:TypeId}{lt:LT}{Ls:List (List lt.ty)}{l:List lt.ty}
  (hx:L.at x=some (.fam ty ity lt Ls [])) (hc:L.at c=none)
  (h1:σ (aD c)=some ⟨ty,1,(bO Ls.length).map (cu x Ls [])++[.own (aD r) 0 m]⟩)
  (h3:∀t,t≠aD x->t≠aD c->σ t=L.fn t) (hr:gH N [x,c] r=true)
  (hxc:x≠c) (hxN:ncl x<N) (hlen:FA.length=n)
  (hF:∀t,t<n->F'.at t= .any\/(F'.at t= .owF x k/\FA.getD t .any= .own (aD c) 0 k)\/(ij N [x,c] (F'.at t)=true/\FA.getD t .any=(F'.at t).av)) (hL:mR N [x,c] [x,s] L=true):
  cZ FA σ N0 (F'.av n) (aJ.fn ((x,some (.fam ty ity lt (Ls++[l]) [(Ls.length,.own r lt m)]))::(s,none)::L)) N:=by
 have hni:∀y z b,aD y≠inn z (b+1):=λy z b e=>by have:=(cI e).2;omega
 have mx:j8 N x c (aD x)=some (some (aD c)):=by unfold j8;rw[if_pos (by rw[show cls (aD x)=ncl x from cP x 0];exact hxN),if_pos rfl]
 have mj:∀j,j8 N x c (inn x (j+1))=some (some (inn x (j+1))):=by intro j;unfold j8;rw[if_pos (by rw[cP];exact hxN),if_neg (λe=>hni x x _ e.symm),if_neg (λe=>hni c x _ e.symm)]
 have hst:∀z,gH N [x,c] z=true->ja (j8 N x c) z:=λz=>VI;refine wF (j8 N x c) ?_ ?_ hlen (λt ht=> ?_) λy ob hy=> ?_
 .intro t y ht;unfold j8 at ht;grind
 .intro t t' o ht ht';unfold j8 at ht ht';grind
 .rcases hF t ht with e|⟨e1,e2⟩|⟨e1,e2⟩
  .rw[e];trivial
  .rw[e1,e2];exact(show dW _ (AV.own (aD x) 0 k) (AV.own (aD c) 0 k)from .inl ⟨_,mx,rfl⟩)
  .rw[e2];exact rE hst e1
 .rw[cd]at hy;by_cases e1:y=x
  .subst e1;rw[if_pos rfl]at hy;cases hy;have hlk:∀i,([(Ls.length,SV.own r lt m)] :List (Nat×SV)).lookup i=if i=Ls.length then some (.own r lt m)else none:=by
    intro i;by_cases h:i=Ls.length
    .rw[if_pos h,h];simp[cL]
    .rw[if_neg h];simp[cL,beq_eq_false_iff_ne.2 h]
   refine⟨.inl ⟨_,_,mx,h1,rfl,rfl,?_⟩,λb ob' hb'=> ?_⟩
   .show dM _ ((bO (Ls++[l]).length).map (cu y (Ls++[l]) [(Ls.length,.own r lt m)])) _;have e:(bO (Ls++[l]).length).map (cu y (Ls++[l]) [(Ls.length,.own r lt m)])=(bO Ls.length).map (cu y Ls [])++[.own (aD r) 0 m] :=by
     rw[dh,eD,sA,d7]
     congr 1
     .refine lk λi hi=> ?_;have hi:=dY.1 hi;unfold cu;rw[hlk,if_neg (by omega)];show AV.own (inn y (i+1)) 0 ((Ls++[l]).getD i []).length=AV.own (inn y (i+1)) 0 (Ls.getD i []).length;rw[bq,iL hi,<-bq]
     .show [cu y (Ls++[l]) [(Ls.length,.own r lt m)] Ls.length] =_;unfold cu;rw[hlk,if_pos rfl];rfl
    rw[e];have key:∀(A:List AV),dM (j8 N y c) A A->dM (j8 N y c) (A++[.own (aD r) 0 m]) (A++[.own (aD r) 0 m]):=by
     intro A;induction A with
     |nil=>intro _;exact⟨_,_,rfl,.inl ⟨_,hst r hr 0,rfl⟩,rfl⟩
     |cons a A ih=>
      rintro⟨u,v,e,g1,g2⟩;cases e;exact⟨_,_,rfl,g1,ih g2⟩
    refine key _ (nI _ _ _ λi hi=> ?_);exact .inl ⟨_,mj i,rfl⟩
   .have hb':(match([(Ls.length,SV.own r lt m)] :List (Nat×SV)).lookup b with|some _=>none|none=>((Ls++[l])[b]?).map (λl=>(⟨ity,lt.w,(lt.enc l).map .p⟩:Ob)))=some ob':=hb';rw[hlk]at hb';left;rcases jK b Ls.length with h|h|h
    .rw[if_neg (by omega)]at hb';have hb':((Ls++[l])[b]?).map (λl=>(⟨ity,lt.w,(lt.enc l).map .p⟩:Ob))=some ob':=hb';rw[iL h]at hb';refine⟨_,ob',mj b,?_,?_⟩
     .rw[h3 _ (λe=>hni y y b e.symm) (λe=>hni c y b e.symm)];show Sg.a L.at (inn y (b+1))=_;rw[Sg.co,hx];exact hb'
     .exact jk (o':= .fam ty ity lt Ls []) (a:=b) hb'
    .rw[if_pos h]at hb';cases hb'
    .rw[if_neg (by omega)]at hb';have hb':((Ls++[l])[b]?).map (λl=>(⟨ity,lt.w,(lt.enc l).map .p⟩:Ob))=some ob':=hb';rw[eQ (by simp;omega)]at hb';cases hb'
  .rw[if_neg e1,cd]at hy;by_cases e3:y=s
   .rw[if_pos e3]at hy;cases hy
   .rw[if_neg e3]at hy;obtain⟨g1,g2⟩:=wS hL y ob hy (by simp[e1,e3]);have hyc:y≠c:=λe=>by rw[e,hc]at hy;cases hy
    have hs:=hst y g1;refine⟨.inl ⟨_,ob.ob y,hs 0,?_,ji ob y hs λz hz=>hst z (dH g2 z hz)⟩,λb ob' hb'=> .inl ⟨_,ob',hs (b+1),?_,jk (o':=ob) hb'⟩⟩
    .rw[show inn y 0=aD y from rfl,h3 _ (λe=>e1 (eL e)) (λe=>hyc (eL e))];show Sg.a L.at (aD y)=_;rw[Sg.bW,hy];rfl
    .rw[h3 _ (λe=>hni x y b e.symm) (λe=>hni c y b e.symm)];show Sg.a L.at (inn y (b+1))=_;rw[Sg.co,hy];exact hb'
open Classical in
def pu(N x:Nat):Rf:=λt=>if t=aD x then some none else if cls t<N then some (some t)else none
def WY{n N0 N x d:Nat}{F:Frm}{L:aJ}{ty ity:TypeId}{lt:LT}{hav:List Nat}(hd:F.at d= .nil)(hx:L.at x=none)(hxN:ncl x<N)(hdh:d∉hav)
  (hF:∀t,t<n->t∈hav\/t=d\/ij N [x] (F.at t)=true) (hL:mR N [x] [] L=true):
  cZ (F.av n) L.fn N0 (Frm.av n ((d,.owF x 0)::((hav.map λd=>(d,SV.any))++F))) (aJ.fn ((x,some (.fam ty ity lt [] []))::L)) N:=by
 have hni:∀y z b,aD y≠inn z (b+1):=λy z b e=>by have:=(cI e).2;omega
 have mx:pu N x (aD x)=some none:=by unfold pu;rw[if_pos rfl]
 have hst:∀z,gH N [x] z=true->ja (pu N x) z:=by intro z hz b;obtain⟨h1,h2⟩:=pB hz;unfold pu;rw[if_neg (show¬inn z b=aD x from λe=>h2 (bM.2 (cI e).1)),if_pos (by rw[cP];exact h1)]
 refine wF (pu N x) ?_ ?_ (Frm.eH _ _) (λt ht=> ?_) λy ob hy=> ?_
 .intro t y ht;unfold pu at ht;by_cases e:t=aD x
  .rw[e,show cls (aD x)=ncl x from cP x 0];exact hxN
  .rw[if_neg e]at ht;split at ht
   .assumption
   .cases ht
 .intro t t' o ht ht';unfold pu at ht ht';grind
 .rw[Frm.fi ht,Frm.cd];by_cases e:t=d
  .rw[if_pos e,e,hd];exact(show dW _ (AV.own (aD x) 0 0) AV.nil from .inr ⟨mx,rfl,rfl,rfl⟩)
  .rw[if_neg e];rcases nZ F t hav with h1|⟨h1,h2⟩
   .rw[h1];trivial
   .rw[h2];rcases hF t ht with h|h|h
    .exact absurd h h1
    .exact absurd h e
    .exact rE hst h
 .rw[cd]at hy;by_cases e1:y=x
  .subst e1;rw[if_pos rfl]at hy;cases hy;exact⟨.inr ⟨mx,Nat.one_ne_zero,rfl⟩,λb ob' hb'=>by cases b<;>cases hb'⟩
  .rw[if_neg e1]at hy;obtain⟨g1,g2⟩:=wS hL y ob hy (by simp);have hs:=hst y g1;refine⟨.inl ⟨_,ob.ob y,hs 0,?_,ji ob y hs λz hz=>hst z (dH g2 z hz)⟩,λb ob' hb'=> .inl ⟨_,ob',hs (b+1),?_,jk (o':=ob) hb'⟩⟩
   .show Sg.a L.at (aD y)=_;rw[Sg.bW,hy];rfl
   .show Sg.a L.at (inn y (b+1))=_;rw[Sg.co,hy];exact hb'
structure SlotD where
 x:Nat
 k:Nat
 ty:TypeId
 ity:TypeId
 lt:LT
 Ls:List (List lt.ty)
 s:Nat
 r:Nat
 m:Nat
 l:List lt.ty
def CB(X:Cx)(n:Nat)(F:Frm)(L:aJ)(c:Nat)(oa om:Oper):Option (SlotD×Nat×Nat):=match oa.guard,oa.op,oa.dst,om.guard,om.op,om.dst with
 |none,.call {callee:= .builtin .append,args:=⟨[xa,ya]⟩,argTypes:=⟨[ta,tb]⟩},some d,none,.assign (.tmp d'),some e=>(match cA n F xa,cA n F ya with
  | .owF x k,.ownx s 1=>(match L.at x,L.at s with
    |some (.fam ty ity lt Ls []),some (.arr _ 1 [.own r lt2 m])=>(match L.at r with
     |some (.row ity2 lt3 l)=>(match decEq lt3 lt,gp ity2 ity,gp d d',gp d e,(bu X.P tb).isSome,bu X.P ta with
      | .isTrue h,true,true,false,true,some ty'=>(match gp ty' ty,jy X.P ty,aj X.P ty,frs L.at c,dG d n,dG e n with
        |true,true,1,true,true,true=>some (⟨x,k,ty,ity,lt,Ls,s,r,m,h▸l⟩,d,e)
        |_,_,_,_,_,_=>none)
      |_,_,_,_,_,_=>none)
     |_=>none)
    |_,_=>none)
  |_,_=>none)
 |_,_,_,_,_,_=>none
def Td{X:Cx}{n:Nat}{F:Frm}{L:aJ}{c:Nat}{oa om:Oper}{D:SlotD}{d e:Nat}(h:CB X n F L c oa om=some (D,d,e)):
  ∃xa ya ta tb ty2 lt2,oa.guard=none/\oa.op= .call {callee:= .builtin .append,args:= #[xa,ya],argTypes:= #[ta,tb]}/\oa.dst=some d/\d<n/\om.guard=none/\om.op= .assign (.tmp d)/\om.dst=some e/\e<n/\d≠e/\
   cA n F xa= .owF D.x D.k/\cA n F ya= .ownx D.s 1/\L.at D.x=some (.fam D.ty D.ity D.lt D.Ls [])/\L.at D.s=some (.arr ty2 1 [.own D.r lt2 D.m])/\L.at D.r=some (.row D.ity D.lt D.l)/\
   (bu X.P tb).isSome=true/\bu X.P ta=some D.ty/\jy X.P D.ty=true/\aj X.P D.ty=1/\frs L.at c=true:=by
 unfold CB at h;split at h
 case h_2=>cases h
 rename_i xa ya ta tb d0 d' e0 g1 g2 g3 g4 g5 g6;split at h
 case h_2=>cases h
 rename_i x k s j1 j2;split at h
 case h_2=>cases h
 rename_i ty ity lt Ls ty2 r lt2 m k1 k2;split at h
 case h_2=>cases h
 rename_i ity2 lt3 l l1;split at h
 case h_2=>cases h
 rename_i hlt ty' m1 m2 m3 m4 m5 m6;split at h
 case h_2=>cases h
 rename_i n1 n2 n3 n4 n5 n6;cases h;have m2:=lu m2;have m3:=lu m3;have m4:=zy m4;have n1:=lu n1;subst m2;subst m3;subst n1;subst hlt;exact⟨xa,ya,ta,tb,ty2,lt2,g1,g2,g3,(dc _ _).1 n5,g4,g5,g6,(dc _ _).1 n6,m4,j1,j2,k1,k2,l1,m5,m6,n2,n3,n4⟩
def CA(X:Cx)(n N':Nat)(dl:List Nat)(F:Frm)(L:aJ)(c:Nat)(oa om:Oper)(G:Frm->aJ->Fm):Fm:=match CB X n F L c oa om with
 |some (D,d,e)=>(match cw (mem dl) (gO N' [D.x,c] ((e,.undef)::(d,.undef)::F) ((e,.undef)::(d,.undef)::F)),mR N' [D.x,c] [D.x,D.s] L,gH N' [D.x,c] D.r,dG (ncl D.x) N' with
  |true,true,true,true=>needs [D.k=D.Ls.length,D.m=D.l.length,D.k+1<=1000000] (G ((e,.owF D.x (D.k+1))::(d,.owF D.x (D.k+1))::(((gO N' [D.x,c] ((e,.undef)::(d,.undef)::F) ((e,.undef)::(d,.undef)::F)).map λd=>(d,SV.any))++F)) ((D.x,some (.fam D.ty D.ity D.lt (D.Ls++[D.l]) [(D.Ls.length,.own D.r D.lt D.m)]))::(D.s,none)::L))
  |_,_,_,_=> .stuck 999001)
 |none=> .stuck 999002
def V5{X:Cx}{n N N' i:Nat}{dl:List Nat}{ds:List (Option Nat)}{F:Frm}{L:aJ}{log:dX}{oa om:Oper}{G:Frm->aJ->Fm}{K:List AV->Sto->dX->Prop}(hF:F.ok)(hdl:∀d,(oa.dst=some d\/om.dst=some d)->d∈dl)
  (h:(CA X n N' dl F L (N+i) oa om G).holds)
  (hK:∀(FA:List AV) (σ:Sto) (log':dX),(∃F' L',cZ FA σ N' (F'.av n) L'.fn N'/\F'.ok/\Pre (λd=>d∈dl) F F'/\eC L L'/\(G F' L').holds)->K FA σ log'):
  cN X.P N ds [oa,om] i (F.av n) L.fn log K:=by
 unfold CA at h;split at h
 case h_2=>exact h.elim
 rename_i D d e hD;split at h
 case h_2=>exact h.elim
 rename_i e2 e3 e6 e8;have e8:=(dc _ _).1 e8;obtain⟨hn,hG⟩:=jj h;have n1:D.k=D.Ls.length:=hn _ (by simp);have n2:D.m=D.l.length:=hn _ (by simp);have n4:D.k+1<=1000000:=hn _ (by simp);obtain⟨xa,ya,ta,tb,ty2,lt2,g1,g2,g3,g3',g4,g5,g6,g6',hde,j1,j2,k1,k2,l1,q2,q3,q4,q5,q6⟩:=Td hD;obtain⟨f1,f2⟩:=gj q6;have hcN:N+i<NM:=by
  unfold frs at q6;split at q6
  .exact(dc _ _).1 ‹_›
  .cases q6
 have hc0:=FY hcN;have hxc:D.x≠N+i:=λe=>by rw[e,f2]at k1;cases k1
 have hx:(cA n F xa).av= .own (aD D.x) 0 D.k:=by rw[j1];rfl
 have hy:(cA n F ya).av= .own (aD D.s) 0 1:=by rw[j2];rfl
 have hfx:L.fn (aD D.x)=some ⟨D.ty,1,(bO D.Ls.length).map (cu D.x D.Ls [])⟩:=by show Sg.a L.at (aD D.x)=_;rw[Sg.bW,k1];rfl
 have hfs:L.fn (aD D.s)=some ⟨ty2,1,[.own (aD D.r) 0 D.m]⟩:=by show Sg.a L.at (aD D.s)=_;rw[Sg.bW,k2];rfl
 obtain⟨r,R,W,s1,rfl,rfl,rfl⟩:∃r R W,bB X.P oa (dC (F.av n)) L.fn (N+i) r R W/\r= .own (aD (N+i)) 0 (D.k+1)/\R=[aD D.x,aD D.s]/\W=[(aD D.x,none),(aD (N+i),some ⟨D.ty,1,(bO D.Ls.length).map (cu D.x D.Ls [])++[.own (aD D.r) 0 D.m]⟩)] :=by refine td (K:=λr R W=>r= .own (aD (N+i)) 0 (D.k+1)/\R=[aD D.x,aD D.s]/\W=[(aD D.x,none),(aD (N+i),some ⟨D.ty,1,(bO D.Ls.length).map (cu D.x D.Ls [])++[.own (aD D.r) 0 D.m]⟩)]) q2 g2 ⟨D.ty,q3,q4,?_⟩;rw[q5,<-eT,<-eT,hx,hy];exact⟨_,hfx,rfl,rfl,by simp[n1],_,_,hfs,rfl,rfl,n4,by rw[f1],rfl,by rw[f1];rfl⟩
 have hF3:cJ (F.av n) oa.dst (.own (aD (N+i)) 0 (D.k+1))=Frm.av n ((d,.ownx (N+i) (D.k+1))::F):=by rw[g3,<-Frm.pX g3'];rfl
 refine qZ (Rc:=[ncl D.x,ncl D.s]) (Wc:=[ncl D.x,N+i]) g1 ?_ ?_ s1 hF3 rfl ?_
 .intro z hz;rcases bh.1 hz with rfl|hz
  .rw[show cls (aD D.x)=ncl D.x from cP _ 0];simp
  .rw[bM.1 hz,show cls (aD D.s)=ncl D.s from cP _ 0];simp
 .intro z hz;rcases bh.1 hz with rfl|hz
  .rw[show cls (aD D.x)=ncl D.x from cP _ 0];simp
  .rw[bM.1 hz,show cls (aD (N+i))=ncl (N+i)from cP _ 0,hc0];simp
 have hcx:aD (N+i)≠aD D.x:=λe=>hxc (eL e).symm;obtain⟨σ,hσ⟩:∃σ,σ=aX L.fn [(aD D.x,none),(aD (N+i),some ⟨D.ty,1,(bO D.Ls.length).map (cu D.x D.Ls [])++[.own (aD D.r) 0 D.m]⟩)] :=⟨_,rfl⟩;have s9:σ (aD (N+i))=some ⟨D.ty,1,(bO D.Ls.length).map (cu D.x D.Ls [])++[.own (aD D.r) 0 D.m]⟩:=by rw[hσ];unfold aX;simp[cL,beq_eq_false_iff_ne.2 hcx]
 have s8:∀t,t≠aD D.x->t≠aD (N+i)->σ t=L.fn t:=by intro t h1 h2;rw[hσ];unfold aX;simp[cL,beq_eq_false_iff_ne.2 h1,beq_eq_false_iff_ne.2 h2]
 rw[<-hσ];have hx3:dC (Frm.av n ((d,.ownx (N+i) (D.k+1))::F)) (.tmp d)= .own (aD (N+i)) 0 (D.k+1):=by show(Frm.av n ((d,.ownx (N+i) (D.k+1))::F)).getD d .any=_;rw[Frm.fi g3',Frm.cd,if_pos rfl];rfl
 have hF4:cJ (Frm.av n ((d,.ownx (N+i) (D.k+1))::F)) om.dst (dC (Frm.av n ((d,.ownx (N+i) (D.k+1))::F)) (.tmp d))=Frm.av n ((e,.ownx (N+i) (D.k+1))::(d,.ownx (N+i) (D.k+1))::F):=by rw[g6,<-Frm.pX g6',hx3];rfl
 refine qZ (Rc:=[]) (Wc:=[]) g4 (λz hz=>by cases hz) (λz hz=>by cases hz) (z7 (σ:=σ) (.inr g5)) hF4 (zh _) ?_;refine vu (hK _ _ _ ?_);refine⟨_,_,VH (c:=N+i) (m:=D.m) (k:=D.k+1) k1 f2 s9 s8 e6 hxc e8 (Frm.eH _ _) (λt ht=> ?_) e3,?_,?_,⟨[_,_],rfl⟩,hG⟩
 .rw[Frm.fi ht,Frm.cd,Frm.cd,Frm.cd,Frm.cd];by_cases h1:t=e
  .rw[if_pos h1,if_pos h1];exact .inr (.inl ⟨rfl,rfl⟩)
  .rw[if_neg h1,if_neg h1];by_cases h2:t=d
   .rw[if_pos h2,if_pos h2];exact .inr (.inl ⟨rfl,rfl⟩)
   .rw[if_neg h2,if_neg h2];rcases nZ F t (gO N' [D.x,N+i] ((e,.undef)::(d,.undef)::F) ((e,.undef)::(d,.undef)::F))with h3|⟨h3,h4⟩
    .exact .inl h3
    .right;right;rw[h4];have:=(wK (N:=N') (xs:=[D.x,N+i]) (F:=(e,.undef)::(d,.undef)::F) t).resolve_left h3;rw[Frm.cd,if_neg h1,Frm.cd,if_neg h2]at this;exact⟨this,rfl⟩
 .intro t;rw[Frm.cd];split
  .trivial
  .rw[Frm.cd];split
   .trivial
   .exact tG hF t
 .refine⟨(e,.owF D.x (D.k+1))::(d,.owF D.x (D.k+1))::(gO N' [D.x,N+i] ((e,.undef)::(d,.undef)::F) ((e,.undef)::(d,.undef)::F)).map (λd=>(d,SV.any)),by simp,λu hu=> ?_⟩;rcases bh.1 hu with rfl|hu
  .exact hdl _ (.inr g6)
  .rcases bh.1 hu with rfl|hu
   .exact hdl _ (.inl g3)
   .obtain⟨d',hd',rfl⟩:=cF.1 hu;exact(mem_iff d' dl).1 (dH e2 d' hd')
def hkC(X:Cx)(n b d g x:Nat)(ty ity:TypeId)(lt:LT):kB:=λid ops draw F L N K=>match draw,gp id b,gp id g with
 |false,true,_=>some (dj X n (λ_=>false) N (ops.map (·.dst)) ops 0 F L [] λF L _=>(match F.at d,L.at x,mem (gO (gr (N+ops.length) [x]) [x] F F) d,cw (mem (ops.filterMap (·.dst))) (d::gO (gr (N+ops.length) [x]) [x] F F),mR (gr (N+ops.length) [x]) [x] [] L with
  | .nil,none,false,true,true=>K ((d,.owF x 0)::(((gO (gr (N+ops.length) [x]) [x] F F).map λd=>(d,SV.any))++F)) ((x,some (.fam ty ity lt [] []))::L) (gr (N+ops.length) [x])
  |_,_,_,_,_=> .stuck 999010))
 |false,false,true=>(match ops.drop (ops.length-2)with
  |[oa,om] =>some (dj X n (λ_=>false) N (ops.map (·.dst)) (ops.take (ops.length-2)) 0 F L [] λF L _=>CA X n (N+ops.length) (ops.filterMap (·.dst)) F L (N+(0+(ops.take (ops.length-2)).length)) oa om λF L=>K F L (N+ops.length))
  |_=>none)
 |_,_,_=>none
def Xa(N x:Nat):ncl x<gr N [x] :=by
 unfold gr gr;split
 .exact(dc _ _).1 ‹_›
 .omega
def ZZ{X:Cx}(hX:X.Ok){n b d g x:Nat}{ty ity:TypeId}{lt:LT}(r:Nat×Array Oper×Bool):xd X n (hkC X n b d g x ty ity lt) r:=by
 obtain⟨id,ops,draw⟩:=r;intro F L N K f hf h hF;unfold hkC at hf;have hds:∀o'∈ops.toList,o'.dst∈ops.toList.map (·.dst):=λo' ho=>cF.2 ⟨o',ho,rfl⟩;have hasg:∀d,some d∈ops.toList.map (·.dst)->d∈asg (.region id ops draw):=λd hd=>by obtain⟨o',ho,e⟩:=cF.1 hd;exact kF.2 ⟨o',ho,e⟩
 split at hf
 .rename_i h1 h2;have h1:draw=false:=h1;subst h1;cases hf;refine .inr (.inl ⟨rfl,0,eI ?_ (iM hX ops.toList 0 F L [] hds hF h)⟩);rintro FA LA log ⟨F1,L1,rfl,rfl,hF1,hp1,hl1,h1⟩;dsimp only at h1;split at h1
  case h_2=>exact h1.elim
  rename_i c1 c2 c3 c4 c5;have c4:=λu hu=>(mem_iff u _).1 (dH c4 u hu);refine⟨_,_,_,WY (N0:=N+ops.size) c1 c2 (Xa _ _) (λhm=>by rw[(mem_iff d _).2 hm]at c3;cases c3) (λt _=>by
   rcases wK (N:=gr (N+ops.toList.length) [x]) (xs:=[x]) (F:=F1) t with h|h
   .exact .inl h
   .exact .inr (.inr h)) c5,rfl,_,_,rfl,rfl,?_,(hp1.mono λd hd=>hasg d hd).trans ⟨(d,.owF x 0)::(gO (gr (N+ops.toList.length) [x]) [x] F1 F1).map (λd=>(d,SV.any)),by simp,λu hu=> ?_⟩,hl1.trans ⟨[_],rfl⟩,h1⟩
  .intro t;rw[Frm.cd];split
   .trivial
   .exact tG hF1 t
  .rcases bh.1 hu with rfl|hu
   .exact c4 d eG
   .obtain⟨d',hd',rfl⟩:=cF.1 hu;exact c4 d' (dK _ hd')
 .rename_i h1 h2 h3;have h1:draw=false:=h1;subst h1;split at hf
  case h_2=>cases hf
  rename_i oa om h4;cases hf;dsimp only at h h4;have hops:ops.toList=ops.toList.take (ops.toList.length-2)++[oa,om] :=by rw[<-h4,oU]
  have hd1:∀o'∈ops.toList.take (ops.toList.length-2),o'.dst∈ops.toList.map (·.dst):=λo' ho=>hds o' (List.mem_of_mem_take ho);have hd2:∀o'∈[oa,om],o'∈ops.toList:=λo' ho=>by rw[hops];exact fq _ ho
  refine .inr (.inl ⟨rfl,0,?_⟩);have hcut:∀l:List Oper,l=ops.toList.take (ops.toList.length-2)++[oa,om]->∀Kf:List AV->Sto->Nat->Prop,kW X.P (ops.toList.map (·.dst)) 0 (ops.toList.take (ops.toList.length-2)++[oa,om]) 0 (F.av n) L.fn N Kf->kW X.P (ops.toList.map (·.dst)) 0 l 0 (F.av n) L.fn N Kf:=λl e Kf hh=>by rw[e];exact hh
  refine hcut _ hops _ (G4 _ λK1 hK1=>eI ?_ (iM hX (ops.toList.take (ops.toList.length-2)) 0 F L [] hd1 hF h));rintro FA LA log ⟨F1,L1,rfl,rfl,hF1,hp1,hl1,h1⟩;refine hK1 _ _ _ (V5 hF1 (λd hd=> ?_) h1 ?_)
  .rcases hd with hd|hd
   .exact kF.2 ⟨oa,hd2 _ (by simp),hd⟩
   .exact kF.2 ⟨om,hd2 _ (by simp),hd⟩
  .rintro FA σ log' ⟨F2,L2,hw,hF2,hp2,hl2,hG⟩;exact⟨_,_,_,hw,rfl,F2,L2,rfl,rfl,hF2,(hp1.mono λd hd=>hasg d hd).trans (hp2.mono λd hd=>hd),hl1.trans hl2,hG⟩
 .cases hf
def HL(d:Nat)(σ:Nat->Option Ob):∀l:List Int,cM (fZ d σ) ((LT.enc .I l).map .p)=some (LT.enc .I l)
 |[] =>rfl
 |x::l=>by
  have e:(LT.enc .I (x::l)).map AV.p= .p (.int .i64 x)::(LT.enc .I l).map .p:=rfl;rw[e];have e2:fZ d σ (.p (.int .i64 x))=some (.int .i64 x):=by cases d<;>rfl
  simp only[cM,e2,HL d σ l];rfl
def US{σ:Sg}{x n d:Nat}{ty ity:TypeId}{Ls:List (List Int)}(hs:σ x=some (.fam ty ity .I Ls []))(hn:n=Ls.length):
  fZ (d+2) σ.a (.own (aD x) 0 n)=some (.sl n (LT.Q.enc Ls)):=by
 have e1:Sg.a σ (aD x)=some ⟨ty,1,(bO Ls.length).map (cu x Ls [])⟩:=by rw[Sg.bW,hs];rfl
 have hin:∀i,i<Ls.length->fZ (d+1) σ.a (cu x Ls [] i)=some (PV.sl (Ls.getD i []).length (LT.enc .I (Ls.getD i []))):=by
  intro i hi;show fZ (d+1) σ.a (.own (inn x (i+1)) 0 (Ls.getD i []).length)=_;unfold fZ;have e:Sg.a σ (inn x (i+1))=some ⟨ity,1,(LT.enc .I (Ls.getD i [])).map .p⟩:=by rw[Sg.co,hs];show(Ls[i]?).map _=_;rw[bq,dA hi];rfl
  rw[e];simp only[kc,HL,dn,mq];rw[ir];have:=LT.I.wide.length (Ls.getD i []);rw[this];exact az _
 have e2:cM (fZ (d+1) σ.a) ((bO Ls.length).map (cu x Ls []))=some ((bO Ls.length).map λi=>PV.sl (Ls.getD i []).length (LT.enc .I (Ls.getD i []))):=by
  have key:∀l:List Nat,(∀i∈l,i<Ls.length)->cM (fZ (d+1) σ.a) (l.map (cu x Ls []))=some (l.map λi=>PV.sl (Ls.getD i []).length (LT.enc .I (Ls.getD i []))):=by
   intro l;induction l with
   |nil=>intro _;rfl
   |cons i l ih=>
    intro h;rw[cV,cM,hin i (h i eG),ih λj hj=>h j (dK _ hj)];rfl
  exact key _ λi hi=>dY.1 hi
 have e3:((bO Ls.length).map λi=>PV.sl (Ls.getD i []).length (LT.enc .I (Ls.getD i [])))=LT.Q.enc Ls:=by
  show _=Ls.flatMap λr=>[PV.sl r.length (oG r)];rw[vo (λr:List Int=>PV.sl r.length (oG r))];refine List.ext_getElem (by simp) λi h1 h2=> ?_;have h3:i<Ls.length:=by simpa using h2
  rw[vF,vF,List.getElem_range,bq,dA h3];rfl
 unfold fZ;rw[e1];simp only[kc,e2,e3,dn,mq];rw[ir];have:=LT.Q.wide.length Ls;rw[this,hn];exact az _
def x8(P:Program)(n:Nat)(rs:List ResultVar)(q:List (List Int))(F:Frm)(L:aJ):Fm:=match j4 P n F L.at rs with
 |some [.owF x k] =>(match L.at x with
  |some (.fam _ _ .I Ls [])=>needs [k=Ls.length,Ls=q] .tt
  |_=> .stuck 999020)
 |_=> .stuck 999021
def PW(P:Program)(q:List (List Int))(n:Nat)(rs:List ResultVar):jV:=λe F L _=>match e with
 | .normal=>x8 P n rs q F L
 | .ret=>x8 P n rs q F L
 |_=> .stuck 910000
def Xs{P:Program}{n:Nat}{rs:List ResultVar}{q:List (List Int)}{e:Exit}{F:Frm}{L:aJ}{N:Nat}(h:(PW P q n rs e F L N).holds):Ci P rs (.sl q.length (LT.Q.enc q)) e (F.av n) L.fn N:=by
 have key:(x8 P n rs q F L).holds->fV P rs (F.av n) L.fn λl=>∃m,cM (fZ 3 L.fn) l=some m/\jX m= .sl q.length (LT.Q.enc q):=by
  intro h;unfold x8 at h;split at h
  case h_2=>exact h.elim
  rename_i x k hl;split at h
  case h_2=>exact h.elim
  rename_i ty ity Ls hs;have hp:=(jj h).1;have h1:k=Ls.length:=hp _ (by simp);have h2:Ls=q:=hp _ (by simp);rw[show L.fn=Sg.a L.at from rfl];refine kr hl ⟨[.sl k (LT.Q.enc Ls)],?_,?_⟩
  .show cM (fZ 3 (Sg.a L.at)) [.own (aD x) 0 k] =_;simp only[cM,US (d:=1) hs h1]
  .show PV.sl k (LT.Q.enc Ls)=_;rw[h1,h2]
 cases e<;>first|exact h.elim|exact key h
def ui{α:Type}(A:Arl α)(pre:α->List Prop)(q:α->List (List Int)):Con:=⟨α,A.dec,pre,.val true λx=> .lst .Q (q x)⟩
def wZ{X:Cx}(hX:X.Ok){H:kB}{raw:Nat->Nat->Bool}{f:Nat}(hH:∀(fn:Func) (c:Code),X.P.funcs[f]? =some fn->fn.body=some c->nk X fn.ntmps H c){α:Type}{A:Arl α}{pre:α->List Prop}{q:α->List (List Int)}(ann:α->List (Nat×Ann))
  (h:∀x,kA (pre x)->(q8 X noD H false raw f (ann x) (A.enc x) (PW X.P (q x))).holds):(ui A pre q).Ok X.P f:=by
 intro s x hd hp;obtain⟨B,hB⟩:=A.pl x;obtain⟨hok,fn,c,L0,N0,hf,hb,h0,hw⟩:=vv hX (JR X) (Q:=λrs=>Ci X.P rs (.sl (q x).length (LT.Q.enc (q x)))) hB hH (λn rs e F L N hh=>Xs hh) (h x (fH.2 hp));exact⟨B,_,by rw[A.ok s x hd,hB],rfl,TC hok hf hb h0 hw⟩
end
def aBt:(aH.funcs[92]?).map (·.ntmps)=some 59:=by kernel_rfl
def Pm{X:Cx}(hX:X.Ok)(hP:X.P=aH):∀(fn:Func) (c:Code),X.P.funcs[92]? =some fn->fn.body=some c->nk X fn.ntmps (hkC X 59 3 7 14 901 43 3 .I) c:=by
 intro fn c hf hb;have e:fn.ntmps=59:=by have:=aBt;rw[<-hP,hf]at this;simpa using this
 rw[e];exact λr _=>ZZ hX r
noncomputable def M3:Con:=ui (ac aPl (a1 (aF 115))) (λ(p,_)=>[PlOk p,LvO p aC]) (λ(p,_)=>lvP p aC)
def aAI:M3.Ok aH 116:=wZ (a7 wi) (H:=l8) (λ_ _ _ _=>nF _ _ _) (raw:=au) (λ(p,_)=>[lp 3 17 (2*p.es.length) (λ_=>[]) [] (λ_=>[]) (λk=>[(5,.fam 43 3 .I (lvF p aC k) [])]),lp 9 40 p.vs.length (λ_=>[]) [] (λ_=>[]) (λk=>[(5,.fam 43 3 .I (lvM p aC k) [])])]) λ(p,c) hp=>aw (q:=0<=(p.vs.length:Int)/\(p.vs.length:Int)=p.vs.length/\(p.vs.length:Int)<=1000000/\p.vs.length*24<=1000000000/\aG (2*(p.es.length:Int))/\(0=(0:Int)/\bS p.vs.length ([] :List Int)=lvF p aC 0/\(0:Nat)<=2*p.es.length)/\
 (∀x:Nat,x<=2*p.es.length->((x:Int)<2*p.es.length->(true=true->PlOk p/\HIn p (x:Int)/\PlOk p/\HIn p (x:Int)/\ix (stP p (x:Int)) p.vs.length/\(stP p (x:Int)).toNat<(lvF p aC x).length/\(stP p (x:Int)).toNat<(lvF p aC x).length/\(cc (lvF p aC x) (stP p (x:Int)).toNat ([] :List Int)).length=(cc (lvF p aC x) (stP p (x:Int)).toNat ([] :List Int)).length/\(cc (lvF p aC x) (stP p (x:Int)).toNat ([] :List Int)).length+[(x:Int)].length<=1000000/\ix (stP p (x:Int)) p.vs.length/\(stP p (x:Int)).toNat=(stP p (x:Int)).toNat/\(stP p (x:Int)).toNat<(lvF p aC x).length/\aG ((x:Int)+1)/\(stP p (x:Int)).toNat<(lvF p aC x).length/\(cc (lvF p aC x) (stP p (x:Int)).toNat ([] :List Int)++[(x:Int)]).length=(cc (lvF p aC x) (stP p (x:Int)).toNat ([] :List Int)++[(x:Int)]).length/\(x:Int)+1=((x+1:Nat):Int)/\cR (lvF p aC x) (stP p (x:Int)).toNat (cc (lvF p aC x) (stP p (x:Int)).toNat ([] :List Int)++[(x:Int)])=lvF p aC (x+1)/\x+1<=2*p.es.length/\2*p.es.length-(x+1)<2*p.es.length-x)/\
   (true=false->aG ((x:Int)+1)/\(x:Int)+1=((x+1:Nat):Int)/\lvF p aC x=lvF p aC (x+1)/\x+1<=2*p.es.length/\2*p.es.length-(x+1)<2*p.es.length-x))/\
  (¬(x:Int)<2*p.es.length->(0=(0:Int)/\lvF p aC x=lvM p aC 0/\(0:Nat)<=p.vs.length)/\
   (∀x_1:Nat,x_1<=p.vs.length->((x_1:Int)<p.vs.length->ix (x_1:Int) p.vs.length/\x_1<(lvM p aC x_1).length/\x_1<(lvM p aC x_1).length/\(cc (lvM p aC x_1) x_1 ([] :List Int)).length=(cc (lvM p aC x_1) x_1 ([] :List Int)).length/\(cc (lvM p aC x_1) x_1 ([] :List Int)).length<=1000000/\PlOk p/\(∀x_2:Int,x_2∈cc (lvM p aC x_1) x_1 ([] :List Int)->HIn p x_2)/\OrdG (ltC (cfH p)) (cc (lvM p aC x_1) x_1 ([] :List Int))/\aG ((x_1:Int)+1)/\(x_1:Int)+1=((x_1+1:Nat):Int)/\cR (lvM p aC x_1) x_1 (aY (ltC (cfH p)) (cc (lvM p aC x_1) x_1 ([] :List Int)))=lvM p aC (x_1+1)/\x_1+1<=p.vs.length/\p.vs.length-(x_1+1)<p.vs.length-x_1)/\
    (¬(x_1:Int)<p.vs.length->p.vs.length=(lvM p aC x_1).length/\lvM p aC x_1=lvP p aC))))) (by kernel_rfl) (by
  change PlOk p/\LvO p aC at hp;obtain⟨P,O⟩:=hp;have hl:=P.le;have hv:=P.lv;refine⟨by omega,rfl,by omega,by omega,by unfold aG;omega,⟨rfl,?_,cO _⟩,λx hx=>⟨λh=>⟨λ_=> ?_,λh=>by cases h⟩,λh=>⟨⟨rfl,?_,cO _⟩,λy hy=>⟨λh2=> ?_,λh2=>⟨(pM _ _ _).symm,?_⟩⟩⟩⟩⟩
  .unfold lvF;apply ke;intro i;rw[dw,jf];by_cases hi:i<p.vs.length
   .rw[if_pos hi,kg hi];rfl
   .rw[if_neg hi,eQ (by simp;omega)];rfl
  .have H:HIn p (x:Int):=⟨by omega,by omega⟩;have hs:=k9 P H;have e1:(lvF p aC x).length=p.vs.length:=As _ _ _;have e2:((lvF p aC x).getD (stP p x).toNat []).length<=x:=by unfold lvF;rw[tT (by omega)];exact pL _ _ _ _
   have e3:=AF (p:=p) (q:=aC) (k:=x) rfl hs;exact⟨P,H,P,H,by unfold ix;omega,by omega,by omega,rfl,by simp only[eD];omega,by unfold ix;omega,rfl,by omega,by unfold aG;omega,by omega,rfl,by omega,e3,by omega,by omega⟩
  .obtain rfl:x=2*p.es.length:=by omega
   exact AE _ _
  .have e1:(lvM p aC y).length=p.vs.length:=pM _ _ _;have e2:(lvM p aC y).getD y [] =lvR p aC y (2*p.es.length):=by rw[tz (by omega),if_neg (by omega)]
   have e3:=Aq (p:=p) (q:=aC) (k:=y) (by omega);rw[e2]at e3|-;have e4:=pL p aC y (2*p.es.length);exact⟨by unfold ix;omega,by omega,by omega,rfl,by omega,P,qu,O y (by omega),by unfold aG;omega,by omega,e3,by omega,by omega⟩
  .obtain rfl:y=p.vs.length:=by omega
   rfl)
noncomputable def B0:Tab:=ap [(116,M3)] By
def BK:B0.Ok aH:=aq wi ⟨aAI,trivial⟩
noncomputable def Px:Con:=ui (ac aPl (a1 (aF 115))) (λ(p,_)=>[PlOk p,LvO p aC]) (λ(p,_)=>cyP p aC)
def aBx:Px.Ok aH 92:=wZ (a7 BK) (H:=hkC (cx B0) 59 3 7 14 901 43 3 .I) (Pm (a7 BK) rfl) (raw:=au) (λ(p,_)=>[lp 5 21 (2*p.es.length) (λk=>[(cyO p aC (lvP p aC) k).1.length=2*p.es.length]) [10] (λk=>[(6,.own 10 .B (2*p.es.length)),(7,.owF 901 (cyO p aC (lvP p aC) k).2.length)]) (λk=>[(10,.row 4 .B (cyO p aC (lvP p aC) k).1),(901,.fam 43 3 .I (cyO p aC (lvP p aC) k).2 [])]) λk=>
  [(9,.mk CyY (λF L=>match F.at 10,F.at 6,F.at 9 with
  | .int _ h,.own u _ _,.own s _ _=>(match L.at u,L.at s with|some (.row _ .B b),some (.row _ .I r)=>some (b,h,r)|_,_=>none)
  | .int _ h,.own u _ _,.nil=>(match L.at u with|some (.row _ .B b)=>some (b,h,[])|_=>none)
  |_,_,_=>none) [990] (λy=>[CyI p aC (lvP p aC) (cyO p aC (lvP p aC) k).1 k y]) (λy=>[(10,.int .i64 y.2.1),(9,.own 990 .I y.2.2.length)])
  (λy=>[(10,.row 4 .B y.1),(990,.row 3 .I y.2.2)]) (λy=>y.1.count false) λ_=>[]),
  (13+10000,.mk Unit (λ_ _=>some ()) [990] (λ_=>[]) (λ_=>[(9,.own 990 .I (cyS p aC (lvP p aC) (cyO p aC (lvP p aC) k).1 k).2.length)]) (λ_=>[(10,.row 4 .B (cyS p aC (lvP p aC) (cyO p aC (lvP p aC) k).1 k).1),(990,.row 3 .I (cyS p aC (lvP p aC) (cyO p aC (lvP p aC) k).1 k).2)]) (λ_=>0) (λ_=>[]))]]) λ(p,c) hp=>aw (q:=PlOk p/\LvO p aC/\aG (2*(p.es.length:Int))/\0<=2*(p.es.length:Int)/\2*(p.es.length:Int)=2*p.es.length/\2*(p.es.length:Int)<=1000000/\2*p.es.length*1<=1000000000/\(0=(0:Int)/\2*p.es.length=2*p.es.length/\(0:Nat)=([] :List (List Int)).length/\bS (2*p.es.length) false=bS (2*p.es.length) false/\([] :List (List Int))=([] :List (List Int))/\(0:Nat)<=2*p.es.length/\(bS (2*p.es.length) false).length=2*p.es.length)/\
 (∀x:Nat,x<=2*p.es.length/\(cyO p aC (lvP p aC) x).1.length=2*p.es.length->((x:Int)<((2*p.es.length:Nat):Int)->(((x:Int)=x/\([] :List Int).length=0/\(cyO p aC (lvP p aC) x).1=(cyO p aC (lvP p aC) x).fst/\([] :List Int)=([] :List Int)/\CyI p aC (lvP p aC) (cyO p aC (lvP p aC) x).1 x ((cyO p aC (lvP p aC) x).1,((x:Int),([] :List Int))))/\
    (∀x_1:CyY,CyI p aC (lvP p aC) (cyO p aC (lvP p aC) x).1 x x_1->(0<=x_1.2.1->ix x_1.2.1 (2*p.es.length)/\x_1.2.1.toNat<x_1.1.length/\((!cQ x_1.1 x_1.2.1.toNat)=true->(true=true->ix x_1.2.1 (2*p.es.length)/\x_1.2.1.toNat<x_1.1.length/\x_1.2.2.length=x_1.2.2.length/\x_1.2.2.length+[x_1.2.1].length<=1000000/\PlOk p/\HIn p x_1.2.1/\LvIn p (lvP p aC)/\nxP p (lvP p aC) x_1.2.1=nxP p (lvP p aC) x_1.2.1/\(x_1.2.2++[x_1.2.1]).length=(x_1.2.2++[x_1.2.1]).length/\cR x_1.1 x_1.2.1.toNat true=cR x_1.1 x_1.2.1.toNat true/\x_1.2.2++[x_1.2.1] =x_1.2.2++[x_1.2.1]/\CyI p aC (lvP p aC) (cyO p aC (lvP p aC) x).1 x (cR x_1.1 x_1.2.1.toNat true,(nxP p (lvP p aC) x_1.2.1,x_1.2.2++[x_1.2.1]))/\sG false (cR x_1.1 x_1.2.1.toNat true)<sG false x_1.1)/\
       (true=false->x_1.2.2.length=(cyS p aC (lvP p aC) (cyO p aC (lvP p aC) x).1 x).2.length/\x_1.1=(cyS p aC (lvP p aC) (cyO p aC (lvP p aC) x).1 x).1/\x_1.2.2=(cyS p aC (lvP p aC) (cyO p aC (lvP p aC) x).1 x).2))/\
      ((!cQ x_1.1 x_1.2.1.toNat)=false->x_1.2.2.length=(cyS p aC (lvP p aC) (cyO p aC (lvP p aC) x).1 x).2.length/\x_1.1=(cyS p aC (lvP p aC) (cyO p aC (lvP p aC) x).1 x).1/\x_1.2.2=(cyS p aC (lvP p aC) (cyO p aC (lvP p aC) x).1 x).2))/\
     (¬0<=x_1.2.1->x_1.2.2.length=(cyS p aC (lvP p aC) (cyO p aC (lvP p aC) x).1 x).2.length/\x_1.1=(cyS p aC (lvP p aC) (cyO p aC (lvP p aC) x).1 x).1/\x_1.2.2=(cyS p aC (lvP p aC) (cyO p aC (lvP p aC) x).1 x).2)))/\
   (∀y:Unit,(0<((cyS p aC (lvP p aC) (cyO p aC (lvP p aC) x).1 x).2.length:Int)->((cyO p aC (lvP p aC) x).2.length)=((cyO p aC (lvP p aC) x).2).length/\((cyS p aC (lvP p aC) (cyO p aC (lvP p aC) x).1 x).2.length)=((cyS p aC (lvP p aC) (cyO p aC (lvP p aC) x).1 x).2).length/\((cyO p aC (lvP p aC) x).2.length)+1<=1000000/\aG ((x:Int)+1)/\((cyO p aC (lvP p aC) x).2).length<(((cyO p aC (lvP p aC) x).2)++[((cyS p aC (lvP p aC) (cyO p aC (lvP p aC) x).1 x).2)]).length/\((cyS p aC (lvP p aC) (cyO p aC (lvP p aC) x).1 x).2.length)=(cyS p aC (lvP p aC) (cyO p aC (lvP p aC) x).1 x).2.length/\(x:Int)+1=((x+1:Nat):Int)/\2*p.es.length=2*p.es.length/\((cyO p aC (lvP p aC) x).2.length)+1=(if(0:Nat)<(cyS p aC (lvP p aC) (cyO p aC (lvP p aC) x).1 x).2.length then(cyO p aC (lvP p aC) x).2++[(cyS p aC (lvP p aC) (cyO p aC (lvP p aC) x).1 x).2]else(cyO p aC (lvP p aC) x).2).length/\(cyS p aC (lvP p aC) (cyO p aC (lvP p aC) x).1 x).1=(cyS p aC (lvP p aC) (cyO p aC (lvP p aC) x).1 x).fst/\cR (((cyO p aC (lvP p aC) x).2)++[((cyS p aC (lvP p aC) (cyO p aC (lvP p aC) x).1 x).2)]) ((cyO p aC (lvP p aC) x).2).length (cyS p aC (lvP p aC) (cyO p aC (lvP p aC) x).1 x).2=(if(0:Nat)<(cyS p aC (lvP p aC) (cyO p aC (lvP p aC) x).1 x).2.length then(cyO p aC (lvP p aC) x).2++[(cyS p aC (lvP p aC) (cyO p aC (lvP p aC) x).1 x).2]else(cyO p aC (lvP p aC) x).2)/\x+1<=2*p.es.length/\(cyS p aC (lvP p aC) (cyO p aC (lvP p aC) x).1 x).fst.length=2*p.es.length/\2*p.es.length-(x+1)<2*p.es.length-x)/\
    (¬0<((cyS p aC (lvP p aC) (cyO p aC (lvP p aC) x).1 x).2.length:Int)->aG ((x:Int)+1)/\(x:Int)+1=((x+1:Nat):Int)/\2*p.es.length=2*p.es.length/\(cyO p aC (lvP p aC) x).2.length=(if(0:Nat)<(cyS p aC (lvP p aC) (cyO p aC (lvP p aC) x).1 x).2.length then(cyO p aC (lvP p aC) x).2++[(cyS p aC (lvP p aC) (cyO p aC (lvP p aC) x).1 x).2]else(cyO p aC (lvP p aC) x).2).length/\(cyS p aC (lvP p aC) (cyO p aC (lvP p aC) x).1 x).1=(cyS p aC (lvP p aC) (cyO p aC (lvP p aC) x).1 x).fst/\(cyO p aC (lvP p aC) x).2=(if(0:Nat)<(cyS p aC (lvP p aC) (cyO p aC (lvP p aC) x).1 x).2.length then(cyO p aC (lvP p aC) x).2++[(cyS p aC (lvP p aC) (cyO p aC (lvP p aC) x).1 x).2]else(cyO p aC (lvP p aC) x).2)/\x+1<=2*p.es.length/\(cyS p aC (lvP p aC) (cyO p aC (lvP p aC) x).1 x).fst.length=2*p.es.length/\2*p.es.length-(x+1)<2*p.es.length-x)))/\
  (¬(x:Int)<((2*p.es.length:Nat):Int)->(cyO p aC (lvP p aC) x).2.length=(cyO p aC (lvP p aC) x).2.length/\(cyO p aC (lvP p aC) x).2=cyP p aC))) (by kernel_rfl) (by
  change PlOk p/\LvO p aC at hp;obtain⟨P,O⟩:=hp;have hl:=P.le;have V:=ni P aC;have I0:=λk hk=>tX (q:=aC) P V k hk;refine⟨P,O,by unfold aG;omega,by omega,by omega,by omega,by omega,⟨rfl,rfl,rfl,rfl,rfl,cO _,mg⟩,λx hx=>⟨λh=>⟨⟨⟨rfl,rfl,rfl,rfl,CyI.start hx.2 (by omega)⟩,λy hy=>⟨λh0=> ?_,λh0=> ?_⟩⟩,λ_=>⟨λh1=> ?_,λh1=> ?_⟩⟩,λh=>⟨rfl,?_⟩⟩⟩
  .have H:=hy.hin h0;have e1:=hy.len;have e2:y.2.1.toNat<y.1.length:=by have:=H.2;omega
   have e3:ix y.2.1 (2*p.es.length):=by have:=H.2;unfold ix;omega
   have e4:=hy.cnt;refine⟨e3,e2,λhb=>⟨λ_=> ?_,λh=>by cases h⟩,λhb=> ?_⟩
   .have hb:cQ y.1 y.2.1.toNat=false:=by simpa using hb
    have hc:=qQ e2 hb;obtain⟨s1,s2⟩:=hy.step P V h0 hb rfl;exact⟨e3,e2,rfl,by simp only[eD];omega,P,H,V,rfl,rfl,rfl,rfl,s1,s2⟩
   .have hb:cQ y.1 y.2.1.toNat=true:=by simpa using hb
    obtain⟨s1,s2⟩:=hy.stop (λhh=>by rw[hb]at hh;cases hh.2.1);exact⟨by rw[s1],s2,s1⟩
  .obtain⟨s1,s2⟩:=hy.stop (λhh=>h0 hh.1);exact⟨by rw[s1],s2,s1⟩
  .obtain⟨i1,i2,_⟩:=I0 x (by omega);obtain⟨j1,_,_⟩:=I0 (x+1) (by omega);have e1:0<(cyS p aC (lvP p aC) (cyO p aC (lvP p aC) x).1 x).2.length:=by omega
   rw[if_pos e1];refine⟨rfl,rfl,by omega,by unfold aG;omega,by simp,rfl,by omega,rfl,by simp,rfl,?_,by omega,j1,by omega⟩;rw[DR _ _ (az _),sE];rfl
  .obtain⟨j1,_,_⟩:=I0 (x+1) (by omega);have e1:¬0<(cyS p aC (lvP p aC) (cyO p aC (lvP p aC) x).1 x).2.length:=by omega
   rw[if_neg e1];exact⟨by unfold aG;omega,by omega,rfl,rfl,rfl,rfl,by omega,j1,by omega⟩
  .obtain rfl:x=2*p.es.length:=by omega
   rfl)
noncomputable def NS:Tab:=ap [(92,Px)] B0
def Z6:NS.Ok aH:=aq BK ⟨aBx,trivial⟩
def pmF(p:Pl)(n:Int)(h:Int):Bool:=if h.tmod 2=0 then decide ((aP p.es (h.tdiv 2).toNat).lf=n)&&decide ((aP p.es (h.tdiv 2).toNat).rt≠n)else decide ((aP p.es (h.tdiv 2).toNat).rt=n)&&decide ((aP p.es (h.tdiv 2).toNat).lf≠n)
def aIp:Ar Int where
 enc n:= .pro [.int .i64 n] 0
 dec s:=match s with
  | .pro [.int .i64 n] 0=>some n
  |_=>none
 ok s a h:=by grind
 pl _:=⟨_,rfl⟩
def C6:Ar (Pl×Int×Unit):=aCz 91 (ac aPp (ac aIp a0))
def LvO.of{p:Pl}(h:LvO p aC)(q:Int->Bool):LvO p q:=λv hv=>by
 have H:=h v hv;have m:∀x∈lvR p q v (2*p.es.length),x∈lvR p aC v (2*p.es.length):=λx hx=>by obtain⟨h1,h2,_,h3⟩:=pK.1 hx;exact pK.2 ⟨h1,h2,rfl,h3⟩
 exact⟨λx hx y hy z hz=>H.trans x (m x hx) y (m y hy) z (m z hz),λx hx y hy=>H.asym x (m x hx) y (m y hy),λx hx y hy=>H.tot x (m x hx) y (m y hy)⟩
def ZS{p:Pl}{q:Int->Bool}{k:Nat}(hq:q k=false):lvF p q k=lvF p q (k+1):=by unfold lvF;refine lk λv _=> ?_;rw[AD,hq,ll,if_neg (by decide),je]
noncomputable def Py:Con:=con (ac aI (ac aPp (a1 aIp))) (λ(h,p,_)=>[PlOk p,HIn p h]) (λ(h,p,n)=> .bool (pmF p n h)
 )
def aBy:Py.Ok aH 91:=bA (a7 wi) (raw:=au) (λ(_,_,_)=>[]) (λ(_,_,_)=>⟨_,rfl⟩) λ(h,p,n) hp=>aw (q:=(2:Int)≠0/\aG (bz h 2)/\ix (bz h 2) p.es.length/\(2:Int)≠0/\(dr h 2=0->((aP p.es (bz h 2).toNat).lf=n->decide (¬(aP p.es (bz h 2).toNat).rt=n)=pmF p n h)/\
  (¬(aP p.es (bz h 2).toNat).lf=n->false=pmF p n h))/\
 (¬dr h 2=0->((aP p.es (bz h 2).toNat).rt=n->decide (¬(aP p.es (bz h 2).toNat).lf=n)=pmF p n h)/\
  (¬(aP p.es (bz h 2).toNat).rt=n->false=pmF p n h))) (by kernel_rfl) (by
  change PlOk p/\HIn p h at hp;obtain⟨P,H⟩:=hp;have h2:aG (bz h 2)/\ix (bz h 2) p.es.length:=by have:=P.le;have h1:=H.1;have h2:=H.2;have e:bz h 2=h/2:=Int.tdiv_eq_ediv_of_nonneg h1;rw[e];unfold aG ix;omega
  refine⟨by decide,h2.1,h2.2,by decide,λe=>⟨λe1=> ?_,λe1=> ?_⟩,λe=>⟨λe1=> ?_,λe1=> ?_⟩⟩<;>unfold pmF
  .rw[if_pos e,decide_eq_true e1,jH]
  .rw[if_pos e,decide_eq_false e1,ll]
  .rw[if_neg e,decide_eq_true e1,jH]
  .rw[if_neg e,decide_eq_false e1,ll])
noncomputable def NT:Tab:=ap [(91,Py)] By
def KI:NT.Ok aH:=aq wi ⟨aBy,trivial⟩
noncomputable def M2:Con:=ui (ac aPl (a1 C6)) (λ(p,c)=>[PlOk p,c.1=p,LvO p aC]) (λ(p,c)=>lvP p (pmF p c.2.1))
def aAH:M2.Ok aH 116:=wZ (a7 KI) (H:=l8) (λ_ _ _ _=>nF _ _ _) (raw:=au) (λ(p,c)=>[lp 3 17 (2*p.es.length) (λ_=>[]) [] (λ_=>[]) (λk=>[(5,.fam 43 3 .I (lvF p (pmF p c.2.1) k) [])]),lp 9 40 p.vs.length (λ_=>[]) [] (λ_=>[]) (λk=>[(5,.fam 43 3 .I (lvM p (pmF p c.2.1) k) [])])]) λ(p,c) hp=>aw (q:=0<=(p.vs.length:Int)/\(p.vs.length:Int)=p.vs.length/\(p.vs.length:Int)<=1000000/\p.vs.length*24<=1000000000/\aG (2*(p.es.length:Int))/\(0=(0:Int)/\bS p.vs.length ([] :List Int)=lvF p (pmF p c.2.1) 0/\(0:Nat)<=2*p.es.length)/\
 (∀x:Nat,x<=2*p.es.length->((x:Int)<2*p.es.length->PlOk c.1/\HIn c.1 (x:Int)/\(pmF c.1 c.2.1 (x:Int)=true->PlOk p/\HIn p (x:Int)/\PlOk p/\HIn p (x:Int)/\ix (stP p (x:Int)) p.vs.length/\(stP p (x:Int)).toNat<(lvF p (pmF p c.2.1) x).length/\(stP p (x:Int)).toNat<(lvF p (pmF p c.2.1) x).length/\(cc (lvF p (pmF p c.2.1) x) (stP p (x:Int)).toNat ([] :List Int)).length=(cc (lvF p (pmF p c.2.1) x) (stP p (x:Int)).toNat ([] :List Int)).length/\(cc (lvF p (pmF p c.2.1) x) (stP p (x:Int)).toNat ([] :List Int)).length+[(x:Int)].length<=1000000/\ix (stP p (x:Int)) p.vs.length/\(stP p (x:Int)).toNat=(stP p (x:Int)).toNat/\(stP p (x:Int)).toNat<(lvF p (pmF p c.2.1) x).length/\aG ((x:Int)+1)/\(stP p (x:Int)).toNat<(lvF p (pmF p c.2.1) x).length/\(cc (lvF p (pmF p c.2.1) x) (stP p (x:Int)).toNat ([] :List Int)++[(x:Int)]).length=(cc (lvF p (pmF p c.2.1) x) (stP p (x:Int)).toNat ([] :List Int)++[(x:Int)]).length/\(x:Int)+1=((x+1:Nat):Int)/\cR (lvF p (pmF p c.2.1) x) (stP p (x:Int)).toNat (cc (lvF p (pmF p c.2.1) x) (stP p (x:Int)).toNat ([] :List Int)++[(x:Int)])=lvF p (pmF p c.2.1) (x+1)/\x+1<=2*p.es.length/\2*p.es.length-(x+1)<2*p.es.length-x)/\
   (pmF c.1 c.2.1 (x:Int)=false->aG ((x:Int)+1)/\(x:Int)+1=((x+1:Nat):Int)/\lvF p (pmF p c.2.1) x=lvF p (pmF p c.2.1) (x+1)/\x+1<=2*p.es.length/\2*p.es.length-(x+1)<2*p.es.length-x))/\
  (¬(x:Int)<2*p.es.length->(0=(0:Int)/\lvF p (pmF p c.2.1) x=lvM p (pmF p c.2.1) 0/\(0:Nat)<=p.vs.length)/\
   (∀x_1:Nat,x_1<=p.vs.length->((x_1:Int)<p.vs.length->ix (x_1:Int) p.vs.length/\x_1<(lvM p (pmF p c.2.1) x_1).length/\x_1<(lvM p (pmF p c.2.1) x_1).length/\(cc (lvM p (pmF p c.2.1) x_1) x_1 ([] :List Int)).length=(cc (lvM p (pmF p c.2.1) x_1) x_1 ([] :List Int)).length/\(cc (lvM p (pmF p c.2.1) x_1) x_1 ([] :List Int)).length<=1000000/\PlOk p/\(∀x_2:Int,x_2∈cc (lvM p (pmF p c.2.1) x_1) x_1 ([] :List Int)->HIn p x_2)/\OrdG (ltC (cfH p)) (cc (lvM p (pmF p c.2.1) x_1) x_1 ([] :List Int))/\aG ((x_1:Int)+1)/\(x_1:Int)+1=((x_1+1:Nat):Int)/\cR (lvM p (pmF p c.2.1) x_1) x_1 (aY (ltC (cfH p)) (cc (lvM p (pmF p c.2.1) x_1) x_1 ([] :List Int)))=lvM p (pmF p c.2.1) (x_1+1)/\x_1+1<=p.vs.length/\p.vs.length-(x_1+1)<p.vs.length-x_1)/\
    (¬(x_1:Int)<p.vs.length->p.vs.length=(lvM p (pmF p c.2.1) x_1).length/\lvM p (pmF p c.2.1) x_1=lvP p (pmF p c.2.1)))))) (by kernel_rfl) (by
  change PlOk p/\c.1=p/\LvO p aC at hp;obtain⟨P,e0,O⟩:=hp;rw[e0];have hl:=P.le;have hv:=P.lv;refine⟨by omega,rfl,by omega,by omega,by unfold aG;omega,⟨rfl,?_,cO _⟩,λx hx=>⟨λh=>⟨P,⟨by omega,by omega⟩,λhq=> ?_,λhq=>⟨by unfold aG;omega,by omega,ZS hq,by omega,by omega⟩⟩,λh=>⟨⟨rfl,?_,cO _⟩,λy hy=>⟨λh2=> ?_,λh2=>⟨(pM _ _ _).symm,?_⟩⟩⟩⟩⟩
  .unfold lvF;apply ke;intro i;rw[dw,jf];by_cases hi:i<p.vs.length
   .rw[if_pos hi,kg hi];rfl
   .rw[if_neg hi,eQ (by simp;omega)];rfl
  .have H:HIn p (x:Int):=⟨by omega,by omega⟩;have hs:=k9 P H;have e1:(lvF p (pmF p c.2.1) x).length=p.vs.length:=As _ _ _;have e2:((lvF p (pmF p c.2.1) x).getD (stP p x).toNat []).length<=x:=by unfold lvF;rw[tT (by omega)];exact pL _ _ _ _
   have e3:=AF (p:=p) (q:=(pmF p c.2.1)) (k:=x) hq hs;exact⟨P,H,P,H,by unfold ix;omega,by omega,by omega,rfl,by simp only[eD];omega,by unfold ix;omega,rfl,by omega,by unfold aG;omega,by omega,rfl,by omega,e3,by omega,by omega⟩
  .obtain rfl:x=2*p.es.length:=by omega
   exact AE _ _
  .have e1:(lvM p (pmF p c.2.1) y).length=p.vs.length:=pM _ _ _;have e2:(lvM p (pmF p c.2.1) y).getD y [] =lvR p (pmF p c.2.1) y (2*p.es.length):=by rw[tz (by omega),if_neg (by omega)]
   have e3:=Aq (p:=p) (q:=(pmF p c.2.1)) (k:=y) (by omega);rw[e2]at e3|-;have e4:=pL p (pmF p c.2.1) y (2*p.es.length);exact⟨by unfold ix;omega,by omega,by omega,rfl,by omega,P,qu,O.of _ y (by omega),by unfold aG;omega,by omega,e3,by omega,by omega⟩
  .obtain rfl:y=p.vs.length:=by omega
   rfl)
noncomputable def Bz:Tab:=ap [(116,M2)] NT
def BJ:Bz.Ok aH:=aq KI ⟨aAH,trivial⟩
noncomputable def Pw:Con:=ui (ac aPl (a1 C6)) (λ(p,c)=>[PlOk p,c.1=p,LvO p aC]) (λ(p,c)=>cyP p (pmF p c.2.1))
def Pc:Pw.Ok aH 92:=wZ (a7 BJ) (H:=hkC (cx Bz) 59 3 7 14 901 43 3 .I) (Pm (a7 BJ) rfl) (raw:=au) (λ(p,c)=>[lp 5 21 (2*p.es.length) (λk=>[(cyO p (pmF p c.2.1) (lvP p (pmF p c.2.1)) k).1.length=2*p.es.length]) [10] (λk=>[(6,.own 10 .B (2*p.es.length)),(7,.owF 901 (cyO p (pmF p c.2.1) (lvP p (pmF p c.2.1)) k).2.length)]) (λk=>[(10,.row 4 .B (cyO p (pmF p c.2.1) (lvP p (pmF p c.2.1)) k).1),(901,.fam 43 3 .I (cyO p (pmF p c.2.1) (lvP p (pmF p c.2.1)) k).2 [])]) λk=>
  [(9,.mk CyY (λF L=>match F.at 10,F.at 6,F.at 9 with
  | .int _ h,.own u _ _,.own s _ _=>(match L.at u,L.at s with|some (.row _ .B b),some (.row _ .I r)=>some (b,h,r)|_,_=>none)
  | .int _ h,.own u _ _,.nil=>(match L.at u with|some (.row _ .B b)=>some (b,h,[])|_=>none)
  |_,_,_=>none) [990] (λy=>[CyI p (pmF p c.2.1) (lvP p (pmF p c.2.1)) (cyO p (pmF p c.2.1) (lvP p (pmF p c.2.1)) k).1 k y]) (λy=>[(10,.int .i64 y.2.1),(9,.own 990 .I y.2.2.length)])
  (λy=>[(10,.row 4 .B y.1),(990,.row 3 .I y.2.2)]) (λy=>y.1.count false) λ_=>[]),
  (13+10000,.mk Unit (λ_ _=>some ()) [990] (λ_=>[]) (λ_=>[(9,.own 990 .I (cyS p (pmF p c.2.1) (lvP p (pmF p c.2.1)) (cyO p (pmF p c.2.1) (lvP p (pmF p c.2.1)) k).1 k).2.length)]) (λ_=>[(10,.row 4 .B (cyS p (pmF p c.2.1) (lvP p (pmF p c.2.1)) (cyO p (pmF p c.2.1) (lvP p (pmF p c.2.1)) k).1 k).1),(990,.row 3 .I (cyS p (pmF p c.2.1) (lvP p (pmF p c.2.1)) (cyO p (pmF p c.2.1) (lvP p (pmF p c.2.1)) k).1 k).2)]) (λ_=>0) (λ_=>[]))]]) λ(p,c) hp=>aw (q:=PlOk p/\c.1=p/\LvO p aC/\aG (2*(p.es.length:Int))/\0<=2*(p.es.length:Int)/\2*(p.es.length:Int)=2*p.es.length/\2*(p.es.length:Int)<=1000000/\2*p.es.length*1<=1000000000/\(0=(0:Int)/\2*p.es.length=2*p.es.length/\(0:Nat)=([] :List (List Int)).length/\bS (2*p.es.length) false=bS (2*p.es.length) false/\([] :List (List Int))=([] :List (List Int))/\(0:Nat)<=2*p.es.length/\(bS (2*p.es.length) false).length=2*p.es.length)/\
 (∀x:Nat,x<=2*p.es.length/\(cyO p (pmF p c.2.1) (lvP p (pmF p c.2.1)) x).1.length=2*p.es.length->((x:Int)<((2*p.es.length:Nat):Int)->(((x:Int)=x/\([] :List Int).length=0/\(cyO p (pmF p c.2.1) (lvP p (pmF p c.2.1)) x).1=(cyO p (pmF p c.2.1) (lvP p (pmF p c.2.1)) x).fst/\([] :List Int)=([] :List Int)/\CyI p (pmF p c.2.1) (lvP p (pmF p c.2.1)) (cyO p (pmF p c.2.1) (lvP p (pmF p c.2.1)) x).1 x ((cyO p (pmF p c.2.1) (lvP p (pmF p c.2.1)) x).1,((x:Int),([] :List Int))))/\
    (∀x_1:CyY,CyI p (pmF p c.2.1) (lvP p (pmF p c.2.1)) (cyO p (pmF p c.2.1) (lvP p (pmF p c.2.1)) x).1 x x_1->(0<=x_1.2.1->ix x_1.2.1 (2*p.es.length)/\x_1.2.1.toNat<x_1.1.length/\((!cQ x_1.1 x_1.2.1.toNat)=true->PlOk c.1/\HIn c.1 x_1.2.1/\(pmF c.1 c.2.1 x_1.2.1=true->ix x_1.2.1 (2*p.es.length)/\x_1.2.1.toNat<x_1.1.length/\x_1.2.2.length=x_1.2.2.length/\x_1.2.2.length+[x_1.2.1].length<=1000000/\PlOk p/\HIn p x_1.2.1/\LvIn p (lvP p (pmF p c.2.fst))/\nxP p (lvP p (pmF p c.2.fst)) x_1.2.1=nxP p (lvP p (pmF p c.2.fst)) x_1.2.1/\(x_1.2.2++[x_1.2.1]).length=(x_1.2.2++[x_1.2.1]).length/\cR x_1.1 x_1.2.1.toNat true=cR x_1.1 x_1.2.1.toNat true/\x_1.2.2++[x_1.2.1] =x_1.2.2++[x_1.2.1]/\CyI p (pmF p c.2.1) (lvP p (pmF p c.2.1)) (cyO p (pmF p c.2.1) (lvP p (pmF p c.2.1)) x).1 x (cR x_1.1 x_1.2.1.toNat true,(nxP p (lvP p (pmF p c.2.fst)) x_1.2.1,x_1.2.2++[x_1.2.1]))/\sG false (cR x_1.1 x_1.2.1.toNat true)<sG false x_1.1)/\
       (pmF c.1 c.2.1 x_1.2.1=false->x_1.2.2.length=(cyS p (pmF p c.2.1) (lvP p (pmF p c.2.1)) (cyO p (pmF p c.2.1) (lvP p (pmF p c.2.1)) x).1 x).2.length/\x_1.1=(cyS p (pmF p c.2.1) (lvP p (pmF p c.2.1)) (cyO p (pmF p c.2.1) (lvP p (pmF p c.2.1)) x).1 x).1/\x_1.2.2=(cyS p (pmF p c.2.1) (lvP p (pmF p c.2.1)) (cyO p (pmF p c.2.1) (lvP p (pmF p c.2.1)) x).1 x).2))/\
      ((!cQ x_1.1 x_1.2.1.toNat)=false->x_1.2.2.length=(cyS p (pmF p c.2.1) (lvP p (pmF p c.2.1)) (cyO p (pmF p c.2.1) (lvP p (pmF p c.2.1)) x).1 x).2.length/\x_1.1=(cyS p (pmF p c.2.1) (lvP p (pmF p c.2.1)) (cyO p (pmF p c.2.1) (lvP p (pmF p c.2.1)) x).1 x).1/\x_1.2.2=(cyS p (pmF p c.2.1) (lvP p (pmF p c.2.1)) (cyO p (pmF p c.2.1) (lvP p (pmF p c.2.1)) x).1 x).2))/\
     (¬0<=x_1.2.1->x_1.2.2.length=(cyS p (pmF p c.2.1) (lvP p (pmF p c.2.1)) (cyO p (pmF p c.2.1) (lvP p (pmF p c.2.1)) x).1 x).2.length/\x_1.1=(cyS p (pmF p c.2.1) (lvP p (pmF p c.2.1)) (cyO p (pmF p c.2.1) (lvP p (pmF p c.2.1)) x).1 x).1/\x_1.2.2=(cyS p (pmF p c.2.1) (lvP p (pmF p c.2.1)) (cyO p (pmF p c.2.1) (lvP p (pmF p c.2.1)) x).1 x).2)))/\
   (∀y:Unit,(0<((cyS p (pmF p c.2.1) (lvP p (pmF p c.2.1)) (cyO p (pmF p c.2.1) (lvP p (pmF p c.2.1)) x).1 x).2.length:Int)->((cyO p (pmF p c.2.1) (lvP p (pmF p c.2.1)) x).2.length)=((cyO p (pmF p c.2.1) (lvP p (pmF p c.2.1)) x).2).length/\((cyS p (pmF p c.2.1) (lvP p (pmF p c.2.1)) (cyO p (pmF p c.2.1) (lvP p (pmF p c.2.1)) x).1 x).2.length)=((cyS p (pmF p c.2.1) (lvP p (pmF p c.2.1)) (cyO p (pmF p c.2.1) (lvP p (pmF p c.2.1)) x).1 x).2).length/\((cyO p (pmF p c.2.1) (lvP p (pmF p c.2.1)) x).2.length)+1<=1000000/\aG ((x:Int)+1)/\((cyO p (pmF p c.2.1) (lvP p (pmF p c.2.1)) x).2).length<(((cyO p (pmF p c.2.1) (lvP p (pmF p c.2.1)) x).2)++[((cyS p (pmF p c.2.1) (lvP p (pmF p c.2.1)) (cyO p (pmF p c.2.1) (lvP p (pmF p c.2.1)) x).1 x).2)]).length/\((cyS p (pmF p c.2.1) (lvP p (pmF p c.2.1)) (cyO p (pmF p c.2.1) (lvP p (pmF p c.2.1)) x).1 x).2.length)=(cyS p (pmF p c.2.1) (lvP p (pmF p c.2.1)) (cyO p (pmF p c.2.1) (lvP p (pmF p c.2.1)) x).1 x).2.length/\(x:Int)+1=((x+1:Nat):Int)/\2*p.es.length=2*p.es.length/\((cyO p (pmF p c.2.1) (lvP p (pmF p c.2.1)) x).2.length)+1=(if(0:Nat)<(cyS p (pmF p c.2.1) (lvP p (pmF p c.2.1)) (cyO p (pmF p c.2.1) (lvP p (pmF p c.2.1)) x).1 x).2.length then(cyO p (pmF p c.2.1) (lvP p (pmF p c.2.1)) x).2++[(cyS p (pmF p c.2.1) (lvP p (pmF p c.2.1)) (cyO p (pmF p c.2.1) (lvP p (pmF p c.2.1)) x).1 x).2]else(cyO p (pmF p c.2.1) (lvP p (pmF p c.2.1)) x).2).length/\(cyS p (pmF p c.2.1) (lvP p (pmF p c.2.1)) (cyO p (pmF p c.2.1) (lvP p (pmF p c.2.1)) x).1 x).1=(cyS p (pmF p c.2.1) (lvP p (pmF p c.2.1)) (cyO p (pmF p c.2.1) (lvP p (pmF p c.2.1)) x).1 x).fst/\cR (((cyO p (pmF p c.2.1) (lvP p (pmF p c.2.1)) x).2)++[((cyS p (pmF p c.2.1) (lvP p (pmF p c.2.1)) (cyO p (pmF p c.2.1) (lvP p (pmF p c.2.1)) x).1 x).2)]) ((cyO p (pmF p c.2.1) (lvP p (pmF p c.2.1)) x).2).length (cyS p (pmF p c.2.1) (lvP p (pmF p c.2.1)) (cyO p (pmF p c.2.1) (lvP p (pmF p c.2.1)) x).1 x).2=(if(0:Nat)<(cyS p (pmF p c.2.1) (lvP p (pmF p c.2.1)) (cyO p (pmF p c.2.1) (lvP p (pmF p c.2.1)) x).1 x).2.length then(cyO p (pmF p c.2.1) (lvP p (pmF p c.2.1)) x).2++[(cyS p (pmF p c.2.1) (lvP p (pmF p c.2.1)) (cyO p (pmF p c.2.1) (lvP p (pmF p c.2.1)) x).1 x).2]else(cyO p (pmF p c.2.1) (lvP p (pmF p c.2.1)) x).2)/\x+1<=2*p.es.length/\(cyS p (pmF p c.2.1) (lvP p (pmF p c.2.1)) (cyO p (pmF p c.2.1) (lvP p (pmF p c.2.1)) x).1 x).fst.length=2*p.es.length/\2*p.es.length-(x+1)<2*p.es.length-x)/\
    (¬0<((cyS p (pmF p c.2.1) (lvP p (pmF p c.2.1)) (cyO p (pmF p c.2.1) (lvP p (pmF p c.2.1)) x).1 x).2.length:Int)->aG ((x:Int)+1)/\(x:Int)+1=((x+1:Nat):Int)/\2*p.es.length=2*p.es.length/\(cyO p (pmF p c.2.1) (lvP p (pmF p c.2.1)) x).2.length=(if(0:Nat)<(cyS p (pmF p c.2.1) (lvP p (pmF p c.2.1)) (cyO p (pmF p c.2.1) (lvP p (pmF p c.2.1)) x).1 x).2.length then(cyO p (pmF p c.2.1) (lvP p (pmF p c.2.1)) x).2++[(cyS p (pmF p c.2.1) (lvP p (pmF p c.2.1)) (cyO p (pmF p c.2.1) (lvP p (pmF p c.2.1)) x).1 x).2]else(cyO p (pmF p c.2.1) (lvP p (pmF p c.2.1)) x).2).length/\(cyS p (pmF p c.2.1) (lvP p (pmF p c.2.1)) (cyO p (pmF p c.2.1) (lvP p (pmF p c.2.1)) x).1 x).1=(cyS p (pmF p c.2.1) (lvP p (pmF p c.2.1)) (cyO p (pmF p c.2.1) (lvP p (pmF p c.2.1)) x).1 x).fst/\(cyO p (pmF p c.2.1) (lvP p (pmF p c.2.1)) x).2=(if(0:Nat)<(cyS p (pmF p c.2.1) (lvP p (pmF p c.2.1)) (cyO p (pmF p c.2.1) (lvP p (pmF p c.2.1)) x).1 x).2.length then(cyO p (pmF p c.2.1) (lvP p (pmF p c.2.1)) x).2++[(cyS p (pmF p c.2.1) (lvP p (pmF p c.2.1)) (cyO p (pmF p c.2.1) (lvP p (pmF p c.2.1)) x).1 x).2]else(cyO p (pmF p c.2.1) (lvP p (pmF p c.2.1)) x).2)/\x+1<=2*p.es.length/\(cyS p (pmF p c.2.1) (lvP p (pmF p c.2.1)) (cyO p (pmF p c.2.1) (lvP p (pmF p c.2.1)) x).1 x).fst.length=2*p.es.length/\2*p.es.length-(x+1)<2*p.es.length-x)))/\
  (¬(x:Int)<((2*p.es.length:Nat):Int)->(cyO p (pmF p c.2.1) (lvP p (pmF p c.2.1)) x).2.length=(cyO p (pmF p c.2.1) (lvP p (pmF p c.2.1)) x).2.length/\(cyO p (pmF p c.2.1) (lvP p (pmF p c.2.1)) x).2=cyP p (pmF p c.2.1)))) (by kernel_rfl) (by
  change PlOk p/\c.1=p/\LvO p aC at hp;obtain⟨P,e0,O⟩:=hp;rw[e0];have hl:=P.le;have V:=ni P (pmF p c.2.1);have I0:=λk hk=>tX (q:=(pmF p c.2.1)) P V k hk;refine⟨P,rfl,O,by unfold aG;omega,by omega,by omega,by omega,by omega,⟨rfl,rfl,rfl,rfl,rfl,cO _,mg⟩,λx hx=>⟨λh=>⟨⟨⟨rfl,rfl,rfl,rfl,CyI.start hx.2 (by omega)⟩,λy hy=>⟨λh0=> ?_,λh0=> ?_⟩⟩,λ_=>⟨λh1=> ?_,λh1=> ?_⟩⟩,λh=>⟨rfl,?_⟩⟩⟩
  .have H:=hy.hin h0;have e1:=hy.len;have e2:y.2.1.toNat<y.1.length:=by have:=H.2;omega
   have e3:ix y.2.1 (2*p.es.length):=by have:=H.2;unfold ix;omega
   have e4:=hy.cnt;refine⟨e3,e2,λhb=>⟨P,H,λhq=> ?_,λhq=> ?_⟩,λhb=> ?_⟩
   .have hb:cQ y.1 y.2.1.toNat=false:=by simpa using hb
    have hc:=qQ e2 hb;obtain⟨s1,s2⟩:=hy.step P V h0 hb hq;exact⟨e3,e2,rfl,by simp only[eD];omega,P,H,V,rfl,rfl,rfl,rfl,s1,s2⟩
   .obtain⟨s1,s2⟩:=hy.stop (λhh=>by rw[hq]at hh;cases hh.2.2);exact⟨by rw[s1],s2,s1⟩
   .have hb:cQ y.1 y.2.1.toNat=true:=by simpa using hb
    obtain⟨s1,s2⟩:=hy.stop (λhh=>by rw[hb]at hh;cases hh.2.1);exact⟨by rw[s1],s2,s1⟩
  .obtain⟨s1,s2⟩:=hy.stop (λhh=>h0 hh.1);exact⟨by rw[s1],s2,s1⟩
  .obtain⟨i1,i2,_⟩:=I0 x (by omega);obtain⟨j1,_,_⟩:=I0 (x+1) (by omega);have e1:0<(cyS p (pmF p c.2.1) (lvP p (pmF p c.2.1)) (cyO p (pmF p c.2.1) (lvP p (pmF p c.2.1)) x).1 x).2.length:=by omega
   rw[if_pos e1];refine⟨rfl,rfl,by omega,by unfold aG;omega,by simp,rfl,by omega,rfl,by simp,rfl,?_,by omega,j1,by omega⟩;rw[DR _ _ (az _),sE];rfl
  .obtain⟨j1,_,_⟩:=I0 (x+1) (by omega);have e1:¬0<(cyS p (pmF p c.2.1) (lvP p (pmF p c.2.1)) (cyO p (pmF p c.2.1) (lvP p (pmF p c.2.1)) x).1 x).2.length:=by omega
   rw[if_neg e1];exact⟨by unfold aG;omega,by omega,rfl,rfl,rfl,rfl,by omega,j1,by omega⟩
  .obtain rfl:x=2*p.es.length:=by omega
   rfl)
noncomputable def NR:Tab:=ap [(92,Pw)] Bz
def Z5:NR.Ok aH:=aq BJ ⟨Pc,trivial⟩
end Go.Proofs.YtdnhebjljnfjaaaGreat
