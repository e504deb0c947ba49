/- Part 2 of what the statement stands on -/
import Derived.Test.YtdnhebjljnfjaaaGreatOO1
import Derived.MapKept
import Derived.Maps.RangeRun
import Derived.IntWalk
set_option linter.all false
set_option maxRecDepth 100000
set_option maxHeartbeats 8000000
open Go.Value renaming int->c9,agg->vD
open Go.Op renaming equal->ut,operands->cG,equalIn->jd,maxDepth->DD
open List renaming map_cons->cV,cons.injEq->mb,all_eq_true->dm,getElem_of_mem->iK,mem_map->cF,pairwise_cons->kC,lookup->cL,getElem?_eq_getElem->dA,map_append->d7,mem_append->eK,getElem?_eq_some_iff->oT,ext_getElem?->ke,getElem?_set->gZ,getElem?_map->dw,getElem?_eq_none->eQ,mem_append_left->f7,mem_append_right->fq,length_eq_zero_iff->ip,nodup_cons->kG,filter_cons->u9,mem_of_getElem?->qB,mem_singleton->bM,flatMap_cons->qC,length_append->dh,length_cons->iJ,flatMap_append->vB,length_take->ew,take_left->vC,take_append_drop->oU,take_of_length_le->ir,drop_eq_nil_of_le->Rh,range->bO,length_map->eB,map_drop->vE,map_take->sD,getElem?_range->kg,getD_eq_getElem?_getD->bq,lookup_cons->dJ,map_map->gg,mem_cons_self->eG,mem_cons_of_mem->dK,ext_getElem->yV,append_assoc->lj,set_append_right->DR,replicate->bS,mem_cons->bh,length_replicate->mg,map_congr_left->lk,replicate_succ->oP,length->fg,length_drop->mh,take_length->jg,drop_zero->mq,getElem_map->vF,not_mem_nil->dg,nil_append->oS,append_nil->je,map_nil->lc,isEmpty_iff->DT,length_set->fA,cons_append->ma
open Prod renaming mk.injEq->oM
open Go.Sem renaming run_bind->bo,run_pure->cK,run->eZ
open Go.Result renaming andThen_ok->b9,andThen->qA
open Go.World renaming block_lt_of_cell?->f0,cell?_of_block->gb,setRow->uy
open Nat renaming decEq->iq,zero_add->gc,le_refl->az,le_trans->ci,add_mul->lg,min_eq_left->sC,mul_le_mul_right->uz,mod_eq_of_lt->oJ,beq->ae,ne_of_beq_eq_false->f9,blt->dG,ble->iV,mod_lt->eO,le_of_ble_eq_true->jJ,eq_of_beq_eq_true->bp,add_assoc->oO,ne_of_gt->jh,add_zero->ux
open Option renaming some.injEq->fO,bind_eq_some_iff->kE,map_eq_some_iff->iT,map_some->dn,bind_some->kc,some.inj->gA
open Array renaming getElem?_setIfInBounds->p9,map->oQ,toList_inj->kd,toList_filter->DQ
open Go.Call renaming operands->fz
open Go.Deferred renaming ofValue->oR
open Go.Act renaming put->kZ
open Bool renaming not_true->yH,false_eq_true->oI,and_eq_true->cD
open Go.Proofs.Tryz renaming prog->aH
open Go.IntKind renaming i64->d6
open Int renaming toNat_natCast->kh,le_refl->DS
open Go.RowKit
open Go.Proofs.YtdnhebjljnfjaaaGreat.Geo
open Go.Proofs.YtdnhebjljnfjaaaGreat.Geo renaming nth->aDa
namespace Go.Proofs.YtdnhebjljnfjaaaGreat
section
def agI(xs:List Int):Value:= .agg (xs.map (c9 .i64)).toArray
structure MKey(P:Program)(k:TypeId)(m:Nat):Prop where
 check:∀(w:World) (em:Bool) (xs:List Int),xs.length=m->(Instr.checkKey em 10000 k (agI xs)).run P w= .ok () w
 eq:∀(w:World) (xs ys:List Int),xs.length=m->ys.length=m->(ut k (agI xs) (agI ys)).run P w= .ok (xs==ys) w
 now:∃d,P.underlying k=some d/\∀a b:Array Value,Instr.sameNow d (.agg a) (.agg b)=none
variable {P:Program}
def iA(es:List MapEntry)(ks:List (List Int×Value)):Prop:=es.map (λe=>(e.key,e.val))=ks.map λq=>(agI q.1,q.2)
def Gi{k:TypeId}{m:Nat}(K:MKey P k m)(w:World)(xs:List Int)(hx:xs.length=m):∀(es:List MapEntry) (ks:List (List Int×Value)) (i:Nat),iA es ks->(∀q∈ks,q.1.length=m)->
  ((Instr.findAsking k (agI xs) es i).run P w= .ok none w/\∀q∈ks,q.1≠xs)\/∃j v,(Instr.findAsking k (agI xs) es i).run P w= .ok (some (i+j,v)) w/\ks[j]? =some (xs,v)
 |[],ks,i,h,_=>by
  have:ks=[] :=by simpa using h.symm
  subst this;exact .inl ⟨rfl,by grind⟩
 |e::es,ks,i,h,hl=>by
  cases ks with
  |nil=>unfold iA at h;simp at h
  |cons q ks=>
   unfold iA at h;simp only[cV,mb,oM]at h;obtain⟨⟨h1,h2⟩,h3⟩:=h;unfold Instr.findAsking;simp only[bo,h1,K.eq w xs q.1 hx (by grind),b9];by_cases hq:xs=q.1
   .right;refine⟨0,q.2,?_,by rw[hq];rfl⟩;simp_all
   .rcases Gi K w xs hx es ks (i+1) h3 (by grind)with⟨h4,h5⟩|⟨j,v,h4,h5⟩
    .grind
    .exact .inr ⟨j+1,v,by grind,h5⟩
def Gh{k:TypeId}{m:Nat}(K:MKey P k m)(w:World)(xs:List Int)(hx:xs.length=m)(es:List MapEntry)(ks:List (List Int×Value))(h:iA es ks)(hl:∀q∈ks,q.1.length=m):
  ((Instr.findKey k (agI xs) es).run P w= .ok none w/\∀q∈ks,q.1≠xs)\/∃j v,(Instr.findKey k (agI xs) es).run P w= .ok (some (j,v)) w/\ks[j]? =some (xs,v):=by
 obtain⟨d,hd,hn⟩:=K.now;unfold Instr.findKey;simp only[bo,run_underlying hd,b9];cases es with
 |nil=>
  left;have:ks=[] :=by simpa using h.symm
  subst this;exact⟨rfl,by grind⟩
 |cons e es=>
  have h1:Instr.findNow d (agI xs) (e::es) 0=none:=by
   unfold Instr.findNow;cases ks with
   |nil=>unfold iA at h;simp at h
   |cons q ks=>
    unfold iA at h;simp only[cV,mb,oM]at h;rw[h.1.1];unfold agI;rw[hn]
  rw[h1];simpa using Gi K w xs hx (e::es) ks 0 h hl
def Sh(xs:List Int):Instr.sameBits 10000 (agI xs) (agI xs)=true:=by unfold agI Instr.sameBits;simp only[beq_self_eq_true,Bool.true_and,dm];rintro⟨x,y⟩ h;obtain⟨i,hi,e⟩:=iK h;simp only[List.getElem_zip,oM]at e;obtain⟨rfl,rfl⟩:=e;simp[Instr.sameBits]
def U9(xs:List Int)(w:World):(Instr.keyThatStays (agI xs) (agI xs)).run P w= .ok (agI xs) w:=by unfold Instr.keyThatStays;rw[if_pos (Sh xs)];rfl
def cB(ks:List (List Int×AV)):List AV:=ks.flatMap λq=>[.p (.agg (eu q.1)),q.2]
def Gb{C:bG}:∀{xs:List Int} {vs:List Value},bK C (eu xs) vs->vs=xs.map (c9 .i64)
 |[],vs,h=>by exact h
 |x::xs,vs,h=>by
  unfold eu at h;obtain⟨v,r,rfl,h1,h2⟩:=h;rw[h1,Gb (xs:=xs) h2];rfl
def Av{ρ:Ren}{C:bG}{xs:List Int}{v:Value}(h:aU ρ C (.p (.agg (eu xs))) v):v=agI xs:=by obtain⟨vs,rfl,h1,_⟩:=h;rw[Gb h1];rfl
def Wm{ρ:Ren}{C:bG}(xs:List Int):aU ρ C (.p (.agg (eu xs))) (agI xs):=by
 refine⟨_,rfl,?_,λu hu=> ?_⟩
 .induction xs with
  |nil=>rfl
  |cons x xs ih=>exact⟨_,_,rfl,by rfl,ih⟩
 .obtain⟨x,_,rfl⟩:=cF.1 hu;rfl
def AC{ρ:Ren}{C:bG}:∀{ks:List (List Int×AV)} {es:List MapEntry},ao ρ C (cB ks) (es.flatMap λe=>[e.key,e.val])->
  ∃kv:List (List Int×Value),iA es kv/\kv.length=ks.length/\∀(j:Nat) q,ks[j]? =some q->∃v,kv[j]? =some (q.1,v)/\aU ρ C q.2 v
 |[],es,h=>by
  unfold cB at h;unfold ao at h;cases es with
  |nil=>exact⟨[],rfl,rfl,by grind⟩
  |cons e es=>simp at h
 |q::ks,es,h=>by
  unfold cB at h;cases es with
  |nil=>unfold ao at h;grind
  |cons e es=>
   obtain⟨v,r,h1,h2,h3⟩:=h;cases h1;obtain⟨v,r,h1,h4,h5⟩:=h3;cases h1;obtain⟨kv,g1,g2,g3⟩:=AC (ks:=ks) (es:=es) h5;refine⟨(q.1,e.val)::kv,?_,by simp[g2],?_⟩
   .unfold iA at*;simp only[cV,g1,Av h2]
   grind
def H0{ρ:Ren}{C:bG}:∀{ks:List (List Int×AV)} {es:List MapEntry} {kv:List (List Int×Value)},iA es kv->kv.length=ks.length->(∀(j:Nat) q,ks[j]? =some q->∃v,kv[j]? =some (q.1,v)/\aU ρ C q.2 v)->
  ao ρ C (cB ks) (es.flatMap λe=>[e.key,e.val])
 |[],es,kv,h,hl,_=>by
  have:kv=[] :=by grind
  subst this;unfold iA at h;have:es=[] :=by simpa using h
  subst this;rfl
 |q::ks,es,kv,h,hl,hk=>by
  cases kv with
  |nil=>simp at hl
  |cons p kv=>
   cases es with
   |nil=>unfold iA at h;simp at h
   |cons e es=>
    unfold iA at h;simp only[cV,mb,oM]at h;obtain⟨⟨h1,h2⟩,h3⟩:=h;obtain⟨v,h4,h5⟩:=hk 0 q rfl;simp at h4;subst h4;refine⟨_,_,rfl,by rw[h1];exact Wm q.1,?_⟩;exact⟨_,_,rfl,by grind,H0 (ks:=ks) (kv:=kv) h3 (by grind) λj q' hj=>by simpa using hk (j+1) q' (by grind)⟩
def jS:List (List Int×AV)->List Int->AV->AV
 |[],_,z=>z
 |q::ks,xs,z=>if q.1=xs then q.2 else jS ks xs z
def fx:List (List Int×AV)->List Int->AV->List (List Int×AV)
 |[],xs,v=>[(xs,v)]
 |q::ks,xs,v=>if q.1=xs then(xs,v)::ks else q::fx ks xs v
def mX(ks:List (List Int×AV)):Prop:=ks.Pairwise λp q=>p.1≠q.1
def zL:∀{ks:List (List Int×AV)} {xs:List Int} {z:AV},(∀q∈ks,q.1≠xs)->jS ks xs z=z
 |[],_,_,_=>rfl
 |q::ks,xs,z,h=>by unfold jS;rw[if_neg (by grind)];exact zL (by grind)
def v8:∀{ks:List (List Int×AV)} {xs:List Int} {v:AV},(∀q∈ks,q.1≠xs)->fx ks xs v=ks++[(xs,v)]
 |[],_,_,_=>rfl
 |q::ks,xs,z,h=>by unfold fx;rw[if_neg (by grind),v8 (by grind)];rfl
def GY:∀{ks:List (List Int×AV)} {xs:List Int} {v z:AV} {j:Nat},mX ks->ks[j]? =some (xs,v)->jS ks xs z=v
 |[],_,_,_,_,_,h=>by simp at h
 |q::ks,xs,v,z,0,_,h=>by simp at h;unfold jS;grind
 |q::ks,xs,v,z,j+1,hd,h=>by
  unfold mX at hd;rw[kC]at hd;unfold jS;rw[if_neg (by grind)];exact GY hd.2 h
def Hb:∀{ks:List (List Int×AV)} {xs:List Int} {u v:AV} {j:Nat},mX ks->ks[j]? =some (xs,u)->fx ks xs v=ks.set j (xs,v)
 |[],_,_,_,_,_,h=>by simp at h
 |q::ks,xs,u,v,0,_,h=>by simp at h;unfold fx;grind
 |q::ks,xs,u,v,j+1,hd,h=>by
  unfold mX at hd;rw[kC]at hd;unfold fx;rw[if_neg (by grind),Hb hd.2 h];rfl
variable {o:Oper} {E:Operand->AV} {σ:Nat->Option Ob} {n:Nat}
def EH{t:TypeId}(ho:o.op= .makeMap t none):bB P o E σ n (.mp (sit n 0)) [] [(sit n 0,some ⟨1,0,[]⟩)] :=by
 intro C0 ρ g V w B hs hB _ hn hgn hE;have hcl:∀s,cls s≠n->s≠sit n 0:=λs h e=>h (by rw[e];exact fT n 0);generalize sit n 0=m at*;have hrun:(execOp (bF V) o).run P w= .ok (.value (.map (some w.heap.size))) (w.alloc (.map #[] 0)):=by unfold execOp;rw[ho];rfl
 unfold cX;rw[hrun];have hblk:(w.alloc (.map #[] 0)).heap[w.heap.size]? =some (.map #[] 0):=heap_alloc_new w _
 let ρ':Ren:=λs=>if s=m then some (none,w.heap.size)else ρ s
 have hext:∀s q,ρ s=some q->ρ' s=some q:=by intro s q hq;show(if s=m then _ else _)=_;rw[if_neg (by grind)];exact hq
 have hold:∀b,b<w.heap.size->(w.alloc (.map #[] 0)).heap[b]? =w.heap[b]? :=λb hb=>Below.heap_alloc w _ b hb;have hlk:∀s,s≠m->[(m,some (⟨1,0,[]⟩:Ob))].lookup s=none:=by intro s hs;simp[cL,beq_eq_false_iff_ne.2 hs]
 have hup:∀s,s≠m->aX g [(m,some ⟨1,0,[]⟩)] s=g s:=by intro s hs;unfold aX;rw[hlk s hs]
 have hmono:∀b o' x,ak C0 B w ρ g b o' x->ak C0 B (w.alloc (.map #[] 0)) ρ' (aX g [(m,some ⟨1,0,[]⟩)]) b o' x:=by
  intro b o' x ⟨e1,e2,e0⟩;have hb:b<w.heap.size:=f0 w ⟨b,o',none⟩ e1;refine⟨(gb (hold b hb)).trans e1,?_,e0⟩;intro s c' e3;by_cases e:s=m
  .grind
  .grind
 refine⟨ρ',by grind,hmono,?_,by unfold aU;grind,(Below.refl B w).alloc hB _⟩;refine hs.stepG ?_ hext hmono ?_ (by grind) ?_
 .grind
 .intro s ob' b c' _ e2 e3;obtain⟨_,arr,e4⟩:=hs.at e2 e3;exact hold b e4.lt
 .intro s ob' e;have e1:s=m:=by
   rcases iq s m with h|h
   .grind
   .exact h
  subst e1;have e2:ob'=⟨1,0,[]⟩:=by simp[cL]at e;exact e.symm
  subst e2;refine⟨none,w.heap.size,by simp[ρ'],.inr (.inl ⟨rfl,rfl,.inr (.inl ⟨rfl,hB, #[],0,hblk,by simp,by simp,by rfl⟩),?_⟩)⟩;intro s' o' c' hne e3 e4 e5 hT;rw[hup s' hne]at e3;simp only[ρ',if_neg hne]at e5;obtain⟨q2,c3,k1,⟨_,⟨k2,_⟩|⟨_,k2⟩⟩|⟨b,arr,k2,_⟩⟩:=hs.ob s' o' e3
  .exact k2 e4
  .rw[e5]at k1;rcases hT with⟨_,hT2,hT3⟩|⟨hT,_⟩
   .rcases k2 with⟨k3,_⟩|⟨_,_,es,clock,k3,_⟩|⟨_,_,vs,⟨r,since,seen,c0,es,clock,cur,_,_,k3,_⟩,_⟩
    .exact hT2 k3
    .have:=i9 (w:=w) ⟨_,k3,by simp⟩;grind
    .have:=i9 (w:=w) ⟨_,k3,by simp⟩;grind
   .cases hT
  grind
def AA{C0:bG}{B:Nat}{ρ:Ren}{g:Nat->Option Ob}{w:World}{s c:Nat}{cells:List AV}(hs:StR C0 ρ g w B)(hg:g s=some ⟨1,0,cells⟩)(hρ:ρ s=some (none,c)):
  B<=c/\∃es clock,w.heap[c]? =some (Obj.map es clock)/\((es.toList.map (·.born)).Nodup/\∀x∈es.toList,x.born<clock)/\ao ρ (ak C0 B w ρ g) cells (es.toList.flatMap λe=>[e.key,e.val]):=by
 obtain⟨q2,c3,k1,⟨_,⟨k2,_⟩|⟨_,k2⟩⟩|⟨b,arr,k2,_⟩⟩:=hs.ob s _ hg
 .grind
 .rw[hρ]at k1;rcases k2 with⟨k3,_⟩|⟨_,k3,es,clock,k4,k6,k7,k5⟩|⟨k3,_⟩
  .cases k3
  .cases k1;exact⟨k3,es,clock,k4,⟨k6,k7⟩,k5⟩
  .cases k3
 grind
def Ef{t k e:TypeId}{x i:Operand}{m s:Nat}{ks:List (List Int×AV)}{xs:List Int}{z:AV}{zv:Value}(ho:o.op= .lookup t x i false)(ht:P.underlying t=some (.map k e))(K:MKey P k m)(hz:∀w,(zeroValue e).run P w= .ok zv w)(hzr:∀ρ C,aU ρ C z zv)
  (hx:E x= .mp s) (hi:E i= .p (.agg (eu xs))) (hxs:xs.length=m) (hob:σ s=some ⟨1,0,cB ks⟩) (hks:∀q∈ks,q.1.length=m) (hd:mX ks):bB P o E σ n (jS ks xs z) [s] [] :=by
 refine bB.pure λC0 ρ g V w B hs hR hE=> ?_;have hgs:g s=some ⟨1,0,cB ks⟩:=by grind
 have hvx:=hE x (by rw[ho];simp[cG]);have hvi:=hE i (by rw[ho];simp[cG]);rw[hx]at hvx;rw[hi]at hvi;obtain⟨c,hρ,hvx⟩:=hvx;obtain⟨_,es,clock,hb,_,hrep⟩:=AA hs hgs hρ;obtain⟨kv,g1,g2,g3⟩:=AC hrep;have hkl:∀q∈kv,q.1.length=m:=by
  intro q hq;obtain⟨j,hj,e1⟩:=iK hq;have hj':j<ks.length:=by omega
  obtain⟨v,h1,_⟩:=g3 j ks[j] (by grind);rw[dA hj,e1]at h1;cases h1;grind
 have hrun:∃v,(Instr.lookup t (.map (some c)) (agI xs) false).run P w= .ok v w/\aU ρ (ak C0 B w ρ g) (jS ks xs z) v:=by
  rcases Gh K w xs hxs es.toList kv g1 hkl with⟨h1,h2⟩|⟨j,v,h1,h2⟩
  .refine⟨zv,by simp[Instr.lookup,run_underlying ht,MapKept.run_getObj_map hb,K.check w _ xs hxs,h1,hz,qA],?_⟩;rw[zL]
   .exact hzr _ _
   .intro q hq e;obtain⟨j,hj,e1⟩:=iK hq;obtain⟨v,h3,_⟩:=g3 j q (by grind);grind
  .refine⟨v,by simp[Instr.lookup,run_underlying ht,MapKept.run_getObj_map hb,K.check w _ xs hxs,h1,qA],?_⟩;have hj:j<ks.length:=by rw[<-g2];grind
   obtain⟨q,hq⟩:∃q,ks[j]? =some q:=⟨_,dA hj⟩;obtain⟨u,h3,h4⟩:=g3 j q hq;rw[h2]at h3;simp only[fO,oM]at h3;obtain⟨e1,rfl⟩:=h3;rw[GY (v:=q.2) hd (by rw[hq,e1])];exact h4
 obtain⟨v,h1,h2⟩:=hrun;unfold cX execOp;rw[ho];simp only[hvx,Av hvi,bo,h1,b9,cK];grind
def iA.get{es:List MapEntry}{kv:List (List Int×Value)}(h:iA es kv){j:Nat}{q:List Int×Value}(hq:kv[j]? =some q):∃e,es[j]? =some e/\e.key=agI q.1/\e.val=q.2:=by have:=congrArg (λl=>l[j]?) h;grind
def Ds{t k e:TypeId}{x i y:Operand}{m s:Nat}{ks:List (List Int×AV)}{xs:List Int}(ho:o.op= .mapUpdate t x i y)(ht:P.underlying t=some (.map k e))(K:MKey P k m)
  (hx:E x= .mp s) (hi:E i= .p (.agg (eu xs))) (hxs:xs.length=m) (hob:σ s=some ⟨1,0,cB ks⟩) (hks:∀q∈ks,q.1.length=m) (hd:mX ks):
  bB P o E σ n .undef [s] [(s,some ⟨1,0,cB (fx ks xs (E y))⟩)] :=by
 intro C0 ρ g V w B hs hB hR hn hgn hE;have hgs:g s=some ⟨1,0,cB ks⟩:=by grind
 have hvx:=hE x (by rw[ho];simp[cG]);have hvi:=hE i (by rw[ho];simp[cG]);have hvy:=hE y (by rw[ho];simp[cG]);rw[hx]at hvx;rw[hi]at hvi;obtain⟨c,hρ,hvx⟩:=hvx;obtain⟨hBc,es,clock,hb,hborn,hrep⟩:=AA hs hgs hρ;obtain⟨kv,g1,g2,g3⟩:=AC hrep;have hkl:∀q∈kv,q.1.length=m:=by
  intro q hq;obtain⟨j,hj,e1⟩:=iK hq;have hj':j<ks.length:=by omega
  obtain⟨v,h1,_⟩:=g3 j ks[j] (by grind);rw[dA hj,e1]at h1;cases h1;grind
 generalize hV:bF V y=vy at*;have hrun:∃(es':Array MapEntry) (clock':Nat),(Instr.mapUpdate t (.map (some c)) (agI xs) vy).run P w= .ok () {w with heap:=w.heap.setIfInBounds c (.map es' clock')}/\((es'.toList.map (·.born)).Nodup/\∀x∈es'.toList,x.born<clock')/\
   ∃kv',iA es'.toList kv'/\kv'.length=(fx ks xs (E y)).length/\∀(ρ':Ren) (C':bG),(∀s q,ρ s=some q->ρ' s=some q)->(∀b o x,ak C0 B w ρ g b o x->C' b o x)->∀(j:Nat) q,(fx ks xs (E y))[j]? =some q->∃v,kv'[j]? =some (q.1,v)/\aU ρ' C' q.2 v:=by
  rcases Gh K w xs hxs es.toList kv g1 hkl with⟨h1,h2⟩|⟨j,v,h1,h2⟩
  .refine⟨es.push ⟨agI xs,vy,clock⟩,clock+1,?_,⟨?_,?_⟩,kv++[(xs,vy)],?_,?_,?_⟩
   rotate_left
   .rw[Array.toList_push,d7];refine List.nodup_append.2 ⟨hborn.1,by simp,?_⟩;intro x hx y hy e;obtain⟨z,hz,rfl⟩:=cF.1 hx;have:=hborn.2 z hz;simp at hy;omega
   .intro x hx;rw[Array.toList_push]at hx;rcases eK.1 hx with hx|hx
    .have:=hborn.2 x hx;omega
    .simp at hx;subst hx;exact Nat.lt_succ_self _
   rotate_right
   .simp[Instr.mapUpdate,run_underlying ht,MapKept.run_getObj_map hb,K.check w _ xs hxs,h1,MapKept.run_setObj_map _ hb,qA]
   .unfold iA at*;grind
   .rw[v8]
    .simp[g2]
    .intro q hq e;obtain⟨j,hj,e1⟩:=iK hq;obtain⟨v,h3,_⟩:=g3 j q (by grind);grind
   .intro ρ' C' hρ' hC' j q hq;rw[v8]at hq
    .rcases Nat.lt_or_ge j ks.length with hj|hj
     .rw[List.getElem?_append_left hj]at hq;obtain⟨v,h3,h4⟩:=g3 j q hq;exact⟨v,by grind,aU.mono hρ' hC' _ _ h4⟩
     .rw[List.getElem?_append_right hj]at hq;have hj2:j-ks.length=0:=by have:=(oT.1 hq).1;simp at this;omega
      rw[hj2]at hq;simp at hq;subst hq;exact⟨vy,by grind,aU.mono hρ' hC' _ _ hvy⟩
    .intro q hq e;obtain⟨j,hj,e1⟩:=iK hq;obtain⟨v,h3,_⟩:=g3 j q (by grind);grind
  .obtain⟨e0,h5,h6,h7⟩:=g1.get h2;have hj:j<ks.length:=by rw[<-g2];grind
   obtain⟨q0,hq0⟩:∃q,ks[j]? =some q:=⟨_,dA hj⟩;have hput:fx ks xs (E y)=ks.set j (xs,E y):=Hb (u:=q0.2) hd (by grind);have hes:es[j]? =some e0:=by simpa using h5
   have hmod:(es.modify j (λe=>{e with key:=agI xs,val:=vy})).toList=es.toList.set j {e0 with key:=agI xs,val:=vy}:=by
    apply ke;intro i;rw[gZ];by_cases hij:j=i
    .grind
    .grind
   have hmb:(es.modify j (λe=>{e with key:=agI xs,val:=vy})).toList.map (·.born)=es.toList.map (·.born):=by
    rw[hmod,List.map_set];apply ke;intro i;rw[gZ];split
    .rename_i hij;subst hij;split
     .rw[dw,h5];rfl
     .rename_i hl;rw[eQ (by omega)]
    .rfl
   refine⟨es.modify j (λe=>{e with key:=agI xs,val:=vy}),clock,?_,⟨by rw[hmb];exact hborn.1,λx hx=> ?_⟩,kv.set j (xs,vy),?_,?_,?_⟩
   rotate_left
   .have:x.born∈es.toList.map (·.born):=by rw[<-hmb];exact cF.2 ⟨x,hx,rfl⟩
    obtain⟨y,hy,e⟩:=cF.1 this;rw[<-e];exact hborn.2 y hy
   rotate_right
   .simp[Instr.mapUpdate,run_underlying ht,MapKept.run_getObj_map hb,K.check w _ xs hxs,h1,hes,h6,U9,MapKept.run_setObj_map _ hb,qA]
   .unfold iA at*;have e1:(es.modify j (λe=>{e with key:=agI xs,val:=vy})).toList=es.toList.set j {e0 with key:=agI xs,val:=vy}:=by
     apply ke;intro i;rw[gZ];by_cases hij:j=i
     .grind
     .grind
    simp_all
   .grind
   .intro ρ' C' hρ' hC' i q hq;rw[hput,gZ]at hq;split at hq
    .rename_i e1;cases hq;exact⟨vy,by grind,aU.mono hρ' hC' _ _ hvy⟩
    .obtain⟨v,h3,h4⟩:=g3 i q hq;exact⟨v,by grind,aU.mono hρ' hC' _ _ h4⟩
 obtain⟨es',clock',hr,hborn',kv',f1,f2,f3⟩:=hrun;have hclt:=i9 (w:=w) ⟨_,hb,by simp⟩;unfold cX execOp;rw[ho];simp only[hvx,Av hvi,hV,bo,hr,b9,cK];have hold:∀b,b≠c->({w with heap:=w.heap.setIfInBounds c (.map es' clock')}:World).heap[b]? =w.heap[b]? :=by intro b hbc;show(w.heap.setIfInBounds c _)[b]? =_;rw[p9,if_neg (by grind)]
 have hnb:({w with heap:=w.heap.setIfInBounds c (.map es' clock')}:World).heap[c]? =some (Obj.map es' clock'):=by show(w.heap.setIfInBounds c _)[c]? =_;rw[p9,if_pos rfl,if_pos hclt]
 have hsize:({w with heap:=w.heap.setIfInBounds c (.map es' clock')}:World).heap.size=w.heap.size:=by simp
 have hos:({w with heap:=w.heap.setIfInBounds c (.map es' clock')}:World).os=w.os/\({w with heap:=w.heap.setIfInBounds c (.map es' clock')}:World).tape=w.tape/\({w with heap:=w.heap.setIfInBounds c (.map es' clock')}:World).output=w.output:=by grind
 generalize ({w with heap:=w.heap.setIfInBounds c (.map es' clock')}:World)=w' at*;have hlk:∀s',s'≠s->[(s,some (⟨1,0,cB (fx ks xs (E y))⟩:Ob))].lookup s'=none:=by intro s' hs';simp[cL,beq_eq_false_iff_ne.2 hs']
 have hup:∀s',s'≠s->aX g [(s,some ⟨1,0,cB (fx ks xs (E y))⟩)] s'=g s':=by intro s' hs';unfold aX;rw[hlk s' hs']
 have hmono:∀b' o' x',ak C0 B w ρ g b' o' x'->ak C0 B w' ρ (aX g [(s,some ⟨1,0,cB (fx ks xs (E y))⟩)]) b' o' x':=by
  intro b' o' x' ⟨e1,e2,e0⟩;have hne:b'≠c:=by intro e3;subst e3;unfold World.cell? at e1;simp[hb]at e1
  refine⟨(gb (hold b' hne)).trans e1,?_,e0⟩;intro s' c' e3;by_cases e:s'=s
  .grind
  .grind
 refine⟨ρ,λ_ _=>rfl,hmono,?_,by rfl,⟨hos.1,hos.2.1,hos.2.2,by omega,by grind⟩⟩;refine hs.stepG (by grind) (λ_ _ h=>h) hmono ?_ ?_ ?_
 .intro s' o' b' c' e1 e2 e3;refine hold b' λe=> ?_;obtain⟨_,arr,e4⟩:=hs.at e2 e3;exact mA (w:=w) ⟨_,hb,by simp⟩ e4.blk e.symm
 .intro s' o' c' k e1 e2 e3 e4 e5 _ hk;refine hold k λe=> ?_;subst e;rcases hk with rfl|⟨_,_,_,hk⟩
  .have:=hs.mpi s' s o' _ k k e2 hgs e3 rfl e5 hρ (.inl ⟨e4,by simp,rfl⟩);grind
  .rw[hb]at hk;cases hk
 .intro s' o' e;have e1:s'=s:=by
   rcases iq s' s with h|h
   .grind
   .exact h
  subst e1;have e2:o'=⟨1,0,cB (fx ks xs (E y))⟩:=by simp[cL]at e;exact e.symm
  subst e2;refine⟨none,c,hρ,.inr (.inl ⟨rfl,rfl,.inr (.inl ⟨rfl,hBc,es',clock',hnb,hborn'.1,hborn'.2,H0 f1 f2 (f3 ρ _ (λ_ _ h=>h) hmono)⟩),?_⟩)⟩;intro s2 o2 c2 hne e3 e4 e5 hT;rw[hup s2 hne]at e3;exact hne (hs.mpi s' s2 _ o2 c c2 hgs e3 rfl e4 hρ e5 (by
   rcases hT with⟨_,h2,h3⟩|⟨h1,_⟩
   .exact .inl ⟨by simp,h2,h3⟩
   .cases h1)).symm
end
section
def fb:Nat->(Nat->Option Ob)->AV->Option PV
 |_,_,.p x=>some x
 |_,_,.nil=>some (.sl 0 [])
 |_,_,.own .. =>some .junk
 |_,_,.any=>some .junk
 |0,_,.ptr .. =>some .junk
 |d+1,σ,.ptr s off=>(σ s).bind λob=>(cM (fb d σ) ob.cells).map λl=> .pro l off
 |d+1,σ,.agg l=>(cM (fb d σ) l).map .agg
 |d+1,σ,.fn f a b=>(cM (fb d σ) a).bind λx=>(cM (fb d σ) b).map λy=> .fn f x y
 |_,_,_=>none
def fB:Nat->(Nat->Option Ob)->AV->List Nat
 |0,_,_=>[]
 |d+1,σ,.ptr s _=>s::(match σ s with|some ob=>bD (fB d σ) ob.cells|none=>[])
 |d+1,σ,.agg l=>bD (fB d σ) l
 |d+1,σ,.fn _ a b=>bD (fB d σ) a++bD (fB d σ) b
 |_,_,_=>[]
def UT{C0:bG}{ρ:Ren}{g σ:Nat->Option Ob}{w:World}{B s0 b0:Nat}(hs:StR C0 ρ g w B)(hA0:∀b o v,ak C0 B w ρ g b o v->b≠b0)(hB0:∀s ob b c,s≠s0->g s=some ob->ρ s=some (some b,c)->b≠b0):
  ∀(d:Nat) (x:AV) (y:PV) (v:Value),fb d σ x=some y->(∀s∈fB d σ x,s≠s0/\g s=σ s)->aU ρ (ak C0 B w ρ g) x v->a8 (λb o u=>w.cell? ⟨b,o,none⟩=some u/\b≠b0) y v:=by
 have hfull:∀b o v,ak C0 B w ρ g b o v->w.cell? ⟨b,o,none⟩=some v/\b≠b0:=λb o v h=>⟨h.1,hA0 b o v h⟩;intro d;induction d with
 |zero=>
  intro x y v h hr hx;unfold fb at h;split at h<;>first|(cases h;done)|skip
  .cases h;exact a8.mono hfull _ v hx
  .cases h;unfold aU at hx;unfold a8;grind
  .cases h;trivial
  .cases h;trivial
  .cases h;trivial
  all_goals (rename_i e;cases e)
 |succ d ih=>
  have ihL:∀(l:List AV) (m:List PV) (vs:List Value),cM (fb d σ) l=some m->(∀s∈bD (fB d σ) l,s≠s0/\g s=σ s)->ao ρ (ak C0 B w ρ g) l vs->bK (λb o u=>w.cell? ⟨b,o,none⟩=some u/\b≠b0) m vs:=by
   intro l m vs h hr hv;obtain⟨h1,h2⟩:=jM h;refine bK.of _ _ (by rw[<-h1];exact hv.length) λi y hi=> ?_;have hlt:i<l.length:=by rw[h1];grind
   obtain⟨y',h3,h4⟩:=h2 i l[i] (by grind);rw[hi]at h3;cases h3;obtain⟨v,h5,h6⟩:=hv.get _ _ i l[i] (by grind);exact⟨v,h5,ih _ _ v h4 (λs hs'=>hr s (jl (by grind) hs')) h6⟩
  intro x y v h hr hx;unfold fb at h;split at h<;>first|(cases h;done)|skip
  .cases h;exact a8.mono hfull _ v hx
  .cases h;unfold aU at hx;unfold a8;grind
  .cases h;trivial
  .cases h;trivial
  .omega
  .rename_i σ _ _ _ d' s off e;cases e;simp only[kE,iT]at h;obtain⟨ob,h1,l,h2,rfl⟩:=h;obtain⟨hne,hg⟩:=hr s (by simp[fB]);have hg:g s=some ob:=hg.trans h1;have hr2:∀s'∈bD (fB d σ) ob.cells,s'≠s0/\g s'=σ s':=λs' hs'=>hr s' (by simp only[fB,h1];grind);obtain⟨b,c,hq,hv⟩:=hx;refine⟨b,0,by grind,?_⟩;obtain⟨hBb,arr,hO⟩:=hs.at hg hq;obtain⟨g1,g2⟩:=jM h2;refine cj.of _ _ _ λi y hi=> ?_;have hlt:i<ob.cells.length:=by rw[g1];grind
   obtain⟨y',h5,h6⟩:=g2 i ob.cells[i] (by grind);rw[hi]at h5;cases h5;obtain⟨v,k1,k2,k3⟩:=hO.cells i ob.cells[i] (by grind);refine⟨v,⟨by rw[gc,hO.cell];exact k1,λe=> ?_⟩,k2,ih _ _ v h6 (λs hs'=>hr2 s (jl (by grind) hs')) k3⟩;exact hB0 s _ b c hne hg hq e
  .rename_i d' l e;cases e;simp only[iT]at h;obtain⟨m,h2,rfl⟩:=h;obtain⟨vs,h3,h4,h5⟩:=hx;exact⟨vs,h3,ihL l m vs h2 (λs hs'=>hr s hs') h4,h5⟩
  .rename_i d' f a b e;cases e;simp only[kE,iT]at h;obtain⟨x1,h1,x2,h2,rfl⟩:=h;obtain⟨vs1,vs2,h3,h4,h5⟩:=hx;exact⟨vs1,vs2,h3,ihL a x1 vs1 h1 (λs hs'=>hr s (f7 _ hs')) h4,ihL b x2 vs2 h2 (λs hs'=>hr s (fq _ hs')) h5⟩
def yz{C0:bG}{ρ:Ren}{g σ:Nat->Option Ob}{w:World}{B s0 b0 d:Nat}(hs:StR C0 ρ g w B)(hA0:∀b o v,ak C0 B w ρ g b o v->b≠b0)(hB0:∀s ob b c,s≠s0->g s=some ob->ρ s=some (some b,c)->b≠b0):
  ∀{l:List AV} {m:List PV} {vs:List Value},cM (fb d σ) l=some m->(∀s∈bD (fB d σ) l,s≠s0/\g s=σ s)->ao ρ (ak C0 B w ρ g) l vs->bK (λb o u=>w.cell? ⟨b,o,none⟩=some u/\b≠b0) m vs:=by
 intro l m vs h hr hv;obtain⟨h1,h2⟩:=jM h;refine bK.of _ _ (by rw[<-h1];exact hv.length) λi y hi=> ?_;have hlt:i<l.length:=by rw[h1];grind
 obtain⟨y',h3,h4⟩:=h2 i l[i] (by grind);rw[hi]at h3;cases h3;obtain⟨v,h5,h6⟩:=hv.get _ _ i l[i] (by grind);exact⟨v,h5,UT hs hA0 hB0 d _ _ v h4 (λs hs'=>hr s (jl (by grind) hs')) h6⟩
def MJ{C0:bG}{ρ:Ren}{g:Nat->Option Ob}{w:World}{B s0 b0 c0:Nat}{o0:Ob}(hg0:g s0=some o0)(hρ0:ρ s0=some (some b0,c0)):∀b o v,ak C0 B w ρ g b o v->b≠b0:=λb o v h e=>by subst e;have:=h.2.1 s0 c0 hρ0;grind
def MI{C0:bG}{ρ:Ren}{g:Nat->Option Ob}{w:World}{B s0 b0 c0:Nat}{o0:Ob}(hs:StR C0 ρ g w B)(hg0:g s0=some o0)(hρ0:ρ s0=some (some b0,c0)):∀s ob b c,s≠s0->g s=some ob->ρ s=some (some b,c)->b≠b0:=λs ob b c hne hg hq e=>by subst e;exact hne (hs.inj s s0 _ _ b c c0 hg hg0 hq hρ0)
variable {P:Program}
def flat1(x:PV):Bool:=match x with
 | .int .. | .bool _| .str _=>true
 |_=>false
def sY{C C':bG}{x:PV}{v:Value}(hf:flat1 x=true)(h:a8 C x v):a8 C' x v:=by cases x<;>first|(cases hf;done)|(unfold a8 at*;exact h)
def Ra(P:Program)(f:FuncId)(n:Nat)(A:List PV)(ty esz:Nat)(cells cells':List PV)(m:Nat):Prop:=fy P f=true/\cells'.length<=cells.length/\m<=n/\cells'.all flat1=true/\
 ∀(C:bG) (w:World) (b c:Nat) (arr:Array Value) (vs:List Value),(∀b' o v,C b' o v->w.cell? ⟨b',o,none⟩=some v/\b'≠b)->Lent C w b c ty esz cells arr->n<=c->bK C A vs->
  Calls P f (.slice (some ⟨b,0,none⟩) n c::vs).toArray w λe w'=>∃arr',e= .returned (.slice (some ⟨b,0,none⟩) m c)/\w'.heap[b]? =some (.cells arr' ty (0,0))/\arr'.size=arr.size/\
   (∀(i:Nat) x,cells'[i]? =some x->∃v,arr'[i]? =some v/\v.oneCell'=true/\a8 C x v)/\w.grownBy w' (some b)
variable {o:Oper} {E:Operand->AV} {σ:Nat->Option Ob} {n:Nat}
def Fe{c:Call}{f:Operand}{fid:FuncId}{s k m ty esz:Nat}{rest:List AV}{A cells cells':List PV}(ho:o.op= .call c)(hc:c.callee= .value f)(hfv:E f= .p (.fn (.func fid) [] []))
  (hargs:c.args.toList.map E= .own s 0 k::rest) (hob:σ s=some ⟨ty,esz,cells.map .p⟩) (he:esz≠0) (hk:0<k) (hA:cM (fb 3 σ) rest=some A) (hns:s∉bD (fB 3 σ) rest) (hS:Ra P fid k A ty esz cells cells' m):
  bB P o E σ n (.own (sit n 0) 0 m) (s::bD (fB 3 σ) rest) [(s,none),(sit n 0,some ⟨ty,esz,cells'.map .p⟩)] :=by
 have hfm:f∈o.op.operands.toList:=by rw[ho];simp[cG,fz,hc]
 have ham:∀x∈c.args.toList,x∈o.op.operands.toList:=by intro x hx;rw[ho];simp[cG,fz];exact .inr (by grind)
 obtain⟨hok,hlen,hmk,hfl,hcall⟩:=hS;intro C0 ρ g V w B hs hB hR hn hgn hE;have hn:=hn _ (fT n 0);have hgn:=hgn _ (fT n 0);have hcl:∀s,cls s≠n->s≠sit n 0:=λs h e=>h (by rw[e];exact fT n 0);have hl:∀l:List Operand,(∀x∈l,x∈o.op.operands.toList)->ao ρ (ak C0 B w ρ g) (l.map E) (l.map (bF V)):=by
  intro l;induction l with
  |nil=>intro _;rfl
  |cons x l ih=>
   unfold ao;grind
 have hall:=hl _ ham;rw[hargs]at hall;unfold ao at hall;obtain⟨v,us,hvs,hv,hus⟩:=hall;have hvf:bF V f= .func (.func fid) #[] #[] :=by have:=hE f hfm;rw[hfv]at this;unfold aU a8 at this;obtain⟨v1,v2,h1,h2,h3⟩:=this;unfold bK at h2 h3;rw[h1,h2,h3]
 have hrun:(execOp (bF V) o).run P w= .ok (.enter fid (v::us).toArray) w:=by
  unfold execOp;rw[ho];have e2: #[] ++oQ (bF V) c.args++ #[] =(v::us).toArray:=by rw[<-hvs];apply kd.1;simp
  simp only[resolve,hc,hvf,oR,bo,cK,b9,invoke,kI hok,e2]
 have hgs:g s=some ⟨ty,esz,cells.map .p⟩:=by grind
 unfold aU at hv;obtain⟨q,cap,hρ,⟨_,_,hk0,_⟩|⟨b,o',c',rfl,rfl,h5,h6,h7⟩⟩:=hv
 .omega
 obtain⟨rfl,rfl⟩:=h7 rfl;obtain⟨hBb,arr,hO⟩:=hs.at hgs hρ;have hL:Lent (λb' o u=>w.cell? ⟨b',o,none⟩=some u/\b'≠b) w b c' ty esz cells arr:=by refine⟨hO.blk,λh=>by omega,λh=>by simpa using hO.row h,λi x hi=> ?_⟩;obtain⟨u,h1,h2,h3⟩:=hO.cells i (.p x) (by grind);unfold aU at h3;exact⟨u,h1,h2,a8.mono (λb' o v h=>⟨h.1,λe=>by subst e;have:=h.2.1 s c' hρ;grind⟩) x u h3⟩
 have hcN:cells.length<=arr.size:=by simpa using(hO.row he).2.1
 unfold cX;rw[hrun];dsimp only;refine(hcall _ w b c' arr us (by grind) hL h5 (yz hs (MJ hgs hρ) (MI hs hgs hρ) hA (by grind) hus)).mono ?_;rintro e w' ⟨arr',rfl,hblk,hsz,hcells,hG⟩;generalize hnS:sit n 0=nS at*;have hsn:s≠nS:=λe=>by grind
 let ρ':Ren:=λt=>if t=nS then some (some b,c')else ρ t
 have hρn:ρ' nS=some (some b,c'):=if_pos rfl;have hρs:∀t,t≠nS->ρ' t=ρ t:=by grind
 have hext:∀t q,ρ t=some q->ρ' t=some q:=by grind
 have hlk:∀t,t≠s->t≠nS->[(s,none),(nS,some (⟨ty,esz,cells'.map .p⟩:Ob))].lookup t=none:=by intro t h1 h2;simp[cL,beq_eq_false_iff_ne.2 h1,beq_eq_false_iff_ne.2 h2]
 have hup:∀t,t≠s->t≠nS->aX g [(s,none),(nS,some ⟨ty,esz,cells'.map .p⟩)] t=g t:=by intro t h1 h2;unfold aX;rw[hlk t h1 h2]
 have hups:aX g [(s,none),(nS,some ⟨ty,esz,cells'.map .p⟩)] s=none:=by unfold aX;simp[cL]
 have hold:∀k,k<w.heap.size->k≠b->w'.heap[k]? =w.heap[k]? :=λk h1 h2=>hG.block k h1 (by grind);have hmono:∀b' o' x,ak C0 B w ρ g b' o' x->ak C0 B w' ρ' (aX g [(s,none),(nS,some ⟨ty,esz,cells'.map .p⟩)]) b' o' x:=by
  intro b' o' x ⟨e1,e2,e0⟩;have hne:b'≠b:=λe=>by grind
  refine⟨(gb (hold b' (f0 w ⟨b',o',none⟩ e1) hne)).trans e1,?_,e0⟩;intro t c2 e3;by_cases h1:t=nS
  .grind
  .grind
 refine⟨_,rfl,ρ',by grind,hmono,?_,by unfold aU;grind,⟨hG.os,hG.tape,hG.output,hG.size,by grind⟩⟩;refine hs.step (by grind) hext hmono ?_ ?_ λk es clock hk=>hold k (i9 hk) (mA hk hO.blk)
 .intro t ob b' c2 e1 e2 e3;obtain⟨_,arr2,e4⟩:=hs.at e2 e3;refine hold b' e4.lt λe=> ?_;subst e;have:=hs.inj t s ob _ b' c2 c' e2 hgs e3 hρ;grind
 .intro t ob e1;have e2:t=nS:=by
   rcases iq t nS with h1|h1
   .grind
   .exact h1
  subst e2;have e3:ob=⟨ty,esz,cells'.map .p⟩:=by simp[cL,beq_eq_false_iff_ne.2 (Ne.symm hsn)]at e1;exact e1.symm
  subst e3;obtain⟨r1,r2,r3⟩:=hO.row he;refine⟨some b,c',hρn,.inr ⟨b,arr',rfl,hBb,⟨hblk,by grind,by grind,λi x hi=> ?_⟩,?_⟩⟩
  .rw[dw]at hi;cases hc2:cells'[i]? with
   |none=>grind
   |some y=>
    rw[hc2]at hi;simp only[dn,fO]at hi;subst hi;obtain⟨u,h1,h2,h3⟩:=hcells i y hc2;exact⟨u,h1,h2,by exact sY (by grind) h3⟩
  .intro t' ob' c2 hne hg' hr';rw[hρs t' hne]at hr';by_cases h2:t'=s
   .grind
   .rw[hup t' h2 hne]at hg';exact h2 (hs.inj t' s ob' _ b c2 c' hg' hgs hr' hρ)
def Fa{c:Call}{f:Operand}{fid:FuncId}{s k ty esz:Nat}{rest:List AV}{A cells cells':List PV}(ho:o.op= .call c)(hc:c.callee= .value f)(hfv:E f= .p (.fn (.func fid) [] []))
  (hargs:c.args.toList.map E= .own s 0 k::rest) (hob:σ s=some ⟨ty,esz,cells.map .p⟩) (he:esz≠0) (hA:cM (fb 3 σ) rest=some A) (hns:s∉bD (fB 3 σ) rest) (hfl:cells'.all flat1=true) (hS:oH P fid (some k) A ty esz cells cells'):
  bB P o E σ n .undef (s::bD (fB 3 σ) rest) [(s,some ⟨ty,esz,cells'.map .p⟩)] :=by
 have hfm:f∈o.op.operands.toList:=by rw[ho];simp[cG,fz,hc]
 have ham:∀x∈c.args.toList,x∈o.op.operands.toList:=by intro x hx;rw[ho];simp[cG,fz];exact .inr (by grind)
 obtain⟨hok,hlen,hcall,hnil⟩:=hS;intro C0 ρ g V w B hs hB hR hn hgn hE;have hl:∀l:List Operand,(∀x∈l,x∈o.op.operands.toList)->ao ρ (ak C0 B w ρ g) (l.map E) (l.map (bF V)):=by
  intro l;induction l with
  |nil=>intro _;rfl
  |cons x l ih=>
   unfold ao;grind
 have hall:=hl _ ham;rw[hargs]at hall;obtain⟨v,us,hvs,hv,hus⟩:=hall;have hvf:bF V f= .func (.func fid) #[] #[] :=by have:=hE f hfm;rw[hfv]at this;unfold aU a8 at this;obtain⟨v1,v2,h1,h2,h3⟩:=this;unfold bK at h2 h3;rw[h1,h2,h3]
 have hrun:(execOp (bF V) o).run P w= .ok (.enter fid (v::us).toArray) w:=by
  unfold execOp;rw[ho];have e2: #[] ++oQ (bF V) c.args++ #[] =(v::us).toArray:=by rw[<-hvs];apply kd.1;simp
  simp only[resolve,hc,hvf,oR,bo,cK,b9,invoke,kI hok,e2]
 have hgs:g s=some ⟨ty,esz,cells.map .p⟩:=by grind
 have hlk:∀t,t≠s->[(s,some (⟨ty,esz,cells'.map .p⟩:Ob))].lookup t=none:=by intro t h1;simp[cL,beq_eq_false_iff_ne.2 h1]
 have hup:∀t,t≠s->aX g [(s,some ⟨ty,esz,cells'.map .p⟩)] t=g t:=by intro t h1;unfold aX;rw[hlk t h1]
 obtain⟨q,cap,hρ,⟨rfl,rfl,hk0,_⟩|⟨b,o',c',rfl,rfl,h5,h6,h7⟩⟩:=hv
 .have hcn:cells=[]/\cap=0:=by
   obtain⟨q2,c2,h1,⟨_,h2|h2⟩|⟨b,arr,h2,_⟩⟩:=hs.ob s _ hgs
   .have h3:cells.map AV.p=[] :=h2.2.1;rw[hρ]at h1;cases h1;exact⟨by simpa using h3,h2.2.2⟩
   .exact absurd h2.1 he
   .subst h2;rw[hρ]at h1;cases h1
  obtain⟨rfl,rfl⟩:=hcn;have hcn':cells'=[] :=ip.1 hlen;subst hcn';unfold cX;rw[hrun];refine(hnil (by rw[hk0]) (λb' o u=>w.cell? ⟨b',o,none⟩=some u/\b'≠w.heap.size) w us (λb' o u h=>h.1) (yz (s0:=s) (b0:=w.heap.size) hs (λb o v h e=>by
   have:=f0 w ⟨b,o,none⟩ h.1;dsimp only at this;omega) (λt ob b c _ hg hq e=>by
   obtain⟨_,arr,hO⟩:=hs.at hg hq;have:=hO.lt;omega) hA (by grind) hus)).mono ?_
  rintro e w' ⟨rfl,hb⟩;have hold:∀k,k<w.heap.size->w'.heap[k]? =w.heap[k]? :=λk hk=>hb.block k hk;have hmono:∀b' o' x,ak C0 B w ρ g b' o' x->ak C0 B w' ρ (aX g [(s,some ⟨ty,esz,(([] :List PV)).map .p⟩)]) b' o' x:=by
   intro b' o' x ⟨e1,e2,e0⟩;refine⟨(gb (hold b' (f0 w ⟨b',o',none⟩ e1))).trans e1,?_,e0⟩;intro t c2 e3;by_cases e:t=s
   .subst e;rw[hρ]at e3;cases e3
   .rw[hup t e];exact e2 t c2 e3
  refine⟨_,rfl,ρ,λ_ _=>rfl,hmono,?_,by rfl,hb.mono hB⟩;refine hs.step (by grind) (λ_ _ h=>h) hmono (λt ob b c _ hg hq=>by obtain⟨_,arr,hO⟩:=hs.at hg hq;exact hold b hO.lt) ?_ λk es clock hk=>hold k (i9 hk)
  intro t ob e1;have e2:t=s:=by
   rcases iq t s with h1|h1
   .rw[hlk t h1]at e1;cases e1
   .exact h1
  subst e2;have e3:ob=⟨ty,esz,(([] :List PV)).map .p⟩:=by simp[cL]at e1;exact e1.symm
  subst e3;exact⟨none,0,hρ,.inl ⟨rfl,he,rfl,rfl⟩⟩
 obtain⟨rfl,rfl⟩:=h7 rfl;obtain⟨hBb,arr,hO⟩:=hs.at hgs hρ;have hL:Lent (λb' o u=>w.cell? ⟨b',o,none⟩=some u/\b'≠b) w b c' ty esz cells arr:=by refine⟨hO.blk,λh=>by omega,λh=>by simpa using hO.row h,λi x hi=> ?_⟩;obtain⟨u,h1,h2,h3⟩:=hO.cells i (.p x) (by grind);unfold aU at h3;exact⟨u,h1,h2,a8.mono (λb' o v h=>⟨h.1,λe=>by subst e;have:=h.2.1 s c' hρ;grind⟩) x u h3⟩
 unfold cX;rw[hrun];refine(hcall _ w b c' arr us (by grind) hL (by grind) (yz hs (MJ hgs hρ) (MI hs hgs hρ) hA (by grind) hus)).mono ?_;rintro e w' ⟨arr',rfl,hL',hG⟩;have hold:∀k,k<w.heap.size->k≠b->w'.heap[k]? =w.heap[k]? :=λk h1 h2=>hG.block k h1 (by grind);have hmono:∀b' o' x,ak C0 B w ρ g b' o' x->ak C0 B w' ρ (aX g [(s,some ⟨ty,esz,cells'.map .p⟩)]) b' o' x:=by
  intro b' o' x ⟨e1,e2,e0⟩;have hne:b'≠b:=λe=>by grind
  refine⟨(gb (hold b' (f0 w ⟨b',o',none⟩ e1) hne)).trans e1,?_,e0⟩;intro t c2 e3;by_cases h2:t=s
  .grind
  .grind
 refine⟨_,rfl,ρ,λ_ _=>rfl,hmono,?_,by rfl,⟨hG.os,hG.tape,hG.output,hG.size,by grind⟩⟩;refine hs.step (by grind) (λ_ _ h=>h) hmono ?_ ?_ λk es clock hk=>hold k (i9 hk) (mA hk hO.blk)
 .intro t ob b' c2 e1 e2 e3;obtain⟨_,arr2,e4⟩:=hs.at e2 e3;refine hold b' e4.lt λe=> ?_;subst e;have:=hs.inj t s ob _ b' c2 c' e2 hgs e3 hρ;grind
 .intro t ob e1;have e2:t=s:=by
   rcases iq t s with h1|h1
   .grind
   .exact h1
  subst e2;have e3:ob=⟨ty,esz,cells'.map .p⟩:=by simp[cL]at e1;exact e1.symm
  subst e3;refine⟨some b,c',hρ,.inr ⟨b,arr',rfl,hBb,⟨hL'.blk,by grind,λh=>by simpa using hL'.row h,λi x hi=> ?_⟩,?_⟩⟩
  .rw[dw]at hi;cases hc2:cells'[i]? with
   |none=>grind
   |some y=>
    rw[hc2]at hi;simp only[dn,fO]at hi;subst hi;obtain⟨u,h1,h2,h3⟩:=hL'.cells i y hc2;exact⟨u,h1,h2,by exact sY (by grind) h3⟩
  .intro t' ob' c2 hne hg' hr';rw[hup t' hne]at hg';exact hne (hs.inj t' t ob' _ b c2 c' hg' hgs hr' hρ)
end
def St.putP{C0:bG}{B:Nat}{wI:World}{F:List AV}{L:Sto}{N:Nat}{a:Act}{w:World}{d:Option Nat}{r:AV}{v:Value}(h:St C0 B wI F L N a w)(hr:∀ρ,StR C0 ρ L w B->aU ρ (ak C0 B w ρ L) r v):St C0 B wI (cJ F d r) L N (a.put d v) w:=by
 obtain⟨⟨ρ,s1,s2,s3⟩,s4,s5,s6,s7⟩:=h;refine⟨⟨ρ,s1,s2,λt=> ?_⟩,s4,by cases d<;>exact s5,by rw[kj];cases d<;>simpa[kZ]using s6,s7⟩;rw[nD,sm,s6];by_cases e:d=some t/\t<F.length
 .rw[if_pos e,if_pos e];exact hr ρ s1
 .rw[if_neg e,if_neg e];exact s3 t
def WZ{P:Program}{o:Oper}{F:List AV}{L:Sto}{N m:Nat}{cs:List PV}{t t':TypeId}{x y:Operand}{K:List AV->Sto->Nat->Prop}(ho:o.op= .binOp .eql t x y t')(ht:(bu P t).isSome=true)(hx:dC F x= .p (.sl m cs))(hy:dC F y= .nil)
  (h1:m=0->cs=[]->K (cJ F o.dst (.p (.bool true))) L N) (h0:K (cJ F o.dst (.p (.bool false))) L N):ce P o F L N K:=by
 obtain⟨e,hu⟩:∃e,P.underlying t=some (.slice e):=by unfold bu at ht;grind
 intro C0 B wI a w hS;obtain⟨⟨ρ,s1,s2,s3⟩,s4,s5,s6,s7⟩:=id hS;have k1:=nH (x:=x) (F:=F) (V:=λs=>a.tmps.getD s undef) (ρ:=ρ) (C:=ak C0 B w ρ L) (λt _=>s3 t);have k2:=nH (x:=y) (F:=F) (V:=λs=>a.tmps.getD s undef) (ρ:=ρ) (C:=ak C0 B w ρ L) (λt _=>s3 t);rw[hx]at k1;rw[hy]at k2;obtain⟨ad,c,k1,kn,k3,_⟩:=k1;unfold aU at k2;cases ad with
 |none=>
  obtain⟨rfl,rfl⟩:=k3 rfl;have hm:m=0:=by omega
  have h4:(jd (9999+1) t (.slice none m 0) (.slice none 0 0)).run P w= .ok true w:=by generalize 9999=D;simp only[jd,bo,run_underlying hu,b9,cK];rfl
  have h5:(binOp .eql t (.slice none m 0) (.slice none 0 0)).run P w= .ok (.bool true) w:=by simp only[binOp,ut,DD,bo,h4,b9];rfl
  have hrun:(execOp (bF λs=>a.tmps.getD s undef) o).run P w= .ok (.value (.bool true)) w:=by unfold execOp;rw[ho];simp only[k1,k2,eqGuard,yH,oI,↓reduceIte,bo,h5,b9,cK];try rfl
  unfold cX;rw[hrun];exact⟨_,_,_,h1 hm rfl,hS.putP λ_ _=>by rfl⟩
 |some ad=>
  have h4:(jd (9999+1) t (.slice (some ad) m c) (.slice none 0 0)).run P w= .ok false w:=by generalize 9999=D;simp only[jd,bo,run_underlying hu,b9,cK]
  have h5:(binOp .eql t (.slice (some ad) m c) (.slice none 0 0)).run P w= .ok (.bool false) w:=by simp only[binOp,ut,DD,bo,h4,b9];rfl
  have hrun:(execOp (bF λs=>a.tmps.getD s undef) o).run P w= .ok (.value (.bool false)) w:=by unfold execOp;rw[ho];simp only[k1,k2,eqGuard,yH,oI,↓reduceIte,bo,h5,b9,cK];try rfl
  unfold cX;rw[hrun];exact⟨_,_,_,h0,hS.putP λ_ _=>by rfl⟩
section
open Go.ChangeMaps (setBlock)
def GW{ρ:Ren}{C:bG}:∀{ks:List (List Int×AV)} {l:List MapEntry},ao ρ C (cB ks) (l.flatMap λe=>[e.key,e.val])->
  ks.length=l.length/\∀(i:Nat) q e,ks[i]? =some q->l[i]? =some e->aU ρ C (.p (.agg (eu q.1))) e.key/\aU ρ C q.2 e.val
 |[],[],_=>⟨rfl,by simp⟩
 |[],e::l,h=>by unfold cB ao at h;simp at h
 |q::ks,[],h=>by unfold cB at h;unfold ao at h;grind
 |q::ks,e::l,h=>by
  unfold cB at h;obtain⟨v,r,h1,h2,h3⟩:=h;cases h1;obtain⟨v,r,h1,h4,h5⟩:=h3;cases h1;obtain⟨g1,g2⟩:=GW (ks:=ks) (l:=l) h5;refine⟨by simp[g1],λi q' e' h6 h7=> ?_⟩;cases i with
  |zero=>simp at h6 h7;subst h6;subst h7;exact⟨h2,h4⟩
  |succ i=>exact g2 i q' e' (by simpa using h6) (by simpa using h7)
def Ee{ρ:Ren}{C:bG}:∀{ks:List (List Int×AV)} {l:List MapEntry} {i:Nat},ao ρ C (cB ks) (l.flatMap λe=>[e.key,e.val])->ao ρ C (cB (ks.eraseIdx i)) ((l.eraseIdx i).flatMap λe=>[e.key,e.val])
 |[],[],_,h=>by simpa using h
 |[],e::l,_,h=>by unfold cB ao at h;simp at h
 |q::ks,[],_,h=>by unfold cB at h;unfold ao at h;grind
 |q::ks,e::l,i,h=>by
  unfold cB at h;obtain⟨v,r,h1,h2,h3⟩:=h;cases h1;obtain⟨v,r,h1,h4,h5⟩:=h3;cases h1;cases i with
  |zero=>exact h5
  |succ i=>exact⟨_,_,rfl,h2,_,_,rfl,h4,Ee (ks:=ks) (l:=l) (i:=i) h5⟩
def Dy:∀{l:List MapEntry} {i:Nat} {e:MapEntry},(l.map (·.born)).Nodup->l[i]? =some e->l.filter (λx=> !(x.born==e.born))=l.eraseIdx i
 |[],_,_,_,h=>by simp at h
 |x::l,0,e,hn,h=>by
  simp at h;subst h;rw[cV,kG]at hn;rw[u9,if_neg (by simp),List.eraseIdx_cons_zero,List.filter_eq_self];intro y hy;simp only[Bool.not_eq_true',beq_eq_false_iff_ne];exact λe=>hn.1 (cF.2 ⟨y,hy,e⟩)
 |x::l,i+1,e,hn,h=>by
  rw[cV,kG]at hn;have h:l[i]? =some e:=by simpa using h
  have hne:¬x.born=e.born:=λe2=>hn.1 (cF.2 ⟨e,qB h,e2.symm⟩);rw[u9,if_pos (by simp[hne]),List.eraseIdx_cons_succ,Dy hn.2 h]
def U7{es:Array MapEntry}{seen:Array Nat}{i:Nat}{e:MapEntry}(hn:(es.toList.map (·.born)).Nodup)(h:(es.filter λe=> !seen.contains e.born).toList[i]? =some e):
  (es.filter λx=> !(seen.push e.born).contains x.born).toList=(es.filter λe=> !seen.contains e.born).toList.eraseIdx i:=by
 rw[<-Dy (e:=e) _ h]
 .rw[DQ,DQ,List.filter_filter];refine List.filter_congr λx _=> ?_;rw[Array.contains_push];cases seen.contains x.born<;>cases x.born==e.born<;>rfl
 .rw[DQ];exact hn.sublist (List.Sublist.map _ (List.filter_sublist ..))
def itC(s p:Nat)(cur:AV)(ks:List (List Int×AV)):Ob:=⟨2,0,.ptr p 0::cur:: .mp s::cB ks⟩
variable {P:Program}
def H8{C0:bG}{B:Nat}{ρ:Ren}{g:Nat->Option Ob}{w:World}{s p:Nat}{cur:AV}{ks:List (List Int×AV)}(hs:StR C0 ρ g w B)(hg:g s=some (itC s p cur ks)):
  ∃c,ρ s=some (none,c)/\B<=c/\∃r since seen c0 es clock cv,B<=r/\w.heap[r]? =some (.mapIter (some c) since seen c0)/\w.heap[c]? =some (.map es clock)/\(∀x∈es.toList,x.born<since)/\(since<=c0/\since<=clock)/\(es.toList.map (·.born)).Nodup/\
   ((∃e∈es.toList,∃sn:Array Nat,seen=sn.push e.born/\c0=clock/\cv= .tuple #[e.key,e.val])\/cv=Go.undef)/\aU ρ (ak C0 B w ρ g) (.ptr p 0) (.pointer (some ⟨r,0,none⟩))/\aU ρ (ak C0 B w ρ g) cur cv/\
   ao ρ (ak C0 B w ρ g) (cB ks) ((es.filter λe=> !seen.contains e.born).toList.flatMap λe=>[e.key,e.val]):=by
 obtain⟨q,c,h1,⟨rfl,⟨h2,_⟩|⟨_,h2⟩⟩|⟨b,arr,rfl,h2,h3⟩⟩:=hs.ob s _ hg
 .exact absurd rfl h2
 .rcases h2 with⟨h2,_⟩|⟨h2,_⟩|⟨_,hB,vs,⟨r,since,seen,c0,es,clock,cv,k1,k2,k3,k4,k5,k6,k7,rfl⟩,h2⟩
  .cases h2
  .cases h2
  .obtain⟨v,t,e1,m1,h2⟩:=h2;cases e1;obtain⟨v,t,e1,m2,h2⟩:=h2;cases e1;obtain⟨v,t,e1,m3,h2⟩:=h2;cases e1;exact⟨c,h1,hB,r,since,seen,c0,es,clock,cv,k1,k2,k3,k4,k5,k6,k7,m1,m2,h2⟩
 .obtain⟨v,_,_,c',m,_⟩:=h3.cells 2 (.mp s) rfl;rw[h1]at m;cases m
section
variable {o:Oper} {E:Operand->AV} {σ:Nat->Option Ob} {n:Nat}
def Um{t k e:TypeId}{x:Operand}{s:Nat}{ks:List (List Int×AV)}(ho:o.op= .range t x)(ht:P.underlying t=some (.map k e))(hx:E x= .mp s)(hob:σ s=some ⟨1,0,cB ks⟩):
  bB P o E σ n (.ptr (sit n 0) 0) [s] [(s,some (itC s (sit n 0) .any ks))] :=by
 intro C0 ρ g V w B hs hB hR hn hgn hE;have hcl:∀s,cls s≠n->s≠sit n 0:=λs h e=>h (by rw[e];exact fT n 0);have hm0:cls (sit n 0)=n:=fT n 0;generalize sit n 0=m at*;have hgs:g s=some ⟨1,0,cB ks⟩:=by rw[hR s (bM.2 rfl),hob]
 have hvx:=hE x (by rw[ho];simp[cG]);rw[hx]at hvx;obtain⟨c,hρ,hvx⟩:=hvx;obtain⟨hBc,es,clock,hb,⟨hnd,hborn⟩,hrep⟩:=AA hs hgs hρ;have hclt:=i9 (w:=w) ⟨_,hb,by simp⟩;have hsm:s≠m:=λe=>by rw[e,hn m hm0]at hρ;cases hρ
 have hrun:(execOp (bF V) o).run P w= .ok (.value (.pointer (some ⟨w.heap.size,0,none⟩))) (w.alloc (.mapIter (some c) clock #[] clock)):=by unfold execOp;rw[ho];simp only[hvx,Instr.range,bo,run_underlying ht,b9,MapKept.run_getObj_map hb,cK];rfl
 unfold cX;rw[hrun];have hnb:(w.alloc (.mapIter (some c) clock #[] clock)).heap[w.heap.size]? =some (.mapIter (some c) clock #[] clock):=heap_alloc_new w _;have hold:∀b,b<w.heap.size->(w.alloc (.mapIter (some c) clock #[] clock)).heap[b]? =w.heap[b]? :=λb hb=>Below.heap_alloc w _ b hb;have hbel:=(Below.refl B w).alloc hB (.mapIter (some c) clock #[] clock);generalize w.alloc (.mapIter (some c) clock #[] clock)=w' at*
 let ρ':Ren:=λs=>if s=m then some (some w.heap.size,0)else ρ s
 have hρ':∀s,s≠m->ρ' s=ρ s:=λs h=>if_neg h;have hext:∀s q,ρ s=some q->ρ' s=some q:=by intro s q hq;rw[hρ' s (λe=>by rw[e,hn m hm0]at hq;cases hq)];exact hq
 have hup:∀s',s'≠s->aX g [(s,some (itC s m .any ks))] s'=g s':=by intro s' hs';unfold aX;simp[cL,beq_eq_false_iff_ne.2 hs']
 have hmono:∀b o' x,ak C0 B w ρ g b o' x->ak C0 B w' ρ' (aX g [(s,some (itC s m .any ks))]) b o' x:=by
  intro b o' x ⟨e1,e2,e0⟩;have hb:b<w.heap.size:=f0 w ⟨b,o',none⟩ e1;refine⟨(gb (hold b hb)).trans e1,?_,e0⟩;intro s' c' e3;by_cases e:s'=m
  .subst e;have e3:ρ' s'=some (some b,c'):=e3;rw[show ρ' s'=some (some w.heap.size,0)from if_pos rfl]at e3;cases e3;omega
  .rw[hρ' s' e]at e3;have hne:s'≠s:=λe4=>by rw[e4,hρ]at e3;cases e3
   rw[hup s' hne];exact e2 s' c' e3
 refine⟨ρ',λs h=>hρ' s (hcl s h),hmono,?_,⟨_,_,if_pos rfl,rfl⟩,hbel⟩;refine hs.stepG (λs' ob _ hg'=>hρ' s' λe=>by rw[e,hgn m hm0]at hg';cases hg') hext hmono ?_ ?_ ?_
 .intro s' ob' b c' _ e2 e3;obtain⟨_,arr,e4⟩:=hs.at e2 e3;exact hold b e4.lt
 .intro s' ob' c' k _ _ _ _ _ hk _;exact hold k (i9 hk)
 .intro s' ob' e;have e1:s'=s:=by
   rcases iq s' s with h|h
   .simp[cL,beq_eq_false_iff_ne.2 h]at e
   .exact h
  subst e1;have e2:ob'=itC s' m .any ks:=by simp[cL]at e;exact e.symm
  subst e2;refine⟨none,c,hext _ _ hρ,.inr (.inl ⟨rfl,rfl,.inr (.inr ⟨rfl,hBc,_,⟨w.heap.size,clock, #[],clock,es,clock,Go.undef,hB,hnb,(hold c hclt).trans hb,hborn,⟨az _,az _⟩,hnd,.inr rfl,rfl⟩,?_⟩),?_⟩)⟩
  .refine⟨_,_,rfl,⟨_,_,if_pos rfl,rfl⟩,_,_,rfl,by unfold aU;trivial,_,_,rfl,⟨c,hext _ _ hρ,rfl⟩,?_⟩;have e3:(es.filter λe=> !(#[] :Array Nat).contains e.born)=es:=by simp
   rw[e3];exact ao.mono hext hmono _ _ hrep
  .intro s2 o2 c2 hne e3 e4 e5 hT;rw[hup s2 hne]at e3;have hne2:s2≠m:=λe=>by rw[e,hgn m hm0]at e3;cases e3
   rw[hρ' s2 hne2]at e5;refine hne (hs.mpi s' s2 _ o2 c c2 hgs e3 rfl e4 hρ e5 ?_).symm;rcases hT with⟨_,h2,h3⟩|⟨h1,_⟩
   .exact .inl ⟨by simp,h2,h3⟩
   .cases h1
def VK{x:Operand}{s p:Nat}{a b:AV}{ks:List (List Int×AV)}(ho:o.op= .entry x)(hx:E x= .ptr p 0)(hob:σ s=some (itC s p (.tup [a,b]) ks)):bB P o E σ n (.tup [a,b]) [s] [] :=by
 refine bB.pure λC0 ρ g V w B hs hR hE=> ?_;have hgs:g s=some (itC s p (.tup [a,b]) ks):=by rw[hR s (bM.2 rfl),hob]
 have hvx:=hE x (by rw[ho];simp[cG]);rw[hx]at hvx;obtain⟨c,_,_,r,since,seen,c0,es,clock,cv,_,h1,h2,_,_,h3,h4,h5,h6,_⟩:=H8 hs hgs;obtain⟨b1,c1,k1,k2⟩:=hvx;obtain⟨b2,c2,k3,k4⟩:=h5;rw[k1]at k3;cases k3;cases k4;rcases h4 with⟨e,he,sn,rfl,rfl,rfl⟩|rfl
 .have hrun:=run_entry_at (P:=P) w r c since sn es c0 e h1 h2 he h3;have hx:(execOp (bF V) o).run P w= .ok (.value (.tuple #[e.key,e.val])) w:=by unfold execOp;rw[ho];simp only[k2,bo,hrun,b9,cK]
  unfold cX;rw[hx];exact⟨rfl,h6⟩
 .obtain⟨vs,e,v,r,e2,_⟩:=h6;subst e2;cases e
end
def Uv{o:Oper}{F:List AV}{L:Sto}{N s p:Nat}{x:Operand}{cur:AV}{ks:List (List Int×AV)}{K:List AV->Sto->Nat->Prop}(ho:o.op= .next x false)(hx:dC F x= .ptr p 0)(hob:L s=some (itC s p cur ks))
  (h0:ks=[]->K (cJ F o.dst (.tup [.p (.bool false)])) L N)
  (h1:∀(i:Nat) (q:List Int×AV),ks[i]? =some q->K (cJ F o.dst (.tup [.p (.bool true),.p (.agg (eu q.1)),q.2])) (aX L [(s,some (itC s p (.tup [.p (.agg (eu q.1)),q.2]) (ks.eraseIdx i)))]) N):ce P o F L N K:=by
 intro C0 B wI a w hS;obtain⟨⟨ρ,s1,s2,s3⟩,s4,s5,s6,s7⟩:=id hS;have k1:=nH (x:=x) (F:=F) (V:=λs=>a.tmps.getD s undef) (ρ:=ρ) (C:=ak C0 B w ρ L) (λt _=>s3 t);rw[hx]at k1;obtain⟨c,hρ,hBc,r,since,seen,c0,es,clock,cv,hBr,g1,g2,g3,g4,g5,g6,g7,g8,g9⟩:=H8 s1 hob;obtain⟨b,c1,k1,k2⟩:=k1;obtain⟨b2,c2,k3,k4⟩:=id g7;rw[k1]at k3;cases k3;cases k4;obtain⟨hlen,hget⟩:=GW g9;rcases run_next_at (P:=P) w o.type r c since c0 seen es clock g1 g2 g3 g4.1 with⟨hsz,hrun⟩|⟨e,he,w1,hw1,hrun⟩
 .have hx:(execOp (bF λs=>a.tmps.getD s undef) o).run P w= .ok (.value (.tuple #[.bool false])) w:=by unfold execOp;rw[ho];simp only[k2,bo,hrun,b9,cK]
  unfold cX;rw[hx];refine⟨_,_,_,h0 ?_,hS.putP λ_ _=>⟨[.bool false],rfl,_,_,rfl,by rfl,by rfl⟩⟩;refine ip.1 ?_;rw[hlen];exact hsz
 .obtain⟨i,hi,e1⟩:=iK he;have hli:(es.filter λe=> !seen.contains e.born).toList[i]? =some e:=by rw[<-e1];exact dA hi
  obtain⟨q,hq⟩:∃q,ks[i]? =some q:=⟨_,dA (by rw[hlen];exact hi)⟩;obtain⟨m1,m2⟩:=hget i q e hq hli;have hx:(execOp (bF λs=>a.tmps.getD s undef) o).run P w= .ok (.value (.tuple #[.bool true,e.key,e.val])) (setBlock w1 r (.mapIter (some c) since (seen.push e.born) clock)):=by unfold execOp;rw[ho];simp only[k2,bo,hrun,b9,cK]
  unfold cX;rw[hx];have hrlt:=i9 (w:=w) ⟨_,g1,by simp⟩;have hheap:w1.heap=w.heap/\w1.os=w.os/\w1.tape=w.tape/\w1.output=w.output:=by rcases hw1 with rfl|rfl<;>exact⟨rfl,rfl,rfl,rfl⟩
  have hold:∀b,b≠r->(setBlock w1 r (.mapIter (some c) since (seen.push e.born) clock)).heap[b]? =w.heap[b]? :=by intro b hb;show(w1.heap.setIfInBounds r _)[b]? =_;rw[p9,if_neg (λe=>hb e.symm),hheap.1]
  have hnew:(setBlock w1 r (.mapIter (some c) since (seen.push e.born) clock)).heap[r]? =some (.mapIter (some c) since (seen.push e.born) clock):=by show(w1.heap.setIfInBounds r _)[r]? =_;rw[p9,if_pos rfl,if_pos (by rw[hheap.1];exact hrlt)]
  have hbel:Below B w (setBlock w1 r (.mapIter (some c) since (seen.push e.born) clock)):=by refine⟨hheap.2.1,hheap.2.2.1,hheap.2.2.2,?_,λk hk=>hold k (by omega)⟩;show w.heap.size<=(w1.heap.setIfInBounds r _).size;rw[Array.size_setIfInBounds,hheap.1];exact az _
  generalize setBlock w1 r (.mapIter (some c) since (seen.push e.born) clock)=w' at*;have hcr:c≠r:=λe=>by rw[e,g1]at g2;cases g2
  have hup:∀s' (ob:Ob),s'≠s->aX L [(s,some ob)] s'=L s':=by intro s' ob hs';unfold aX;simp[cL,beq_eq_false_iff_ne.2 hs']
  have hmono:∀(ob:Ob) b o' x,ak C0 B w ρ L b o' x->ak C0 B w' ρ (aX L [(s,some ob)]) b o' x:=by
   intro ob b o' x ⟨e1,e2,e0⟩;have hne:b≠r:=by intro e3;subst e3;unfold World.cell? at e1;simp[g1]at e1
   refine⟨(gb (hold b hne)).trans e1,?_,e0⟩;intro s' c' e3;rw[hup s' ob λe4=>by rw[e4,hρ]at e3;cases e3];exact e2 s' c' e3
  refine⟨_,_,_,h1 i q hq,⟨ρ,?_,s2,λt=> ?_⟩,ci s4 hbel.size,by cases o.dst<;>exact s5,by rw[kj];cases o.dst<;>simpa[kZ]using s6,s7.trans hbel⟩
  .refine s1.stepG (λ_ _ _ _=>rfl) (λ_ _ h=>h) (hmono _) ?_ ?_ ?_
   .intro s' ob' b c' _ e2 e3;obtain⟨_,arr,e4⟩:=s1.at e2 e3;exact hold b λe=>by subst e;exact mA (w:=w) ⟨_,g1,by simp⟩ e4.blk rfl
   .intro s' ob' c' k hW e2 e3 e4 e5 _ hk;refine hold k λe=> ?_;subst e;rcases hk with rfl|⟨_,_,_,hk⟩
    .obtain⟨q2,c3,f1,⟨_,⟨f2,_⟩|⟨_,f2⟩⟩|⟨b,arr,f2,_⟩⟩:=s1.ob s' ob' e2
     .exact f2 e3
     .rw[e5]at f1;cases f1;rcases f2 with⟨f3,_⟩|⟨_,_,es2,clock2,f3,_⟩|⟨_,_,vs,⟨r2,since2,seen2,c02,es2,clock2,cur2,_,_,f3,_⟩,_⟩
      .exact e4 f3
      .rw[g1]at f3;cases f3
      .rw[g1]at f3;cases f3
     .rw[e5]at f1;cases f1;cases f2
    .rw[g1]at hk;cases hk;have:=s1.mpi s' s ob' _ c c e2 hob e3 rfl e5 hρ (.inl ⟨e4,by unfold itC;simp,rfl⟩);subst this;simp[cL]at hW
   .intro s' ob' e2;have e3:s'=s:=by
     rcases iq s' s with h|h
     .simp[cL,beq_eq_false_iff_ne.2 h]at e2
     .exact h
    subst e3;simp[cL]at e2;subst e2;have hee:e∈es.toList:=by have:=qB hli;rw[DQ]at this;exact(List.mem_filter.1 this).1
    refine⟨none,c,hρ,.inr (.inl ⟨rfl,rfl,.inr (.inr ⟨rfl,hBc,_,⟨r,since,seen.push e.born,clock,es,clock,.tuple #[e.key,e.val],hBr,hnew,(hold c hcr).trans g2,g3,⟨g4.2,g4.2⟩,g5,.inl ⟨e,hee,seen,rfl,rfl,rfl⟩,rfl⟩,?_⟩),?_⟩)⟩
    .refine⟨_,_,rfl,aU.mono (λ_ _ h=>h) (hmono _) _ _ g7,_,_,rfl,⟨[e.key,e.val],rfl,_,_,rfl,aU.mono (λ_ _ h=>h) (hmono _) _ _ m1,_,_,rfl,aU.mono (λ_ _ h=>h) (hmono _) _ _ m2,by rfl⟩,_,_,rfl,⟨c,hρ,rfl⟩,?_⟩;rw[U7 g5 hli];exact Ee (ao.mono (λ_ _ h=>h) (hmono _) _ _ g9)
    .intro s2' o2 c2 hne e3 e4 e5 hT;rw[hup s2' _ hne]at e3;refine hne (s1.mpi s' s2' _ o2 c c2 hob e3 rfl e4 hρ e5 ?_).symm;rcases hT with⟨_,h2,h3⟩|⟨h1,_⟩
     .exact .inl ⟨by unfold itC;simp,h2,h3⟩
     .cases h1
  .rw[nD,sm,s6];by_cases e4:o.dst=some t/\t<F.length
   .rw[if_pos e4,if_pos e4];exact⟨[.bool true,e.key,e.val],rfl,_,_,rfl,by rfl,_,_,rfl,aU.mono (λ_ _ h=>h) (hmono _) _ _ m1,_,_,rfl,aU.mono (λ_ _ h=>h) (hmono _) _ _ m2,by rfl⟩
   .rw[if_neg e4,if_neg e4];exact aU.mono (λ_ _ h=>h) (hmono _) _ _ (s3 t)
end
def bi(x y:Int):Int:=if x<y then-1 else if y<x then 1 else 0
def aAN(ax ay bx b_y:Int)(w:World):eZ aH (binOp .eql 53 (.agg #[.int .i64 ax,.int .i64 ay]) (.agg #[.int .i64 bx,.int .i64 b_y])) w= .ok (.bool (ax==bx&&ay==b_y)) w:=by
 have u3:=Tryz.underlying3;have a3:=Tryz.isAgg3;have z3:=Tryz.sizeOf3;have hS:aH.underlying 53=some (.struct (aH.fieldsOf 53)):=by kernel_rfl
 have hp:aH.stoodInHeld 53=false:=by kernel_rfl
 rw[run_eql_struct,show(10000:Nat)=9999+1 from rfl,run_equalIn_agg w 9999 53 _ _ hS hp];simp only[Program.fieldsOf,Tryz.underlying53]
 go_simp
 grind
def iF(r:List V):List PV:=r.flatMap λv=>[.int .i64 v.x,.int .i64 v.y]
def rH(r:List V):PV:= .sl r.length (iF r)
def BQ(l:List bE):PV:= .sl l.length (l.map rH)
def tj(s:Shape):PV:= .agg [rH s.outer,BQ s.holes]
def jE{α:Type}(m:Nat)(enc:List α->List PV)(e:α->List PV):Prop:=∀l,enc l=l.flatMap e/\∀x,(e x).length=m
section
variable {α:Type} {m:Nat} {enc:List α->List PV} {e:α->List PV}
def jE.length(h:jE m enc e)(l:List α):(enc l).length=l.length*m:=by
 rw[(h l).1];induction l with
 |nil=>simp
 |cons x l ih=>simp only[qC,dh,ih,(h []).2 x,iJ,lg];omega
def jE.append(h:jE m enc e)(l k:List α):enc (l++k)=enc l++enc k:=by rw[(h _).1,(h l).1,(h k).1,vB]
def jE.at(h:jE m enc e)(l:List α)(i:Nat)(hi:i<l.length):((enc l).drop (i*m)).take m=e l[i] :=by
 have h1:l=l.take i++l[i] ::l.drop (i+1):=by rw[List.getElem_cons_drop];simp
 have h2:enc l=enc (l.take i)++(e l[i] ++enc (l.drop (i+1))):=by
  conv=>lhs;rw[h1]
  rw[h.append,(h (l[i] ::_)).1,qC,<-(h _).1]
 have h3:=h.length (l.take i);rw[ew,sC (by omega)]at h3;rw[h2,<-h3,List.drop_left,<-(h []).2 l[i],vC]
def jE.take(h:jE m enc e)(l:List α)(k:Nat):(enc l).take (k*m)=enc (l.take k):=by
 by_cases hk:k<=l.length
 .have h3:=h.length (l.take k);rw[ew,sC hk]at h3
  conv=>lhs;rw[<-oU k l,h.append,<-h3,vC]
 .rw[ir (by rw[h.length];exact uz _ (by omega)),ir (by omega)]
def jE.drop(h:jE m enc e)(l:List α)(k:Nat):(enc l).drop (k*m)=enc (l.drop k):=by
 by_cases hk:k<=l.length
 .have h3:=h.length (l.take k);rw[ew,sC hk]at h3
  conv=>lhs;rw[<-oU k l,h.append,<-h3,List.drop_left]
 .have e1:l.drop k=[] :=Rh (by omega);rw[e1,Rh (by rw[h.length];exact uz _ (by omega)),(h []).1];rfl
end
def xC:jE 2 iF λv=>[.int .i64 v.x,.int .i64 v.y] :=λ_=>⟨rfl,λ_=>rfl⟩
def nth_eq{v:List V}{i:Nat}(h:i<v.length):aDa v i=v[i] :=by unfold aDa;grind
def YX{v:List V}{i:Nat}(h:i<v.length):((iF v).drop (i*2)).take 2=[.int .i64 (aDa v i).x,.int .i64 (aDa v i).y] :=by rw[nth_eq h];exact xC.at v i h
def Gs:pZ aH 53 2:=by
 intro xs ys x y w hx hy;match xs,ys,hx,hy with
 |[a,b],[c,d],_,_=>
  have h1:=aAN a b c d w;refine⟨?_,?_⟩
  .simp[eqGuard,h1]
  .simp[eqGuard];rw[run_neq_struct];rw[run_eql_struct]at h1;revert h1;generalize eZ aH (jd 10000 53 (vD #[c9 d6 a,c9 d6 b]) (vD #[c9 d6 c,c9 d6 d])) w=R;intro h1;cases R with
   |ok q w'=>
    obtain⟨rfl,rfl⟩:=h1;simp[qA];grind
   |_=>simp_all
def aK(l:List S)(i:Nat):S:=l.getD i default
def Pb(l:List (Nat×Nat))(i:Nat):Nat×Nat:=l.getD i default
def aM(l:List Int)(i:Nat):Int:=l.getD i 0
def cQ(l:List Bool)(i:Nat):Bool:=l.getD i false
def cS{α:Type}{l:List α}{i:Nat}{d:α}(h:i<l.length):l.getD i d=l[i] :=by grind
def l6{l:List S}{i:Nat}(h:i<l.length):aK l i=l[i] :=cS h
def tQ{l:List bE}{i:Nat}(h:i<l.length):aZ l i=l[i] :=cS h
def X2{l:List (Nat×Nat)}{i:Nat}(h:i<l.length):Pb l i=l[i] :=cS h
def sv{l:List S}{i:Nat}(h:i<l.length):aK l i∈l:=by rw[l6 h];grind
section
variable {α:Type} {m:Nat} {enc:List α->List PV} {e:α->List PV}
def jE.sub(h:jE m enc e)(l:List α){k:Nat}(hk:k<l.length)(j n:Nat)(hj:j+n<=m):((enc l).drop (k*m+j)).take n=((e l[k]).drop j).take n:=by
 have h1:=h.at l k hk;have h2:(((enc l).drop (k*m)).drop j).take n=((((enc l).drop (k*m)).take m).drop j).take n:=by
  rw[List.drop_take,List.take_take]
  congr 1;omega
 simp_all
end
section
variable {α:Type} {m:Nat} {enc:List α->List PV} {e:α->List PV}
end
def BI:(∀a b:Bool,((a&&b)=true)=(a=true/\b=true))/\(∀a b:Bool,((a||b)=true)=(a=true\/b=true))/\(∀a b:Bool,((a&&b)=false)=(a=false\/b=false))/\(∀a b:Bool,((a||b)=false)=(a=false/\b=false))/\(∀b:Bool,((!b)=true)=(b=false))/\(∀b:Bool,((!b)=false)=(b=true))/\(∀(p:Prop) [Decidable p],(decide p=true)=p)/\(∀(p:Prop) [Decidable p],(decide p=false)=¬p)/\(∀{α:Type} [BEq α] [LawfulBEq α] (a b:α),((a==b)=true)=(a=b))/\(∀{α:Type} [BEq α] [LawfulBEq α] (a b:α),((a==b)=false)=(a≠b))/\(∀{α:Type} [BEq α] [LawfulBEq α] (a b:α),((a !=b)=true)=(a≠b))/\(∀{α:Type} [BEq α] [LawfulBEq α] (a b:α),((a !=b)=false)=(a=b)):=
 ⟨by simp,by simp,by simp,by simp,by simp,by simp,by grind,by grind,λa b=>by simp,λa b=>by simp,λa b=>by simp,λa b=>by simp⟩
namespace Geo
structure Ed where
 fr:Int
 to:Int
 lf:Int
 rt:Int
 src:List Int
deriving DecidableEq,Inhabited,Repr
structure Pl where
 sg:List S
 vs:List Pt
 es:List Ed
 fs:List (List (List Int))
deriving DecidableEq,Inhabited
end Geo
noncomputable section
inductive Fm:Type 1
 |tt
 |stuck (n:Nat)
 |need (p:Prop) (f:Fm)
 |imp (p:Prop) (f:Fm)
 |both (f g:Fm)
 |all (X:Type) (f:X->Fm)
 |ex (X:Type) (f:X->Fm)
def Fm.isTT:Fm->Bool
 | .tt=>true
 |_=>false
def Fm.holds:Fm->Prop
 | .tt=>True
 | .stuck _=>False
 | .need p f=>(match f.isTT with|true=>p|false=>p/\f.holds)
 | .imp p f=>p->f.holds
 | .both f g=>(match f.isTT,g.isTT with|true,_=>g.holds|false,true=>f.holds|false,false=>f.holds/\g.holds)
 | .all X f=>∀x:X,(f x).holds
 | .ex X f=>∃x:X,(f x).holds
def Fm.Bt{f:Fm}(h:f.isTT=true):f.holds:=by cases f<;>first|trivial|cases h
def Fm.Tp{p:Prop}{f:Fm}(h:(Fm.need p f).holds):p/\f.holds:=by
 unfold Fm.holds at h;split at h
 .rename_i e;exact⟨h,Fm.Bt e⟩
 .exact h
def Fm.lq{f g:Fm}(h:(Fm.both f g).holds):f.holds/\g.holds:=by
 unfold Fm.holds at h;split at h
 .rename_i e;exact⟨Fm.Bt e,h⟩
 .rename_i e;exact⟨h,Fm.Bt e⟩
 .exact h
def needs:List Prop->Fm->Fm
 |[],f=>f
 |p::l,f=> .need p (needs l f)
def jj:∀{l:List Prop} {f:Fm},(needs l f).holds->(∀p∈l,p)/\f.holds
 |[],f,h=>⟨by grind,h⟩
 |q::l,f,h=>by
  obtain⟨h1,h2⟩:=Fm.Tp h;obtain⟨h3,h4⟩:=jj h2;grind
def kA:List Prop->Prop
 |[] =>True
 |[p] =>p
 |p::l=>p/\kA l
def fH:∀{l:List Prop},kA l↔∀p∈l,p
 |[] =>⟨by grind,λ_=>trivial⟩
 |[p] =>⟨λh q hq=>(by rw[bM.1 hq];exact h),λh=>h p (by grind)⟩
 |p::q::l=>by
  show p/\kA (q::l)↔_;rw[fH];exact⟨by grind,λh=>⟨h p (by grind),by grind⟩⟩
def Co(l:List Prop)(f:Fm):Fm:=match l with
 |[] =>f
 |p::l=> .imp (kA (p::l)) f
def Eo{l:List Prop}{f:Fm}(h:(Co l f).holds)(hl:∀p∈l,p):f.holds:=by
 cases l with
 |nil=>exact h
 |cons p l=>exact(h:kA (p::l)->_) (fH.2 hl)
inductive LT where
 |V|S|R|I|B|P|Q|T|U|E|F
deriving DecidableEq
@[reducible] def LT.ty : LT → Type
  | .V => Geo.V
  | .S => Geo.S
  | .R => bE
  | .I => Int
  | .B => Bool
  | .P => Nat × Nat
  | .Q => List Int
  | .T => Pt
  | .U => List Pt
  | .E => Ed
  | .F => List (List Int)
def LT.w:LT->Nat
 | .V=>2
 | .S=>4
 | .R=>1
 | .I=>1
 | .B=>1
 | .P=>2
 | .Q=>1
 | .T=>3
 | .U=>1
 | .E=>5
 | .F=>1
def oG(l:List Int):List PV:=l.flatMap λn=>[.int .i64 n]
def aO(l:List (List Int))(i:Nat):List Int:=l.getD i []
def Pp(l:List Pt):List PV:=l.flatMap λp=>[.int .i64 p.x,.int .i64 p.y,.int .i64 p.den]
def Pq(l:List (List Int)):List PV:=l.flatMap λr=>[.sl r.length (oG r)]
def aQ(l:List Pt)(i:Nat):Pt:=l.getD i ⟨0,0,1⟩
def pq(l:List (List Pt))(i:Nat):List Pt:=l.getD i []
def aP(l:List Ed)(i:Nat):Ed:=l.getD i ⟨0,0,0,0,[]⟩
def bl(l:List (List (List Int)))(i:Nat):List (List Int):=l.getD i []
def LT.rowP:(t:LT)->t.ty->List PV
 | .V=>λv=>[.int .i64 v.x,.int .i64 v.y]
 | .S=>λs=>[.int .i64 s.a.x,.int .i64 s.a.y,.int .i64 s.b.x,.int .i64 s.b.y]
 | .R=>λr=>[.sl r.length (iF r)]
 | .I=>λn=>[.int .i64 n]
 | .B=>λb=>[.bool b]
 | .P=>λp=>[.int .i64 p.1,.int .i64 p.2]
 | .Q=>λr=>[.sl r.length (oG r)]
 | .T=>λp=>[.int .i64 p.x,.int .i64 p.y,.int .i64 p.den]
 | .U=>λr=>[.sl r.length (Pp r)]
 | .E=>λe=>[.int .i64 e.fr,.int .i64 e.to,.int .i64 e.lf,.int .i64 e.rt,.sl e.src.length (oG e.src)]
 | .F=>λr=>[.sl r.length (Pq r)]
def LT.enc(t:LT)(l:List t.ty):List PV:=l.flatMap t.rowP
def LT.wide(t:LT):jE t.w t.enc t.rowP:=λ_=>⟨rfl,λx=>by cases t<;>rfl⟩
def LT.gn(t:LT):0<t.w:=by cases t<;>decide
def LT.nth:(t:LT)->List t.ty->Nat->t.ty
 | .V=>aDa
 | .S=>aK
 | .R=>aZ
 | .I=>aM
 | .B=>cQ
 | .P=>Pb
 | .Q=>aO
 | .T=>aQ
 | .U=>pq
 | .E=>aP
 | .F=>bl
def LT.nth_eq(t:LT)(l:List t.ty){i:Nat}(h:i<l.length):t.nth l i=l[i] :=by
 cases t
 .exact Go.Proofs.YtdnhebjljnfjaaaGreat.nth_eq h
 .exact l6 h
 .exact tQ h
 .exact cS h
 .exact cS h
 .exact X2 h
 .exact cS h
 .exact cS h
 .exact cS h
 .exact cS h
 .exact cS h
inductive SV where
 |any|undef|nil
 |int (k:IntKind) (n:Int)
 |bool (b:Bool)
 |lit (b:Bool)
 |prop (p:Prop) (d:Decidable p)
 |str (s:ByteArray)
 |agg (l:List SV)
 |tup (l:List SV)
 |lst (t:LT) (l:List t.ty)
 |sl (n:Nat) (cells:List SV)
 |pe (t:LT) (l:List t.ty) (i off:Nat)
 |pro (cells:List SV) (off:Nat)
 |fn (f:Nat) (first caps:List SV)
 |fnp (f:Nat) (first caps:List SV)
 |clo1 (pv:PV) (t:LT) (q:t.ty->Bool) (dom:t.ty->Prop)
 |clo2 (pv:PV) (t:LT) (q:t.ty->t.ty->Int) (dom:t.ty->t.ty->Prop)
 |ptr (s off:Nat)
 |pte (s:Nat) (t:LT) (i off:Nat)
 |own (s:Nat) (t:LT) (n:Nat)
 |owns (s:Nat) (t:LT) (o n:Nat)
 |ownx (s n:Nat)
 |ptb (F:Nat->Bool) (n off:Nat)
 |ownf (x:Nat) (t:LT) (a n:Nat)
 |ptef (x:Nat) (t:LT) (a i off:Nat)
 |ptf (x a:Nat)
 |owF (x n:Nat)
 |junk
 |mp (s:Nat)
def NM:Nat:=1000000
def ncl(x:Nat):Nat:=x % NM
def idx(s:Nat):Nat:=(s/2^cls s-1)/2
def Aw(n i:Nat):idx (sit n i)=i:=by unfold idx;rw[fT];unfold sit;rw[Nat.mul_div_cancel_left _ (by grind)];omega
def HN(n i:Nat):0<sit n i:=Nat.mul_pos (by grind) (by omega)
structure Sites where
 inn:Nat->Nat->Nat
 nm:Nat->Nat
 sub:Nat->Nat
 h1:∀x a,nm (inn x a)=x
 h2:∀x a,sub (inn x a)=a
 h3:∀x a,cls (inn x a)=ncl x
 h4:∀x,x<NM->inn x 0=sit x 0
theorem Te:Nonempty Sites:=⟨⟨λx a=>sit (x % NM) (sit (x/NM) a-1),λs=>cls (idx s+1)*NM+cls s,λs=>idx (idx s+1),
 λx a=>by rw[Aw,fT,Nat.sub_add_cancel (HN _ _),fT];exact Nat.div_add_mod' x NM,
 λx a=>by rw[Aw,Nat.sub_add_cancel (HN _ _),Aw],
 λx a=>fT _ _,
 λx h=>by rw[oJ h,Nat.div_eq_of_lt h];rfl⟩⟩
def sites:Sites:=Classical.choice Te
def inn(x a:Nat):Nat:=sites.inn x a
def aD(x:Nat):Nat:=inn x 0
def nm(s:Nat):Nat:=sites.nm s
def sub(s:Nat):Nat:=sites.sub s
def l9(x a:Nat):nm (inn x a)=x:=sites.h1 x a
def l5(x a:Nat):sub (inn x a)=a:=sites.h2 x a
def cP(x a:Nat):cls (inn x a)=ncl x:=sites.h3 x a
def cI{x y a b:Nat}(h:inn x a=inn y b):x=y/\a=b:=⟨by rw[<-l9 x a,h,l9],by rw[<-l5 x a,h,l5]⟩
def eL{x y:Nat}(h:aD x=aD y):x=y:=(cI h).1
def vU{x:Nat}(h:x<NM):aD x=sit x 0:=sites.h4 x h
def xh(n:Nat)(F:Nat->Bool):List PV:=(bO n).map λk=> .bool (F k)
def Vs(F:Nat->Bool){n k:Nat}(h:k<n):(xh n F)[k]? =some (.bool (F k)):=by unfold xh;grind
def gq(l:List AV):AV:=match bJ l with|some q=> .p (.tup q)|none=> .tup l
mutual
def SV.av:SV->AV
 | .any=> .any
 | .undef=> .undef
 | .nil=> .nil
 | .int k n=> .p (.int k n)
 | .bool b=> .p (.bool b)
 | .lit b=> .p (.bool b)
 | .prop p d=> .p (.bool (@decide p d))
 | .str s=> .p (.str s)
 | .agg l=>d9 (avs l)
 | .tup l=>gq (avs l)
 | .lst t l=> .p (.sl l.length (t.enc l))
 | .sl n cs=>(match bJ (avs cs)with|some q=> .p (.sl n q)|none=> .any)
 | .pe t l i off=> .p (.pro (t.enc l) (i*t.w+off))
 | .pro cs off=>(match bJ (avs cs)with|some q=> .p (.pro q off)|none=> .any)
 | .fn f a b=> .fn (.func f) (avs a) (avs b)
 | .fnp f a b=>(match bJ (avs a),bJ (avs b)with|some x,some y=> .p (.fn (.func f) x y)|_,_=> .any)
 | .clo1 pv _ _ _=> .p pv
 | .clo2 pv _ _ _=> .p pv
 | .ptr s off=> .ptr (aD s) off
 | .pte s t i off=> .ptr (aD s) (i*t.w+off)
 | .own s _ n=> .own (aD s) 0 n
 | .owns s t o n=> .own (aD s) (o*t.w) n
 | .ownx s n=> .own (aD s) 0 n
 | .ptb F n off=> .p (.pro (xh n F) off)
 | .ownf x _ a n=> .own (inn x (a+1)) 0 n
 | .ptef x t a i off=> .ptr (inn x (a+1)) (i*t.w+off)
 | .ptf x a=> .ptr (aD x) a
 | .owF x n=> .own (aD x) 0 n
 | .junk=> .p .junk
 | .mp s=> .mp (aD s)
def avs:List SV->List AV
 |[] =>[]
 |x::l=>x.av::avs l
end
def gC:∀l:List SV,avs l=l.map SV.av
 |[] =>rfl
 |x::l=>by rw[avs,gC l];rfl
def fh(l:List SV):(avs l).length=l.length:=by rw[gC,eB]
def lr(l m:List SV):avs (l++m)=avs l++avs m:=by rw[gC,gC,gC,d7]
def wM(l:List SV)(k:Nat):avs (l.drop k)=(avs l).drop k:=by rw[gC,gC,vE]
def tF(l:List SV)(k:Nat):avs (l.take k)=(avs l).take k:=by rw[gC,gC,sD]
def qo(l:List SV)(k:Nat):(avs l)[k]? =(l[k]?).map SV.av:=by rw[gC,dw]
def wb(l:List SV)(k:Nat)(x:SV):avs (l.set k x)=(avs l).set k x.av:=by rw[gC,gC,List.map_set]
def LT.row:(t:LT)->t.ty->List SV
 | .V=>λv=>[.int .i64 v.x,.int .i64 v.y]
 | .S=>λs=>[.int .i64 s.a.x,.int .i64 s.a.y,.int .i64 s.b.x,.int .i64 s.b.y]
 | .R=>λr=>[.lst .V r]
 | .I=>λn=>[.int .i64 n]
 | .B=>λb=>[.bool b]
 | .P=>λp=>[.int .i64 p.1,.int .i64 p.2]
 | .Q=>λr=>[.lst .I r]
 | .T=>λp=>[.int .i64 p.x,.int .i64 p.y,.int .i64 p.den]
 | .U=>λr=>[.lst .T r]
 | .E=>λe=>[.int .i64 e.fr,.int .i64 e.to,.int .i64 e.lf,.int .i64 e.rt,.lst .I e.src]
 | .F=>λr=>[.lst .Q r]
def LT.wm(t:LT)(x:t.ty):avs (t.row x)=(t.rowP x).map .p:=by cases t<;>rfl
def LT.dec:(t:LT)->List SV->Option t.ty
 | .V,[.int .i64 x,.int .i64 y] =>some ⟨x,y⟩
 | .S,[.int .i64 a,.int .i64 b,.int .i64 c,.int .i64 d] =>some ⟨⟨a,b⟩,⟨c,d⟩⟩
 | .R,[.lst .V r] =>some r
 | .R,[.nil] =>none
 | .I,[.int .i64 n] =>some n
 | .Q,[.lst .I r] =>some r
 | .T,[.int .i64 x,.int .i64 y,.int .i64 d] =>some ⟨x,y,d⟩
 | .U,[.lst .T r] =>some r
 | .E,[.int .i64 a,.int .i64 b,.int .i64 c,.int .i64 d,.lst .I r] =>some ⟨a,b,c,d,r⟩
 | .F,[.lst .Q r] =>some r
 | .B,[.bool b] =>some b
 | .B,[.lit b] =>some b
 | .B,[.prop p d] =>some (@decide p d)
 | .P,[.int .i64 (.ofNat a),.int .i64 (.ofNat b)] =>some (a,b)
 |_,_=>none
def LT.uF{t:LT}{cs:List SV}{x:t.ty}(h:t.dec cs=some x):avs cs=(t.rowP x).map .p:=by unfold LT.dec at h;split at h<;>first|(cases h;done)|(cases h;rfl)
def LT.decs(t:LT):Nat->List SV->Option (List t.ty)
 |0,[] =>some []
 |0,_=>none
 |n+1,cs=>match t.dec (cs.take t.w),t.decs n (cs.drop t.w)with
  |some x,some l=>some (x::l)
  |_,_=>none
def LT.pO{t:LT}:∀{n:Nat} {cs:List SV} {l:List t.ty},t.decs n cs=some l->l.length=n/\avs cs=(t.enc l).map .p
 |0,[],l,h=>by simp only[LT.decs,fO]at h;subst h;exact⟨rfl,rfl⟩
 |0,_::_,l,h=>by simp[LT.decs]at h
 |n+1,cs,l,h=>by
  unfold LT.decs at h;split at h
  .rename_i x l' h1 h2;cases h;obtain⟨h3,h4⟩:=LT.pO h2;have h5:=LT.uF h1;refine⟨by simp[h3],?_⟩;have h6:avs cs=avs (cs.take t.w)++avs (cs.drop t.w):=by rw[<-lr,oU]
   rw[h6,h5,h4];simp only[LT.enc,qC,d7]
  .cases h
def cW:∀l:List PV,bJ (l.map .p)=some l
 |[] =>rfl
 |x::l=>by simp only[cV,bJ,cW l,dn]
def oe(l:List PV):d9 (l.map .p)= .p (.agg l):=by unfold d9;rw[cW]
def LT.sub(t:LT)(l:List t.ty){i:Nat}(h:i<l.length)(off m:Nat)(hm:off+m<=t.w):
  ((t.enc l).drop (i*t.w+off)).take m=((t.rowP (t.nth l i)).drop off).take m:=by
 rw[LT.nth_eq t l h];exact t.wide.sub l h off m hm
def LT.get(t:LT)(l:List t.ty){i:Nat}(h:i<l.length)(off:Nat)(hm:off<t.w):
  (t.enc l)[i*t.w+off]? =(t.rowP (t.nth l i))[off]? :=by
 have h1:=congrArg (λl=>l[0]?) (LT.sub t l h off 1 (by omega));grind
def svK:Value->SV
 | .int k n=> .int k n
 | .bool b=> .lit b
 | .string s=> .str s
 | .slice none 0 0=> .nil
 |_=> .any
def JB(v:Value):(svK v).av=ib v:=by unfold svK;split<;>simp only[SV.av,ib]
def Aa:∀vs:List Value,avs (vs.map svK)=vs.map ib
 |[] =>rfl
 |v::vs=>by simp only[cV,avs,JB,Aa vs]
def svC:Value->SV
 | .agg cs=>if cs.toList.all (·.oneCell')=true then .agg (cs.toList.map svK)else .any
 | .tuple vs=>if vs.toList=[]then .undef else .any
 |v=>svK v
def Yz(v:Value):(svC v).av=pJ v:=by
 unfold svC;split
 .split<;>rename_i h<;>simp only[pJ,SV.av,Aa,h] <;>rfl
 .split<;>rename_i h<;>simp only[pJ,SV.av,h,if_true,if_false]
 .rw[JB];unfold pJ;grind
abbrev Frm:=List (Nat×SV)
def Frm.at:Frm->Nat->SV
 |[],_=> .undef
 |(d,v)::F,t=>match ae t d with|true=>v|false=>Frm.at F t
def Frm.cd(d:Nat)(v:SV)(F:Frm)(t:Nat):Frm.at ((d,v)::F) t=if t=d then v else Frm.at F t:=by
 conv=>lhs;unfold Frm.at
 split
 .simp_all
 .rename_i h;rw[if_neg (f9 h)]
def Frm.av(n:Nat)(F:Frm):List AV:=(bO n).map λt=>(F.at t).av
def Frm.eH(n:Nat)(F:Frm):(F.av n).length=n:=by simp[Frm.av]
def Frm.fi{n:Nat}{F:Frm}{t:Nat}(h:t<n):(F.av n).getD t .any=(F.at t).av:=by unfold Frm.av;grind
def Frm.pX{n:Nat}{F:Frm}{d:Nat}{v:SV}(h:d<n):cJ (F.av n) (some d) v.av=Frm.av n ((d,v)::F):=by
 unfold cJ;apply ke;intro i;rw[gZ];by_cases hi:i<n
 .by_cases e:d=i
  .subst e;rw[if_pos rfl,if_pos (by rw[Frm.eH];exact h)];unfold Frm.av;rw[dw,kg h,dn,Frm.cd,if_pos rfl]
  .rw[if_neg e];unfold Frm.av;rw[dw,dw,kg hi,dn,dn,Frm.cd,if_neg (by grind)]
 .have h1:(Frm.av n ((d,v)::F))[i]? =none:=eQ (by rw[Frm.eH];omega);have h2:(F.av n)[i]? =none:=eQ (by rw[Frm.eH];omega);grind
def cA(n:Nat)(F:Frm):Operand->SV
 | .tmp t=>(match dG t n with|true=>F.at t|false=> .any)
 | .const v=>svC v
 | .func f=> .fnp f [] []
 | .global _=> .any
def eT{n:Nat}{F:Frm}(x:Operand):(cA n F x).av=dC (F.av n) x:=by
 cases x with
 |tmp t=>
  show(match dG t n with|true=>F.at t|false=>SV.any).av=(F.av n).getD t .any;cases h:dG t n with
  |true=>rw[Frm.fi (by simp_all)]
  |false=>
   have h2:¬(t+1<=n):=λhh=>by have:=Nat.ble_eq_true_of_le hh;rw[show dG t n=iV (t+1) n from rfl]at h;grind
   rw[bq,eQ (by rw[Frm.eH];grind)];rfl
 |const v=>exact Yz v
 |func f=>rfl
 |global g=>rfl
inductive SOb where
 |box (ty:TypeId) (cells:List SV)
 |row (ty:TypeId) (t:LT) (l:List t.ty)
 |arr (ty esz:Nat) (cells:List SV)
 |fam (ty ity:TypeId) (t:LT) (L:List (List t.ty)) (ov:List (Nat×SV))
 |mp (ks:List (Nat×Nat))
 |mf (M:List ((Nat×Nat)×List Int))
 |it (cur:Option ((Nat×Nat)×List Int)) (M:List ((Nat×Nat)×List Int))
def mfK(f:Nat->Nat):Nat->List ((Nat×Nat)×List Int)->List (List Int×AV)
 |_,[] =>[]
 |i,q::M=>([(q.1.1:Int),(q.1.2:Int)],.own (f i) 0 q.2.length)::mfK f (i+1) M
def itE(q:(Nat×Nat)×List Int):List Int×PV:=([(q.1.1:Int),(q.1.2:Int)],.sl q.2.length (LT.enc .I q.2))
def itK(M:List ((Nat×Nat)×List Int)):List (List Int×AV):=M.map λq=>((itE q).1,.p (itE q).2)
def itQ:Option ((Nat×Nat)×List Int)->AV
 |none=> .any
 |some q=> .tup [.p (.agg (eu (itE q).1)),.p (itE q).2]
def wD:∀M:List ((Nat×Nat)×List Int),cB (itK M)=(M.flatMap λq=>[PV.agg (eu (itE q).1),(itE q).2]).map .p
 |[] =>rfl
 |q::M=>by
  have:=wD M;unfold cB itK at*;grind
def cu(x:Nat){α:Type}(L:List (List α))(ov:List (Nat×SV))(i:Nat):AV:=match ov.lookup i with
 |some v=>v.av
 |none=> .own (inn x (i+1)) 0 (L.getD i []).length
def fU(ks:List (Nat×Nat)):List (List Int×AV):=ks.map λk=>([(k.1:Int),(k.2:Int)],.p (.bool true))
def oq:∀ks:List (Nat×Nat),cB (fU ks)=(ks.flatMap λk=>[PV.agg (eu [(k.1:Int),(k.2:Int)]),.bool true]).map .p
 |[] =>rfl
 |k::ks=>by
  have:=oq ks;unfold cB fU at*;grind
def SOb.ob(x:Nat):SOb->Ob
 | .box ty cs=>⟨ty,0,avs cs⟩
 | .row ty t l=>⟨ty,t.w,(t.enc l).map .p⟩
 | .arr ty esz cs=>⟨ty,esz,avs cs⟩
 | .fam ty _ _ L ov=>⟨ty,1,(bO L.length).map (cu x L ov)⟩
 | .mp ks=>⟨1,0,cB (fU ks)⟩
 | .mf M=>⟨1,0,cB (mfK (λi=>inn x (i+1)) 0 M)⟩
 | .it cur M=>itC (aD x) (inn x 1) (itQ cur) (itK M)
def SOb.inner(a:Nat):SOb->Option Ob
 | .fam _ ity t L ov=>(match ov.lookup a with|some _=>none|none=>(L[a]?).map λl=>⟨ity,t.w,(t.enc l).map .p⟩)
 | .mf M=>(M[a]?).map λq=>⟨3,1,(LT.enc .I q.2).map .p⟩
 |_=>none
def SOb.flat:SOb->Bool
 | .fam .. =>false
 | .mf _=>false
 |_=>true
def SOb.vW{ob:SOb}(h:ob.flat=true)(a:Nat):ob.inner a=none:=by cases ob<;>first|rfl|cases h
abbrev aJ:=List (Nat×Option SOb)
def aJ.at:aJ->Nat->Option SOb
 |[],_=>none
 |(k,x)::L,s=>match ae s k with|true=>x|false=>aJ.at L s
abbrev Sg:=Nat->Option SOb
open Classical in
def Sg.a(σ:Sg):Sto:=λs=>if inn (nm s) (sub s)=s then(match sub s with
 |0=>(σ (nm s)).map (SOb.ob (nm s))
 |a+1=>(σ (nm s)).bind (SOb.inner a))else none
def Sg.bW(σ:Sg)(x:Nat):σ.a (aD x)=(σ x).map (SOb.ob x):=by unfold Sg.a aD;rw[l5,l9,if_pos rfl]
def Sg.co(σ:Sg)(x a:Nat):σ.a (inn x (a+1))=(σ x).bind (SOb.inner a):=by unfold Sg.a;rw[l5,l9,if_pos rfl]
def Sg.fp(σ:Sg){s:Nat}(h:∀x a,s≠inn x a):σ.a s=none:=by unfold Sg.a;grind
def gR(s:Nat):(∃x,s=aD x)\/(∃x a,s=inn x (a+1))\/∀x a,s≠inn x a:=by
 by_cases h:∃x a,s=inn x a
 .obtain⟨x,a,rfl⟩:=h;cases a with
  |zero=>exact .inl ⟨x,rfl⟩
  |succ a=>grind
 grind
def aJ.up(W:aJ)(σ:Sg):Sg:=λs=>match W.lookup s with|some x=>x|none=>σ s
def aJ.pd(W L:aJ):W.up L.at=(W++L).at:=by
 funext s
 unfold aJ.up;induction W with
 |nil=>rfl
 |cons q W ih=>
  obtain⟨k,x⟩:=q;show _=(match ae s k with|true=>x|false=>aJ.at (W++L) s);rw[dJ];cases h:ae s k with
  |true=>simp_all
  |false=>rw[beq_eq_false_iff_ne.2 (f9 h)];exact ih
def bI(σ:Sg)(rd:List Nat)(W:aJ)(R':List Nat)(W':List (Nat×Option Ob)):Prop:=
 inC R' (rd.map ncl)/\inC (W'.map (·.1)) (W.map λq=>ncl q.1)/\aX σ.a W'=(W.up σ).a
def bI.read(σ:Sg)(rd:List Nat):bI σ rd [] (rd.map aD) [] :=by refine⟨λs hs=> ?_,λs hs=>by grind,rfl⟩;obtain⟨x,hx,rfl⟩:=cF.1 hs;rw[show cls (aD x)=ncl x from cP x 0];grind
def frs(σ:Sg)(n:Nat):Bool:=match dG n NM,σ n with
 |true,none=>true
 |_,_=>false
def gj{σ:Sg}{n:Nat}(h:frs σ n=true):aD n=sit n 0/\σ n=none:=by
 unfold frs at h;split at h
 .rename_i h1 h2;exact⟨vU (by simp_all),h2⟩
 .cases h
def mM:Option SOb->Bool
 |some ob=>ob.flat
 |none=>true
def aJ.sto(W:aJ):List (Nat×Option Ob):=W.map λq=>(aD q.1,q.2.map (SOb.ob q.1))
def Tq(W:aJ)(x:Nat):W.sto.lookup (aD x)=(W.lookup x).map λo=>o.map (SOb.ob x):=by
 induction W with
 |nil=>rfl
 |cons q W ih=>
  obtain⟨k,o⟩:=q;show((aD k,o.map (SOb.ob k))::aJ.sto W).lookup (aD x)=_;rw[dJ,dJ];by_cases h:x=k
  .subst h;simp
  .rw[beq_eq_false_iff_ne.2 h,beq_eq_false_iff_ne.2 λe=>h (eL e)];exact ih
def EW{W:aJ}{s:Nat}(h:∀x,s≠aD x):W.sto.lookup s=none:=by
 induction W with
 |nil=>rfl
 |cons q W ih=>
  show((aD q.1,q.2.map (SOb.ob q.1))::aJ.sto W).lookup s=_;grind
def bI.flat{σ:Sg}{rd:List Nat}{W:aJ}(h:∀q∈W,mM (σ q.1)=true/\mM q.2=true):bI σ rd W (rd.map aD) W.sto:=by
 refine⟨(bI.read σ rd).1,λs hs=> ?_,?_⟩
 .unfold aJ.sto at hs;rw[gg]at hs;obtain⟨q,hq,rfl⟩:=cF.1 hs;show cls (aD q.1)∈_;rw[show cls (aD q.1)=ncl q.1 from cP q.1 0];grind
 .funext s
  unfold aX;rcases gR s with⟨x,rfl⟩|⟨x,a,rfl⟩|hno
  .rw[Tq,Sg.bW,Sg.bW];unfold aJ.up;grind
  .rw[EW λy e=>by have:=(cI e).2;omega,Sg.co,Sg.co];unfold aJ.up;cases hl:W.lookup x with
   |none=>rfl
   |some o=>
    have hm:(x,o)∈W:=by
     clear h;induction W with
     |nil=>cases hl
     |cons q W ih=>
      grind
    obtain⟨h1,h2⟩:=h _ hm;have nofam:∀p:Option SOb,mM p=true->p.bind (SOb.inner a)=none:=λp hp=>by
     cases p with
     |none=>rfl
     |some ob=>exact SOb.vW hp a
    grind
  .rw[EW λy e=>hno y 0 e,Sg.fp σ hno,Sg.fp _ hno]
end
noncomputable section
def aG(x:Int):Prop:= -9223372036854775808<=x/\x<=9223372036854775807
def Ew{x:Int}(h:aG x):d6.wrap x=x:=by unfold aG at h;exact IntWalk.i64_in _ (by omega)
def ix(a:Int)(n:Nat):Prop:=0<=a/\a<(n:Int)
def uA{k n:Nat}(h:k<n):ix k n:=⟨by omega,by omega⟩
def fK{k n:Nat}(h:0<n):ix (((k % n:Nat):Int)) n:=uA (eO _ h)
abbrev SR:=Option (List Prop×SV×List Nat×aJ)
abbrev SE:=Operand->SV
def SE.a(E:SE):Operand->AV:=λx=>(E x).av
def n7(P:Program)(n:Nat)(o:Oper)(E:SE)(σ:Sg)(R:SR):Prop:=
 ∀ps r rd W,R=some (ps,r,rd,W)->(∀p∈ps,p)->AOp P n o E.a σ.a λr' R' W'=>r'=r.av/\bI σ rd W R' W'
def SV.ok:SV->Prop
 | .pe _ l i _=>i<l.length
 |_=>True
def SV.ape:SV->Bool
 | .pe .. =>true
 |_=>false
def SV.jt{v:SV}(h:v.ape=false):v.ok:=by cases v<;>first|trivial|cases h
def uH(x:SV):Option (List SV):=match x with
 | .agg l=>some l
 | .tup _=>none
 | .any=>none
 | .undef=>none
 | .sl n cs=>(match bJ (avs cs)with|some _=>some [.sl n cs] |none=>none)
 | .pro cs o=>(match bJ (avs cs)with|some _=>some [.pro cs o] |none=>none)
 | .fnp f a b=>(match bJ (avs a),bJ (avs b)with|some _,some _=>some [.fnp f a b] |_,_=>none)
 | .clo1 .. =>none
 | .clo2 .. =>none
 | .junk=>none
 |x=>some [x]
def Sx(l:List AV):jR (d9 l)=some l:=by
 unfold d9;cases h:bJ l with
 |some q=>rw[show jR (.p (.agg q))=some (q.map .p)from rfl,<-fR h]
 |none=>rfl
def zZ{x:SV}{l:List SV}(h:uH x=some l):jR x.av=some (avs l):=by
 cases x<;>simp only[uH,reduceCtorEq,fO]at h<;>first|(subst h;rfl)|skip
 .subst h;exact Sx _
 .rename_i n cs;cases hq:bJ (avs cs)with
  |none=>grind
  |some q=>rw[hq]at h;cases h;simp only[avs,SV.av,hq,jR]
 .rename_i cs o;cases hq:bJ (avs cs)with
  |none=>grind
  |some q=>rw[hq]at h;cases h;simp only[avs,SV.av,hq,jR]
 .rename_i f a b;cases ha:bJ (avs a)<;>cases hb:bJ (avs b)<;>rw[ha,hb]at h<;>simp only[reduceCtorEq,fO]at h;subst h;simp only[avs,SV.av,ha,hb,jR]
def jW(cs:List SV)(off:Nat):List SV->List SV
 |[] =>cs
 |x::l=>jW (cs.set off x) (off+1) l
def qd:∀(l cs:List SV) (off:Nat),avs (jW cs off l)=c7 (avs cs) off (avs l)
 |[],cs,off=>rfl
 |x::l,cs,off=>by rw[jW,qd l,wb];rfl
def rR(place:Nat->Option (Nat×Nat))(cells:List SV):List (Nat×SV)->Option (List SV)
 |[] =>some cells
 |(i,v)::rest=>match place i,uH v with
  |some (off,size),some l=>(match ae l.length size,iV (off+size) cells.length with
   |true,true=>rR place (jW cells off l) rest
   |_,_=>none)
  |_,_=>none
def AL{place:Nat->Option (Nat×Nat)}:∀(parts:List (Nat×SV)) {cells l:List SV},rR place cells parts=some l->kS place (avs cells) (parts.map λq=>(q.1,q.2.av))=some (avs l)
 |[],cells,l,h=>by simp only[rR,fO]at h;subst h;rfl
 |(i,v)::rest,cells,l,h=>by
  unfold rR at h;split at h
  .rename_i off size m h1 h2;split at h
   .have:=AL rest h;show(match place i,jR v.av with|some (off,size),some l=>if l.length=size/\off+size<=(avs cells).length then kS place (c7 (avs cells) off l) (rest.map λ(q:Nat×SV)=>(q.1,q.2.av))else none|_,_=>none)=_;rw[h1,zZ h2];dsimp only;rw[if_pos ⟨by rw[fh];simp_all,by rw[fh];simp_all⟩,<-qd];exact this
   .cases h
  .cases h
def lL(P:Program)(t:TypeId)(cs:List SV)(off:Nat):Option SV:=match tok P t,fu P t with
 |true,true=>(match ae ((cs.drop off).take (aj P t)).length (aj P t)with|true=>some (.agg ((cs.drop off).take (aj P t)))|false=>none)
 |true,false=>cs[off]?
 |false,_=>none
def nL{P:Program}{t:TypeId}{cs:List SV}{off:Nat}{r:SV}(h:lL P t cs off=some r){K:AV->Prop}(hK:K r.av):nq P t (avs cs) off K:=by
 unfold lL at h;split at h
 .rename_i h1 h2;split at h
  .cases h;refine⟨h1,?_⟩;rw[if_pos h2];refine⟨_,rfl,?_,?_⟩
   .rw[<-wM,<-tF,fh];simp_all
   .rw[<-wM,<-tF];exact hK
  .cases h
 .rename_i h1 h2;refine⟨h1,?_⟩;rw[if_neg (by rw[h2];simp)];exact⟨r.av,by rw[qo,h];rfl,hK⟩
 .cases h
def AG{P:Program}{t:TypeId}{cs:List PV}{off:Nat}{K:AV->Prop}(h:nq P t (cs.map .p) off K):CM P t cs off λr=>K (.p r):=by
 obtain⟨h1,h2⟩:=h;refine⟨h1,?_⟩;split at h2
 .rename_i hg;rw[if_pos hg];obtain⟨l,h3,h4,h5⟩:=h2;refine⟨(cs.drop off).take (aj P t),rfl,?_,?_⟩
  .grind
  .rw[<-h3,<-vE,<-sD,oe]at h5;exact h5
 grind
def zM{P:Program}{t:TypeId}{lt:LT}{l:List lt.ty}{i off:Nat}(hi:i<l.length)(hoff:off+(match fu P t with|true=>aj P t|false=>1)<=lt.w){f:List PV->List AV}(hf:f=List.map .p){K:AV->Prop}
  (h:nq P t (f (lt.rowP (lt.nth l i))) off K):nq P t (f (lt.enc l)) (i*lt.w+off) K:=by
 subst hf;obtain⟨h1,h2⟩:=h;refine⟨h1,?_⟩;split at h2
 .rename_i hg;rw[hg]at hoff;rw[if_pos hg];obtain⟨m,h3,h4,h5⟩:=h2;refine⟨m,?_,h4,h5⟩;rw[<-vE,<-sD,LT.sub lt l hi off _ hoff,<-h3,sD,vE]
 .rename_i hg;have hg':fu P t=false:=by simpa using hg
  rw[if_neg hg];obtain⟨x,h3,h4⟩:=h2;refine⟨x,?_,h4⟩;rw[dw]at h3|-;rw[LT.get lt l hi off (by grind)];exact h3
def jC:List (Nat×SV)->Nat->List Prop
 |[],_=>[]
 |q::l,a=>(a≠q.1)::jC l a
def oj:∀{ov:List (Nat×SV)} {a:Nat},(∀p∈jC ov a,p)->ov.lookup a=none
 |[],_,_=>rfl
 |q::l,a,h=>by
  rw[dJ,beq_eq_false_iff_ne.2 (h _ eG)];exact oj λp hp=>h p (dK _ hp)
def bI.readI(σ:Sg)(x a:Nat):bI σ [x] [] [inn x (a+1)] [] :=by refine⟨λs hs=> ?_,λs hs=>by grind,rfl⟩;rw[bM.1 hs,cP];grind
def Wv(x:Nat){α:Type}(L:List (List α))(ov:List (Nat×SV)){a:Nat}(h:a<L.length):((bO L.length).map (cu x L ov))[a]? =some (cu x L ov a):=by grind
def zP{σ:Sg}{x a:Nat}{ty ity:TypeId}{lt:LT}{L:List (List lt.ty)}{ov:List (Nat×SV)}(hs:σ x=some (.fam ty ity lt L ov))(ha:a<L.length)(ho:ov.lookup a=none):σ.a (inn x (a+1))=some ⟨ity,lt.w,(lt.enc (L.getD a [])).map .p⟩:=by rw[Sg.co,hs];show(match ov.lookup a with|some _=>none|none=>(L[a]?).map λl=>(⟨ity,lt.w,(lt.enc l).map .p⟩:Ob))=_;grind
def bI.cell{σ:Sg}{x:Nat}{ty ity:TypeId}{lt:LT}{L:List (List lt.ty)}{q:Nat×SV}{ov:List (Nat×SV)}{v:SV}(hs:σ x=some (.fam ty ity lt L (q::ov))):
  bI σ [x] [(x,some (.fam ty ity lt L ((q.1,v)::ov)))] [aD x] [(aD x,some ⟨ty,1,((bO L.length).map (cu x L (q::ov))).set q.1 v.av⟩)] :=by
 refine⟨(bI.read σ [x]).1,λs hs=> ?_,?_⟩
 .rw[bM.1 hs];rw[show cls (aD x)=ncl x from cP x 0];grind
 .funext s
  unfold aX;rcases gR s with⟨y,rfl⟩|⟨y,b,rfl⟩|hno
  .rw[Sg.bW,Sg.bW,dJ];unfold aJ.up;rw[dJ];by_cases e:y=x
   .subst e;rw[beq_iff_eq.2 rfl,beq_iff_eq.2 rfl];dsimp only[dn]
    congr 1
    congr 1
    refine yV (by simp) λi h1 h2=> ?_;rw[List.getElem_set];unfold cu;grind
   .rw[beq_eq_false_iff_ne.2 e,beq_eq_false_iff_ne.2 λh=>e (eL h)];rfl
  .rw[Sg.co,Sg.co,dJ,beq_eq_false_iff_ne.2 λh=>by have:=(cI h).2;omega];unfold aJ.up;rw[dJ];by_cases e:y=x
   .subst e;rw[beq_iff_eq.2 rfl,hs];unfold SOb.inner;grind
   grind
  .rw[Sg.fp _ hno,Sg.fp _ hno,dJ,beq_eq_false_iff_ne.2 (show s≠aD x from λh=>hno x 0 h)];rfl
def uN(P:Program)(t:TypeId)(x:SV)(σ:Sg):SR:=match x with
 | .pe lt l i off=>(match iV (off+(match fu P t with|true=>aj P t|false=>1)) lt.w,lL P t (lt.row (lt.nth l i)) off with
   |true,some r=>some ([],r,[],[])
   |_,_=>none)
 | .pro cs off=>(match bJ (avs cs),lL P t cs off with
   |some _,some r=>some ([],r,[],[])
   |_,_=>none)
 | .ptb F n off=>(match tok P t,fu P t with
   |true,false=>some ([off<n],.bool (F off),[],[])
   |_,_=>none)
 | .ptr s off=>(match σ s with
   |some (.box _ cs)=>(match lL P t cs off with|some r=>some ([],r,[s],[])|none=>none)
   |some (.arr _ _ cs)=>(match lL P t cs off with|some r=>some ([],r,[s],[])|none=>none)
   |_=>none)
 | .pte s lt i off=>(match σ s with
   |some (.row _ lt' l)=>(match decEq lt' lt,iV (off+(match fu P t with|true=>aj P t|false=>1)) lt'.w,lL P t (lt'.row (lt'.nth l i)) off with
    | .isTrue _,true,some r=>some ([i<l.length],r,[s],[])
    |_,_,_=>none)
   |_=>none)
 | .ptf x a=>(match σ x with
   |some (.fam _ _ lt L ov)=>(match tok P t,fu P t with
    |true,false=>some ((a<L.length)::jC ov a,.ownf x lt a (L.getD a []).length,[x],[])
    |_,_=>none)
   |_=>none)
 | .ptef x lt a i off=>(match σ x with
   |some (.fam _ _ lt' L ov)=>(match decEq lt' lt,iV (off+(match fu P t with|true=>aj P t|false=>1)) lt'.w,lL P t (lt'.row (lt'.nth (L.getD a []) i)) off with
    | .isTrue _,true,some r=>some ((a<L.length)::(i<(L.getD a []).length)::jC ov a,r,[x],[])
    |_,_,_=>none)
   |_=>none)
 |_=>none
def V7{P:Program}{n:Nat}{o:Oper}{E:SE}{σ:Sg}{t:TypeId}{x:Operand}(ho:o.op= .load t x)(hx:(E x).ok):n7 P n o E σ (uN P t (E x) σ):=by
 intro ps r rd W h hp;unfold AOp;rw[ho];dsimp only;unfold uN at h;split at h
 .rename_i lt l i off e;split at h<;>cases h;rename_i h1 h2;rw[e]at hx;rw[show E.a x= .p (.pro (lt.enc l) (i*lt.w+off)) by unfold SE.a;rw[e];rfl];refine AG (K:=λr'=>r'=r.av/\_) ?_;refine zM hx (jJ h1) rfl ?_;rw[<-LT.wm];exact nL h2 ⟨rfl,bI.read σ []⟩
 .rename_i cs off e;split at h<;>cases h;rename_i q h1 h2;rw[show E.a x= .p (.pro q off) by unfold SE.a;rw[e];simp only[SV.av,h1]];refine AG (K:=λr'=>r'=r.av/\_) ?_;rw[<-fR h1];exact nL h2 ⟨rfl,bI.read σ []⟩
 .rename_i F m off e;split at h<;>cases h;rename_i h1 h2;have hlt:off<m:=hp _ (by grind);rw[show E.a x= .p (.pro (xh m F) off) by unfold SE.a;rw[e];rfl];refine AG (K:=λr'=>r'=(SV.bool (F off)).av/\_) ?_;exact⟨h1,by rw[if_neg (by rw[h2];simp)];exact⟨.p (.bool (F off)),by rw[dw,Vs F hlt];rfl,rfl,bI.read σ []⟩⟩
 .rename_i s off e;rw[show E.a x= .ptr (aD s) off by unfold SE.a;rw[e];rfl];split at h
  .rename_i ty cs hs;split at h<;>cases h;rename_i h2;refine⟨_,by rw[Sg.bW,hs];rfl,?_⟩;exact nL h2 ⟨rfl,bI.read σ [s]⟩
  .rename_i ty ez cs hs;split at h<;>cases h;rename_i h2;refine⟨_,by rw[Sg.bW,hs];rfl,?_⟩;exact nL h2 ⟨rfl,bI.read σ [s]⟩
  .cases h
 .rename_i s lt i off e;rw[show E.a x= .ptr (aD s) (i*lt.w+off) by unfold SE.a;rw[e];rfl];split at h
  .rename_i ty lt' l hs;split at h<;>cases h;rename_i he h1 h2 h3;subst he;refine⟨_,by rw[Sg.bW,hs];rfl,?_⟩;refine zM (hp _ (by simp)) (jJ h2) rfl ?_;rw[<-LT.wm];exact nL h3 ⟨rfl,bI.read σ [s]⟩
  .cases h
 .rename_i y a e;rw[show E.a x= .ptr (aD y) a by unfold SE.a;rw[e];rfl];split at h
  .rename_i ty ity lt L ov hs;split at h<;>cases h;rename_i h1 h2;have ha:a<L.length:=hp _ (by grind);have ho:ov.lookup a=none:=oj (by grind);refine⟨_,by rw[Sg.bW,hs];rfl,h1,?_⟩;rw[if_neg (by rw[h2];simp)];refine⟨_,Wv y L ov ha,?_,bI.read σ [y]⟩;unfold cu;rw[ho];rfl
  .cases h
 .rename_i y lt a i off e;rw[show E.a x= .ptr (inn y (a+1)) (i*lt.w+off) by unfold SE.a;rw[e];rfl];split at h
  .rename_i ty ity lt' L ov hs;split at h<;>cases h;rename_i he h1 h2 h3;subst he;have ha:a<L.length:=hp _ (by grind);have hi:i<(L.getD a []).length:=hp _ (by grind);have ho:ov.lookup a=none:=oj (by grind);refine⟨_,zP hs ha ho,?_⟩;refine zM hi (jJ h2) rfl ?_;rw[<-LT.wm];exact nL h3 ⟨rfl,bI.readI σ y a⟩
  .cases h
 .cases h
def pT(P:Program)(t:TypeId)(a v:SV)(σ:Sg):SR:=match uH v,(P.info? t).isSome with
 |some l,true=>(match ae l.length (aj P t)with
  |true=>(match a with
   | .ptr s off=>(match σ s with
     |some (.box ty cs)=>(match iV (off+l.length) cs.length with|true=>some ([],.undef,[s],[(s,some (.box ty (jW cs off l)))])|false=>none)
     |some (.arr ty ez cs)=>(match iV (off+l.length) cs.length with|true=>some ([],.undef,[s],[(s,some (.arr ty ez (jW cs off l)))])|false=>none)
     |_=>none)
   | .pte s lt i off=>(match σ s with
     |some (.row ty lt' m)=>(match decEq lt' lt,iV (off+l.length) lt'.w,lt'.dec (jW (lt'.row (lt'.nth m i)) off l)with
      | .isTrue _,true,some e=>some ([i<m.length],.undef,[s],[(s,some (.row ty lt' (m.set i e)))])
      |_,_,_=>none)
     |_=>none)
   | .ptf x a=>(match l,σ x with
     |[v],some (.fam ty ity lt L (q::ov))=>some ([a=q.1,a<L.length],.undef,[x],[(x,some (.fam ty ity lt L ((q.1,v)::ov)))])
     |_,_=>none)
   |_=>none)
  |false=>none)
 |_,_=>none
def D9{a b c l:List AV}{k off:Nat}(hk:k=a.length)(hoff:off+l.length<=b.length):c7 (a++b++c) (k+off) l=a++c7 b off l++c:=by
 induction l generalizing b off with
 |nil=>rfl
 |cons x l ih=>
  simp only[iJ]at hoff;rw[c7,c7,lj,DR _ _ (by omega),show k+off-a.length=off by omega,List.set_append_left _ _ (by omega),<-lj,show k+off+1=k+(off+1) by omega,ih (by simp;omega)]
def YW(t:LT)(l:List t.ty){i:Nat}(h:i<l.length)(e:t.ty):t.enc l=t.enc (l.take i)++t.rowP l[i] ++t.enc (l.drop (i+1))/\t.enc (l.set i e)=t.enc (l.take i)++t.rowP e++t.enc (l.drop (i+1)):=by
 constructor
 .conv=>lhs;rw[<-oU i l,<-List.getElem_cons_drop h]
  unfold LT.enc;grind
 .rw[List.set_eq_take_append_cons_drop,if_pos h];unfold LT.enc;grind
def E5{P:Program}{n:Nat}{o:Oper}{E:SE}{σ:Sg}{t:TypeId}{a x:Operand}(ho:o.op= .store t a x):n7 P n o E σ (pT P t (E a) (E x) σ):=by
 intro ps r rd W h hp;unfold AOp;rw[ho];dsimp only;unfold pT at h;split at h
 case h_2=>cases h
 rename_i l hl ht;split at h
 case h_2=>cases h
 rename_i hsz;have hl':jR (E.a x)=some (avs l):=zZ hl;have hsz':(avs l).length=aj P t:=by rw[fh];exact bp hsz
 split at h
 .rename_i s off e;rw[show E.a a= .ptr (aD s) off by unfold SE.a;rw[e];rfl];unfold qq;split at h
  .rename_i ty cs hs;split at h<;>cases h;refine⟨_,_,by rw[Sg.bW,hs];rfl,hl',hsz',ht,?_,rfl,?_⟩
   .show off+(avs l).length<=(avs cs).length;rw[fh,fh];simp_all
   .show bI _ _ _ _ [(aD s,some (⟨ty,0,c7 (avs cs) off (avs l)⟩:Ob))];rw[<-qd];exact bI.flat (W:=[(s,some (.box ty (jW cs off l)))]) λq hq=>by rw[bM.1 hq,hs];exact⟨rfl,rfl⟩
  .rename_i ty ez cs hs;split at h<;>cases h;refine⟨_,_,by rw[Sg.bW,hs];rfl,hl',hsz',ht,?_,rfl,?_⟩
   .show off+(avs l).length<=(avs cs).length;rw[fh,fh];simp_all
   .show bI _ _ _ _ [(aD s,some (⟨ty,ez,c7 (avs cs) off (avs l)⟩:Ob))];rw[<-qd];exact bI.flat (W:=[(s,some (.arr ty ez (jW cs off l)))]) λq hq=>by rw[bM.1 hq,hs];exact⟨rfl,rfl⟩
  .cases h
 .rename_i s lt i off e;rw[show E.a a= .ptr (aD s) (i*lt.w+off) by unfold SE.a;rw[e];rfl];unfold qq;split at h
  .rename_i ty lt' m hs;split at h<;>cases h;rename_i he h1 _ h2 h3;subst he;have hi:i<m.length:=hp _ (by simp);obtain⟨e1,e2⟩:=YW lt' m hi h1;have h2':=jJ h2;have hlen:(lt'.enc (m.take i)).length=i*lt'.w:=by rw[lt'.wide.length,ew,sC (by omega)]
   refine⟨_,_,by rw[Sg.bW,hs];rfl,hl',hsz',ht,?_,rfl,?_⟩
   .show i*lt'.w+off+(avs l).length<=((lt'.enc m).map AV.p).length;rw[fh,eB,lt'.wide.length];have:(i+1)*lt'.w<=m.length*lt'.w:=uz _ (by omega);grind
   .have e3:c7 ((lt'.enc m).map AV.p) (i*lt'.w+off) (avs l)=(lt'.enc (m.set i h1)).map AV.p:=by
     rw[e2,d7,d7,<-LT.uF h3,qd,LT.wm,LT.nth_eq lt' m hi]
     conv=>lhs;rw[e1,d7,d7]
     rw[D9 (by grind) (by rw[fh,eB,(lt'.wide []).2];exact h2')]
    show bI _ _ _ _ [(aD s,some (⟨ty,lt'.w,c7 ((lt'.enc m).map AV.p) (i*lt'.w+off) (avs l)⟩:Ob))];rw[e3];exact bI.flat (W:=[(s,some (.row ty lt' (m.set i h1)))]) λq hq=>by rw[bM.1 hq,hs];exact⟨rfl,rfl⟩
  .cases h
 .rename_i y b e;rw[show E.a a= .ptr (aD y) b by unfold SE.a;rw[e];rfl];unfold qq;split at h<;>cases h;rename_i v ty ity lt L q ov hs;have hb:b=q.1:=hp _ (by grind);have hL:b<L.length:=hp _ (by grind);refine⟨_,_,by rw[Sg.bW,hs];rfl,hl',hsz',ht,?_,rfl,?_⟩
  .show b+1<=((bO L.length).map (cu y L (q::ov))).length;grind
  .subst hb;exact bI.cell hs
 .cases h
def pg(P:Program)(t:TypeId):Option (List SV):=match lJ P t with
 |true=>(match P.info? t with
  |some i=>(match i.zero with|some z=>some (z.cells.toList.map svK)|none=>none)
  |none=>none)
 |false=>none
def o7{P:Program}{t:TypeId}{z:List SV}(h:pg P t=some z):mI P t=some (avs z)/\lJ P t=true:=by
 unfold pg at h;split at h
 .rename_i hz;split at h
  .rename_i i hi;split at h<;>cases h;rename_i zv hzv;refine⟨?_,hz⟩;unfold mI;rw[hi,kc,hzv,dn,Aa]
  .cases h
 .cases h
def bI.new{σ:Sg}{n:Nat}{ob:SOb}(h:σ n=none)(hs:aD n=sit n 0)(hf:ob.flat=true):bI σ [] [(n,some ob)] [] [(sit n 0,some (ob.ob n))] :=by rw[<-hs];exact bI.flat (rd:=[]) (W:=[(n,some ob)]) λq hq=>by rw[bM.1 hq,h];exact⟨rfl,hf⟩
def tn(P:Program)(σ:Sg)(n:Nat)(t:TypeId):SR:=match pg P t,frs σ n with
 |some z,true=>some ([],.ptr n 0,[],[(n,some (.box t z))])
 |_,_=>none
def Ue{P:Program}{n:Nat}{o:Oper}{E:SE}{σ:Sg}{t:TypeId}(ho:o.op= .alloc t):n7 P n o E σ (tn P σ n t):=by intro ps r rd W h hp;unfold AOp;rw[ho];unfold tn at h;split at h<;>cases h;rename_i z hz hf;obtain⟨h1,h2⟩:=o7 hz;obtain⟨f1,f2⟩:=gj hf;exact⟨_,h1,h2,by show _=AV.ptr (aD n) 0;rw[f1],bI.new f2 f1 rfl⟩
def uZ(σ:Sg)(n:Nat)(t:TypeId)(x:SV):SR:=match uH x,frs σ n with
 |some l,true=>some ([],.ptr n 0,[],[(n,some (.box t l))])
 |_,_=>none
def Xj{P:Program}{n:Nat}{o:Oper}{E:SE}{σ:Sg}{t:TypeId}{x:Operand}(ho:o.op= .box t x):n7 P n o E σ (uZ σ n t (E x)):=by intro ps r rd W h hp;unfold AOp;rw[ho];unfold uZ at h;split at h<;>cases h;rename_i l hl hf;obtain⟨f1,f2⟩:=gj hf;exact⟨_,zZ hl,by show _=AV.ptr (aD n) 0;rw[f1],bI.new f2 f1 rfl⟩
def tk(P:Program)(t:TypeId)(parts:List (Nat×SV)):SR:=match pg P t,Am P t with
 |some z,true=>(match rR (BR P t) z parts with|some l=>some ([],.agg l,[],[])|none=>none)
 |_,_=>none
def Ua{P:Program}{n:Nat}{o:Oper}{E:SE}{σ:Sg}{t:TypeId}{parts:Array (Nat×Operand)}(ho:o.op= .build t parts):n7 P n o E σ (tk P t (parts.toList.map λq=>(q.1,E q.2))):=by
 intro ps r rd W h hp;unfold AOp;rw[ho];unfold tk at h;split at h
 .rename_i z hz hk;split at h<;>cases h;rename_i l hl;obtain⟨h1,h2⟩:=o7 hz;have:=AL _ hl;rw[gg]at this;exact⟨_,h1,h2,hk,_,this,rfl,bI.read σ []⟩
 .cases h
def rb:Nat->List SV->List SV
 |0,_=>[]
 |m+1,z=>z++rb m z
def Ah(z:List SV):∀m,avs (rb m z)=j5 m (avs z)
 |0=>rfl
 |m+1=>by rw[rb,lr,Ah z m];rfl
def tL(P:Program)(σ:Sg)(n:Nat)(t:TypeId)(len:Nat)(parts:List (Nat×SV)):SR:=match bu P t with
 |some e=>(match pg P e,iV (len*aj P e) 1000000,frs σ n with
  |some (z0::zs),true,true=>(match rR (λi=>some (i*aj P e,aj P e)) (rb len (z0::zs)) parts with
   |some l=>some ([],.ownx n len,[],[(n,some (.arr e (aj P e) l))])
   |none=>none)
  |_,_,_=>none)
 |none=>none
def Th{P:Program}{n:Nat}{o:Oper}{E:SE}{σ:Sg}{t:TypeId}{len:Nat}{parts:Array (Nat×Operand)}(ho:o.op= .buildSlice t len parts):n7 P n o E σ (tL P σ n t len (parts.toList.map λq=>(q.1,E q.2))):=by
 intro ps r rd W h hp;unfold AOp;rw[ho];unfold tL at h;split at h
 .rename_i e he;split at h
  .rename_i z0 zs hz hb hf;split at h<;>cases h;rename_i l hl;obtain⟨f1,f2⟩:=gj hf;obtain⟨h1,h2⟩:=o7 hz;have:=AL _ hl;rw[gg,Ah]at this;exact⟨e,_,he,h1,h2,(by simp[avs]),jJ hb,_,this,by show _=AV.own (aD n) 0 len;rw[f1],bI.new f2 f1 rfl⟩
  .cases h
 .cases h
def B8(c a b:SV):Option SV:=match c with
 | .lit true=>some a
 | .lit false=>some b
 | .prop p d=>(match a,b with
   | .int .i64 x,.int .i64 y=>some (.int .i64 (@ite _ p d x y))
   | .bool x,.bool y=>some (.bool (@ite _ p d x y))
   | .prop q e,.lit y=>some (.bool (@ite _ p d (@decide q e) y))
   | .lit x,.prop q e=>some (.bool (@ite _ p d x (@decide q e)))
   | .bool x,.lit y=>some (.bool (@ite _ p d x y))
   | .lit x,.bool y=>some (.bool (@ite _ p d x y))
   |_,_=>none)
 | .bool c=>(match a,b with
   | .int .i64 x,.int .i64 y=>some (.int .i64 (if c=true then x else y))
   | .bool x,.bool y=>some (.bool (if c=true then x else y))
   | .bool x,.lit y=>some (.bool (if c=true then x else y))
   | .lit x,.bool y=>some (.bool (if c=true then x else y))
   |_,_=>none)
 |_=>none
def Vz{c a b r:SV}(h:B8 c a b=some r){K:AV->Prop}(hK:K r.av):rJ c.av a.av b.av K:=by
 unfold B8 at h;split at h
 .cases h;exact hK
 .cases h;exact hK
 .rename_i p d;split at h<;>cases h<;>(simp only[SV.av,rJ]at*;cases d<;>rename_i hp<;>simpa[hp]using hK)
 .rename_i c;split at h<;>cases h<;>(simp only[SV.av,rJ]at*;cases c<;>simpa using hK)
 .cases h
def BN(P:Program)(t:TypeId)(x:SV)(f:Nat):Option SV:=match mU P t f with
 |some q=>(match x with
  | .ptr s off=>some (.ptr s (off+q.1))
  | .pe lt l i off=>some (.pe lt l i (off+q.1))
  | .pte s lt i off=>some (.pte s lt i (off+q.1))
  | .ptf z b=>(match ae q.1 0 with|true=>some (.ptf z b)|false=>none)
  | .pro cs off=>(match bJ (avs cs)with|some _=>some (.pro cs (off+q.1))|none=>none)
  |_=>none)
 |none=>none
def UY{P:Program}{t:TypeId}{x:SV}{f:Nat}{r:SV}(h:BN P t x f=some r){K:AV->Prop}(hK:K r.av):Bd P t f x.av K/\(x.ok->r.ok):=by
 unfold BN at h;split at h
 .rename_i q hq;split at h
  .cases h;exact⟨⟨q,hq,hK⟩,λ_=>trivial⟩
  .cases h;exact⟨⟨q,hq,by simpa[SV.av,oO]using hK⟩,λh=>h⟩
  .cases h;exact⟨⟨q,hq,by simpa[SV.av,oO]using hK⟩,λ_=>trivial⟩
  .split at h<;>cases h;rename_i h0;have h0:=bp h0;exact⟨⟨q,hq,by simpa[SV.av,h0]using hK⟩,λ_=>trivial⟩
  .split at h<;>cases h;rename_i m hm;refine⟨⟨q,hq,?_⟩,λ_=>trivial⟩;simp only[SV.av,hm]at hK|-;exact hK
  .cases h
 .cases h
def BM(P:Program)(t:TypeId)(x:SV)(f:Nat):Option SV:=match mU P t f,x with
 |some q,.agg l=>(match tok P q.2,fu P q.2 with
  |true,true=>some (.agg ((l.drop q.1).take (aj P q.2)))
  |true,false=>l[q.1]?
  |false,_=>none)
 |_,_=>none
def UX{P:Program}{t:TypeId}{x:SV}{f:Nat}{r:SV}(h:BM P t x f=some r){K:AV->Prop}(hK:K r.av):BZ P t f x.av K:=by
 unfold BM at h;split at h
 .rename_i q l hq;refine⟨q,hq,?_⟩;have key:pi P q.2 (avs l) q.1 K:=by
   split at h
   .rename_i h1 h2;cases h;refine⟨h1,?_⟩;rw[if_pos h2];exact⟨_,rfl,by rw[<-wM,<-tF];exact hK⟩
   .rename_i h1 h2;refine⟨h1,?_⟩;rw[if_neg (by rw[h2];simp)];exact⟨r.av,by rw[qo,h];rfl,hK⟩
   .cases h
  show(match d9 (avs l)with| .agg l=>pi P q.2 l q.1 K| .p (.agg l)=>pi P q.2 (l.map .p) q.1 K|_=>False);unfold d9;cases hq:bJ (avs l)with
  |none=>exact key
  |some m=>dsimp only;rw[<-fR hq];exact key
 .cases h
def ti(P:Program)(t:TypeId)(x i:SV):Option (List Prop×SV):=match i with
 | .int _ a=>(match x with
   | .lst lt l=>(match bu P t with
     |some e=>(match(P.info? e).isSome,ae (aj P e) lt.w with|true,true=>some ([ix a l.length],.pe lt l a.toNat 0)|_,_=>none)
     |none=>none)
   | .own s lt n=>(match bu P t with
     |some e=>(match(P.info? e).isSome,ae (aj P e) lt.w with|true,true=>some ([ix a n],.pte s lt a.toNat 0)|_,_=>none)
     |none=>none)
   | .owns s lt o n=>(match bu P t with
     |some e=>(match(P.info? e).isSome,ae (aj P e) lt.w with|true,true=>some ([ix a n],.pte s lt (o+a.toNat) 0)|_,_=>none)
     |none=>none)
   | .ownx s n=>(match bu P t with
     |some e=>(match(P.info? e).isSome with|true=>some ([ix a n],.ptr s (a.toNat*aj P e))|_=>none)
     |none=>none)
   | .owF x n=>(match bu P t with
     |some e=>(match(P.info? e).isSome,ae (aj P e) 1 with|true,true=>some ([ix a n],.ptf x a.toNat)|_,_=>none)
     |none=>none)
   | .ownf x lt b n=>(match bu P t with
     |some e=>(match(P.info? e).isSome,ae (aj P e) lt.w with|true,true=>some ([ix a n],.ptef x lt b a.toNat 0)|_,_=>none)
     |none=>none)
   | .sl n cs=>(match bu P t,bJ (avs cs)with
     |some e,some _=>(match(P.info? e).isSome with|true=>some ([ix a n],.pro cs (a.toNat*aj P e))|_=>none)
     |_,_=>none)
   | .ptr s off=>(match n9 P t with
     |some q=>(match(P.info? q.2).isSome with|true=>some ([ix a q.1],.ptr s (off+a.toNat*aj P q.2))|_=>none)
     |none=>none)
   | .pe lt l j off=>(match n9 P t with
     |some q=>(match(P.info? q.2).isSome with|true=>some ([ix a q.1,j<l.length],.pe lt l j (off+a.toNat*aj P q.2))|_=>none)
     |none=>none)
   | .ptb F m off=>(match n9 P t with
     |some q=>(match(P.info? q.2).isSome with|true=>some ([ix a q.1],.ptb F m (off+a.toNat*aj P q.2))|_=>none)
     |none=>none)
   | .pro cs off=>(match n9 P t,bJ (avs cs)with
     |some q,some _=>(match(P.info? q.2).isSome with|true=>some ([ix a q.1],.pro cs (off+a.toNat*aj P q.2))|_=>none)
     |_,_=>none)
   |_=>none)
 |_=>none
def UV{P:Program}{t:TypeId}{x i:SV}{ps:List Prop}{r:SV}(h:ti P t x i=some (ps,r))(hp:∀p∈ps,p){K:AV->Prop}(hK:K r.av):wy P t x.av i.av K/\r.ok:=by
 unfold ti at h;split at h
 case h_2=>cases h
 rename_i k a;split at h
 .rename_i lt l;split at h
  .rename_i e he;split at h<;>cases h;rename_i h1 h2;have hb:=hp _ (bM.2 rfl);unfold ix at hb;refine⟨⟨e,he,h1,hb.1,hb.2,?_⟩,show a.toNat<l.length by omega⟩;rw[bp h2];exact hK
  .cases h
 .split at h
  .rename_i e he;split at h<;>cases h;rename_i h1 h2;have hb:=hp _ (bM.2 rfl);refine⟨⟨e,he,h1,hb.1,hb.2,?_⟩,trivial⟩;rw[bp h2,gc];exact hK
  .cases h
 .split at h
  .rename_i e he;split at h<;>cases h;rename_i h1 h2;have hb:=hp _ (bM.2 rfl);refine⟨⟨e,he,h1,hb.1,hb.2,?_⟩,trivial⟩;rw[bp h2,<-lg];exact hK
  .cases h
 .split at h
  .rename_i e he;split at h<;>cases h;rename_i h1;have hb:=hp _ (bM.2 rfl);refine⟨⟨e,he,h1,hb.1,hb.2,?_⟩,trivial⟩;rw[gc];exact hK
  .cases h
 .split at h
  .rename_i e he;split at h<;>cases h;rename_i h1 h2;have hb:=hp _ (bM.2 rfl);refine⟨⟨e,he,h1,hb.1,hb.2,?_⟩,trivial⟩;rw[bp h2,gc,Nat.mul_one];exact hK
  .cases h
 .split at h
  .rename_i e he;split at h<;>cases h;rename_i h1 h2;have hb:=hp _ (bM.2 rfl);refine⟨⟨e,he,h1,hb.1,hb.2,?_⟩,trivial⟩;rw[bp h2,gc];exact hK
  .cases h
 .split at h
  .rename_i e m he hm;split at h<;>cases h;rename_i h1;have hb:=hp _ (bM.2 rfl);refine⟨?_,trivial⟩;simp only[SV.av,hm]at hK|-;exact⟨e,he,h1,hb.1,hb.2,hK⟩
  .cases h
 .split at h
  .rename_i q hq;split at h<;>cases h;rename_i h1;have hb:=hp _ (bM.2 rfl);exact⟨⟨q,hq,h1,hb.1,hb.2,hK⟩,trivial⟩
  .cases h
 .rename_i lt l j off;split at h
  .rename_i q hq;split at h<;>cases h;rename_i h1;have hb:=hp _ (eG);refine⟨⟨q,hq,h1,hb.1,hb.2,?_⟩,hp (j<l.length) (by grind)⟩;rw[oO];exact hK
  .cases h
 .split at h
  .rename_i q hq;split at h<;>cases h;rename_i h1;have hb:=hp _ (bM.2 rfl);exact⟨⟨q,hq,h1,hb.1,hb.2,hK⟩,trivial⟩
  .cases h
 .split at h
  .rename_i q m hq hm;split at h<;>cases h;rename_i h1;have hb:=hp _ (bM.2 rfl);refine⟨?_,trivial⟩;simp only[SV.av,hm]at hK|-;exact⟨q,hq,h1,hb.1,hb.2,hK⟩
  .cases h
 .cases h
def bI.newF{σ:Sg}{n m:Nat}{e ie:TypeId}{lt:LT}(h:σ n=none)(hs:aD n=sit n 0):
  bI σ [] [(n,some (.fam e ie lt (bS m []) []))] [] ((sit n 0,some ⟨e,1,(bO m).map λj=> .own (inn n (j+1)) 0 0⟩)::(bO m).map λj=>(inn n (j+1),some ⟨ie,lt.w,[]⟩)):=by
 rw[<-hs];refine⟨λs hm=>by grind,λs hm=> ?_,?_⟩
 .have hc:cls s=ncl n:=by
   rcases bh.1 hm with rfl|hm
   .exact cP n 0
   .rw[gg]at hm;obtain⟨j,_,rfl⟩:=cF.1 hm;exact cP n (j+1)
  grind
 .funext s
  unfold aX;rw[dJ,yj (λj=>inn n (j+1))];rcases gR s with⟨y,rfl⟩|⟨y,b,rfl⟩|hno
  .rw[if_neg (show¬aD y∈(bO m).map λj=>inn n (j+1)from λhm=>by obtain⟨j,_,hj⟩:=cF.1 hm;have:=(cI hj).2;omega)]
   rw[Sg.bW,Sg.bW];unfold aJ.up;rw[dJ];by_cases e1:y=n
   .subst e1;rw[beq_iff_eq.2 rfl,beq_iff_eq.2 rfl];show some (⟨e,1,_⟩:Ob)=some ⟨e,1,(bO (bS m ([] :List lt.ty)).length).map (cu y (bS m ([] :List lt.ty)) [])⟩;rw[mg]
    congr 2
    refine lk λi hi=> ?_;show _=AV.own (inn y (i+1)) 0 ((bS m ([] :List lt.ty)).getD i []).length;grind
   .rw[beq_eq_false_iff_ne.2 e1,beq_eq_false_iff_ne.2 (show aD y≠aD n from λh=>e1 (eL h))];rfl
  .rw[beq_eq_false_iff_ne.2 (show inn y (b+1)≠aD n from λh=>by have:=(cI h).2;omega),Sg.co,Sg.co];unfold aJ.up;rw[dJ];by_cases e1:y=n
   .subst e1;rw[beq_iff_eq.2 rfl];show _=(((bS m ([] :List lt.ty))[b]?).map λl=>(⟨ie,lt.w,(lt.enc l).map .p⟩:Ob));rw[List.getElem?_replicate];by_cases hb:b<m
    .rw[if_pos (by grind),if_pos hb];rfl
    .rw[if_neg (show¬inn y (b+1)∈(bO m).map λj=>inn y (j+1)from λhm=>by obtain⟨j,h1,hj⟩:=cF.1 hm;have:=(cI hj).2;grind),if_neg hb,h];rfl
   .rw[if_neg (show¬inn y (b+1)∈(bO m).map λj=>inn n (j+1)from λhm=>by obtain⟨j,h1,hj⟩:=cF.1 hm;exact e1 (cI hj).1.symm),beq_eq_false_iff_ne.2 e1];rfl
  .rw[if_neg (by grind),beq_eq_false_iff_ne.2 (show s≠aD n from λh=>hno n 0 h),Sg.fp _ hno,Sg.fp _ hno]
def zm(x:PV):∀m,j5 m [.p x] =(bS m x).map .p
 |0=>rfl
 |m+1=>by rw[j5,zm x m,oP];rfl
def Gt:∀m,LT.I.enc (bS m (0:Int))=bS m (.int .i64 0)
 |0=>rfl
 |m+1=>by rw[oP,oP,<-Gt m];rfl
def Gu:∀m,LT.B.enc (bS m false)=bS m (.bool false)
 |0=>rfl
 |m+1=>by rw[oP,oP,<-Gu m];rfl
def uM(P:Program)(ltOf:TypeId->Option LT)(σ:Sg)(n:Nat)(t:TypeId)(x y:SV):SR:=match x,y with
 | .int _ a,.int _ b=>(match bu P t,frs σ n with
   |some e,true=>(match P.info? e,pg P e,ae (aj P e) 1 with
    |some i,some [.int .i64 (.ofNat 0)],true=>some ([0<=a,b=a,a<=1000000,a.toNat*i.bytes<=1000000000],.own n .I a.toNat,[],[(n,some (.row e .I (bS a.toNat (0:Int))))])
    |some i,some [.lit false],true=>some ([0<=a,b=a,a<=1000000,a.toNat*i.bytes<=1000000000],.own n .B a.toNat,[],[(n,some (.row e .B (bS a.toNat false)))])
    |some i,some [.nil],true=>(match bu P e with
     |some ie=>(match ltOf ie with
      |some lt=>some ([0<=a,b=a,a<=1000000,a.toNat*i.bytes<=1000000000],.owF n a.toNat,[],[(n,some (.fam e ie lt (bS a.toNat []) []))])
      |none=>none)
     |none=>none)
    |_,_,_=>none)
   |_,_=>none)
 |_,_=>none
def V4{P:Program}{ltOf:TypeId->Option LT}{n:Nat}{o:Oper}{E:SE}{σ:Sg}{t:TypeId}{x y:Operand}(ho:o.op= .makeSlice t x y):n7 P n o E σ (uM P ltOf σ n t (E x) (E y)):=by
 intro ps r rd W h hp;unfold AOp;rw[ho];dsimp only;unfold uM at h;split at h
 case h_2=>cases h
 rename_i k1 a k2 b ea eb;rw[show E.a x= .p (.int k1 a) by unfold SE.a;rw[ea];rfl,show E.a y= .p (.int k2 b) by unfold SE.a;rw[eb];rfl];split at h
 case h_2=>cases h
 rename_i e he hf;obtain⟨f1,f2⟩:=gj hf;split at h
 .cases h;rename_i i hi hz hw;obtain⟨z1,z2⟩:=o7 hz;have q1:0<=a:=hp _ (by simp);have q2:b=a:=hp _ (by simp);have q3:a<=1000000:=hp _ (by simp);have q4:a.toNat*i.bytes<=1000000000:=hp _ (by simp);have hw:=bp hw;subst q2;refine .inl ⟨k1,k2,b.toNat,e,_,i,by grind,by grind,he,hi,z1,z2,by simp[avs],by grind,q4,?_,?_⟩
  .show _=AV.own (aD n) 0 _;rw[f1]
  .rw[hw,show avs [SV.int .i64 (.ofNat 0)] =[.p (.int .i64 0)]from rfl,zm,<-Gt];exact bI.new (ob:= .row e .I (bS b.toNat (0:Int))) f2 f1 rfl
 .cases h;rename_i i hi hz hw;obtain⟨z1,z2⟩:=o7 hz;have q1:0<=a:=hp _ (by simp);have q2:b=a:=hp _ (by simp);have q3:a<=1000000:=hp _ (by simp);have q4:a.toNat*i.bytes<=1000000000:=hp _ (by simp);have hw:=bp hw;subst q2;refine .inl ⟨k1,k2,b.toNat,e,_,i,by grind,by grind,he,hi,z1,z2,by simp[avs],by grind,q4,?_,?_⟩
  .show _=AV.own (aD n) 0 _;rw[f1]
  .rw[hw,show avs [SV.lit false] =[.p (.bool false)]from rfl,zm,<-Gu];exact bI.new (ob:= .row e .B (bS b.toNat false)) f2 f1 rfl
 .rename_i i hi hz hw;split at h
  case h_2=>cases h
  rename_i ie hie;split at h<;>cases h;rename_i lt hlt;obtain⟨z1,z2⟩:=o7 hz;have q1:0<=a:=hp _ (by simp);have q2:b=a:=hp _ (by simp);have q3:a<=1000000:=hp _ (by simp);have q4:a.toNat*i.bytes<=1000000000:=hp _ (by simp);subst q2;have hcl:ncl n=n:=by have h1:cls (aD n)=ncl n:=cP n 0;rw[f1,fT]at h1;exact h1.symm
  refine .inr ⟨λj=>inn n (j+1),ie,lt.w,k1,k2,b.toNat,e,i,by grind,by grind,he,hi,z1,z2,by have:=lt.gn;omega,λj=>(cP n (j+1)).trans hcl,λj hj=> ?_,by omega,q4,?_,bI.newF f2 f1⟩
  .rw[<-f1]at hj;have:=(cI hj).2;omega
  .show _=AV.own (aD n) 0 _;rw[f1]
 .cases h
def CD(x:SV)(i:Nat):Option SV:=match x with
 | .tup l=>l[i]?
 |_=>none
def V8{x:SV}{i:Nat}{r:SV}(h:CD x i=some r){K:AV->Prop}(hK:K r.av):uS x.av i K:=by
 unfold CD at h;split at h
 .rename_i l;have h1:(avs l)[i]? =some r.av:=by rw[qo,h];rfl
  show uS (gq (avs l)) i K;unfold gq;cases hq:bJ (avs l)with
  |none=>exact⟨_,h1,hK⟩
  |some q=>
   rw[fR hq,dw]at h1;cases hc:q[i]? with
   |none=>grind
   |some y=>exact⟨y,hc,by grind⟩
 .cases h
end
noncomputable section
def j6(raw:Bool)(k:IntKind)(x:Int):List Prop×SV:=match raw,k with
 |false,.i64=>([aG x],.int .i64 x)
 |_,k=>([],.int k (k.wrap x))
def qi{raw:Bool}{k:IntKind}{x:Int}(h:∀p∈(j6 raw k x).1,p):(j6 raw k x).2.av= .p (.int k (k.wrap x)):=by
 unfold j6 at h|-;split
 .rw[Ew (h _ (by grind))];rfl
 .rfl
def uU:SV->Option Bool
 | .bool b=>some b
 | .lit b=>some b
 | .prop p d=>some (@decide p d)
 |_=>none
def tE{x:SV}{b:Bool}(h:uU x=some b):x.av= .p (.bool b):=by cases x<;>simp only[uU,reduceCtorEq,fO]at h<;>subst h<;>rfl
def eM(k:IntKind)(a b:Int):Int:=k.wrap ((BitVec.ofInt k.bits a^^^BitVec.ofInt k.bits b).toNat:Int)
def aC6(k:IntKind)(a b:Int):Int:=k.wrap ((BitVec.ofInt k.bits a&&&BitVec.ofInt k.bits b).toNat:Int)
def orW(k:IntKind)(a b:Int):Int:=k.wrap ((BitVec.ofInt k.bits a|||BitVec.ofInt k.bits b).toNat:Int)
def mO(k:IntKind)(a b:Int):Int:=a.fdiv (2^min b.toNat k.bits)
def PR(k:IntKind)(a b:Int):Int:=k.wrap (a*2^min b.toNat k.bits)
def tm(raw:Bool)(op:BinOp)(k:IntKind)(a b:Int):Option (List Prop×SV):=match op with
 | .add=>some (j6 raw k (a+b))
 | .sub=>some (j6 raw k (a-b))
 | .mul=>some (j6 raw k (a*b))
 | .quo=>some ((b≠0)::(j6 raw k (a.tdiv b)).1,(j6 raw k (a.tdiv b)).2)
 | .rem=>some ([b≠0],.int k (a.tmod b))
 | .eql=>some ([],.prop (a=b) inferInstance)
 | .neq=>some ([],.prop (¬a=b) inferInstance)
 | .lss=>some ([],.prop (a<b) inferInstance)
 | .leq=>some ([],.prop (a<=b) inferInstance)
 | .gtr=>some ([],.prop (b<a) inferInstance)
 | .geq=>some ([],.prop (b<=a) inferInstance)
 | .xor=>some ([],.int k (eM k a b))
 | .and=>some ([],.int k (aC6 k a b))
 | .or=>some ([],.int k (orW k a b))
 | .shr=>some ([0<=b],.int k (mO k a b))
 | .shl=>some ([0<=b],.int k (PR k a b))
 |_=>none
def Ud{raw:Bool}{op:BinOp}{k:IntKind}{a b:Int}{ps:List Prop}{r:SV}(h:tm raw op k a b=some (ps,r))(hp:∀p∈ps,p){K:AV->Prop}(hK:K r.av):q7 op k a b K:=by
 unfold tm at h;split at h<;>simp only[fO,oM,reduceCtorEq]at h
 .have e:=qi (raw:=raw) (k:=k) (x:=a+b) (by grind);unfold q7;grind
 .have e:=qi (raw:=raw) (k:=k) (x:=a-b) (by grind);unfold q7;grind
 .have e:=qi (raw:=raw) (k:=k) (x:=a*b) (by grind);unfold q7;grind
 .obtain⟨rfl,rfl⟩:=h;have e:=qi (raw:=raw) (k:=k) (x:=a.tdiv b) (by grind);exact⟨hp _ (by grind),by grind⟩
 .obtain⟨rfl,rfl⟩:=h;exact⟨hp _ (by grind),hK⟩
 .obtain⟨rfl,rfl⟩:=h;exact hK
 .obtain⟨rfl,rfl⟩:=h;show K (.p (.bool (a !=b)));have:(a !=b)=decide (¬a=b):=by by_cases e:a=b<;>simp[e]
  rw[this];exact hK
 .obtain⟨rfl,rfl⟩:=h;exact hK
 .obtain⟨rfl,rfl⟩:=h;exact hK
 .obtain⟨rfl,rfl⟩:=h;exact hK
 .obtain⟨rfl,rfl⟩:=h;exact hK
 .obtain⟨rfl,rfl⟩:=h;exact hK
 .obtain⟨rfl,rfl⟩:=h;exact hK
 .obtain⟨rfl,rfl⟩:=h;exact hK
 .obtain⟨rfl,rfl⟩:=h;exact⟨hp _ (by grind),hK⟩
 .obtain⟨rfl,rfl⟩:=h;exact⟨hp _ (by grind),hK⟩
def rP:List SV->Option (List Int)
 |[] =>some []
 | .int .i64 a::l=>(match rP l with|some m=>some (a::m)|none=>none)
 |_::_=>none
def AI:∀{l:List SV} {m:List Int},rP l=some m->avs l=(eu m).map .p
 |[],m,h=>by simp only[rP,fO]at h;subst h;rfl
 |x::l,m,h=>by
  unfold rP at h;split at h
  .grind
  .rename_i a l' e;cases e;split at h<;>cases h;rename_i m' hm;rw[avs,AI hm];rfl
  .cases h
def sM:∀m:List Int,lD (eu m)=some m
 |[] =>rfl
 |x::m=>by
  have:=sM m;unfold eu at*;simp only[cV,lD,this,dn]
def eqP(xs ys:List Int):SV:=match xs,ys with
 |[a,b],[c,d] => .prop ((⟨a,b⟩:V)=⟨c,d⟩) inferInstance
 |[a,b,c,d],[e,f,g,h] => .prop ((⟨⟨a,b⟩,⟨c,d⟩⟩:S)=⟨⟨e,f⟩,⟨g,h⟩⟩) inferInstance
 |xs,ys=> .prop (xs=ys) inferInstance
def Ji(xs ys:List Int):(eqP xs ys).av= .p (.bool (xs==ys)):=by
 unfold eqP;split
 .show AV.p (.bool (decide _))=_
  congr 2
  grind
 .show AV.p (.bool (decide _))=_
  congr 2
  grind
 .show AV.p (.bool (decide _))=_;grind
def xq:SV->Option SV
 | .prop p d=>some (.prop (¬p) (@instDecidableNot p d))
 | .bool b=>some (.bool (!b))
 | .lit true=>some (.lit false)
 | .lit false=>some (.lit true)
 |_=>none
def Hp{x r:SV}(h:xq x=some r):∃b,x.av= .p (.bool b)/\r.av= .p (.bool (!b)):=by
 cases x<;>simp only[xq,reduceCtorEq,fO]at h
 .subst h;exact⟨_,rfl,rfl⟩
 .rename_i b;cases b<;>simp only[fO]at h<;>subst h<;>exact⟨_,rfl,rfl⟩
 .subst h;refine⟨_,rfl,?_⟩;show AV.p (.bool (decide _))=_;grind
abbrev EqT:=List (TypeId×Nat)
def EqT.Ok(P:Program)(q:EqT):Prop:=∀t m,(t,m)∈q->pZ P t m
def EqT.has:EqT->TypeId->Nat->Bool
 |[],_,_=>false
 |(a,b)::l,t,m=>(ae a t&&ae b m)||EqT.has l t m
def EqT.Ax:∀{q:EqT} {t m:Nat},q.has t m=true->(t,m)∈q
 |[],t,m,h=>by cases h
 |(a,b)::l,t,m,h=>by
  simp only[EqT.has,Bool.or_eq_true,cD]at h;rcases h with⟨h1,h2⟩|h
  .simp_all
  .exact dK _ (EqT.Ax h)
def ua(P:Program)(q:EqT)(raw:Bool)(op:BinOp)(t:TypeId)(x y:SV):Option (List Prop×SV):=match x,y with
 | .int k a,.int k' b=>(match decEq k' k with| .isTrue _=>tm raw op k a b| .isFalse _=>none)
 | .agg l,.agg m=>(match rP l,rP m with
   |some xs,some ys=>(match ae xs.length ys.length,q.has t xs.length,op with
    |true,true,.eql=>some ([],eqP xs ys)
    |true,true,.neq=>(match xq (eqP xs ys)with|some r=>some ([],r)|none=>none)
    |_,_,_=>none)
   |_,_=>none)
 | .lst _ l,.nil=>(match(bu P t).isSome,op with
   |true,.eql=>some ([0<l.length],.lit false)
   |_,_=>none)
 |x,y=>(match uU x,uU y,Bu P t,op with
  |some a,some b,true,.eql=>some ([],.bool (a==b))
  |some a,some b,true,.neq=>some ([],.bool (a !=b))
  |_,_,_,_=>none)
def Xk{P:Program}{q:EqT}(hq:q.Ok P){raw:Bool}{op:BinOp}{t:TypeId}{x y:SV}{ps:List Prop}{r:SV}(h:ua P q raw op t x y=some (ps,r))(hp:∀p∈ps,p){K:AV->Prop}(hK:K r.av):rm P op t x.av y.av K:=by
 unfold ua at h;split at h
 .split at h
  .rename_i e _;exact⟨e,Ud h hp hK⟩
  .cases h
 .rename_i l m;split at h
  .rename_i xs ys hx hy;have key:∀(op:BinOp),(∃xs' ys',lD (eu xs)=some xs'/\lD (eu ys)=some ys'/\xs'.length=ys'.length/\pZ P t xs'.length/\(match op with| .eql=>K (.p (.bool (xs'==ys')))| .neq=>K (.p (.bool (xs' !=ys')))|_=>False))->rm P op t (SV.agg l).av (SV.agg m).av K:=by intro op h;show rm P op t (d9 (avs l)) (d9 (avs m)) K;rw[AI hx,AI hy,oe,oe];exact h
   split at h
   .rename_i h1 h2;cases h;refine key _ ⟨xs,ys,sM _,sM _,bp h1,hq _ _ (EqT.Ax h2),?_⟩;rw[Ji]at hK;exact hK
   .rename_i h1 h2;split at h<;>cases h;rename_i hr;obtain⟨b,e1,e2⟩:=Hp hr;rw[Ji]at e1;refine key _ ⟨xs,ys,sM _,sM _,bp h1,hq _ _ (EqT.Ax h2),?_⟩;grind
   .cases h
  .cases h
 .rename_i t' l;split at h<;>cases h;rename_i ht;have hl:0<l.length:=hp _ (by grind);refine⟨ht,λe=> ?_,rfl,hK⟩;have e2:=congrArg fg e;rw[t'.wide.length,List.length_nil]at e2;have:=Nat.mul_pos hl t'.gn;omega
 .split at h
  .rename_i a b h1 h2 h3;cases h;rw[tE h1,tE h2];exact⟨h3,hK⟩
  .rename_i a b h1 h2 h3;cases h;rw[tE h1,tE h2];exact⟨h3,hK⟩
  .cases h
def sun(raw:Bool)(op:UnOp)(x:SV):Option (List Prop×SV):=match op with
 | .not=>(match xq x with|some r=>some ([],r)|none=>none)
 | .neg=>(match x with| .int k a=>some (j6 raw k (0-a))|_=>none)
 |_=>none
def Y0{raw:Bool}{op:UnOp}{x:SV}{ps:List Prop}{r:SV}(h:sun raw op x=some (ps,r))(hp:∀p∈ps,p){K:AV->Prop}(hK:K r.av):unA op x.av K:=by
 unfold sun at h;split at h
 .split at h<;>cases h;rename_i hr;obtain⟨b,e1,e2⟩:=Hp hr;rw[e1];rw[e2]at hK;exact hK
 .split at h
  .rename_i k a;simp only[fO]at h;have e:=qi (raw:=raw) (k:=k) (x:=0-a) (by grind);show K _;grind
  .cases h
 .cases h
def uO(P:Program)(raw:Bool)(s d:TypeId)(x:SV):Option (List Prop×SV):=match x with
 | .int _ a=>(match(P.underlying s).isSome,Ca P d with
   |true,some k=>some (j6 raw k a)
   |_,_=>none)
 |_=>none
def WB{P:Program}{raw:Bool}{s d:TypeId}{x:SV}{ps:List Prop}{r:SV}(h:uO P raw s d x=some (ps,r))(hp:∀p∈ps,p){K:AV->Prop}(hK:K r.av):xV P s d x.av K:=by
 unfold uO at h;split at h
 .rename_i k0 a;split at h
  .rename_i k h1 h2;simp only[fO]at h;have e:=qi (raw:=raw) (k:=k) (x:=a) (by grind);exact⟨h1,k,h2,by grind⟩
  .cases h
 .cases h
def Cl:SV->Option Int
 | .int _ n=>some n
 |_=>none
def H9{x:SV}{n:Int}(h:Cl x=some n):xv x.av=some n:=by cases x<;>simp only[Cl,reduceCtorEq,fO]at h;subst h;rfl
def lS(E:SE):Option Operand->Option (Option Int)
 |none=>some none
 |some x=>(match Cl (E x)with|some n=>some (some n)|none=>none)
def th(P:Program)(t:TypeId)(x:SV)(lo hi:Option Int):Option (List Prop×SV):=match bu P t with
 |some e=>(match(P.info? e).isSome,ae (aj P e) 0 with
  |true,false=>(match x,lo,hi with
   | .lst lt l,lo,hi=>(match ae (aj P e) lt.w with
     |true=>(match lo,hi with
      |none,none=>some ([],.lst lt l)
      |some a,none=>some ([0<=a/\a<=(l.length:Int)],.lst lt (l.drop a.toNat))
      |none,some b=>some ([0<=b/\b<=(l.length:Int)],.lst lt (l.take b.toNat))
      |some a,some b=>some ([0<=a/\a<=b/\b<=(l.length:Int)],.lst lt ((l.take b.toNat).drop a.toNat)))
     |false=>none)
   | .own s lt n,lo,hi=>(match ae (aj P e) lt.w with
     |true=>(match lo,hi with
      |none,none=>some ([],.own s lt n)
      |none,some b=>some ([0<=b/\b<=(n:Int)],.owns s lt 0 b.toNat)
      |some a,none=>some ([0<=a/\a<=(n:Int)],.owns s lt a.toNat (n-a.toNat))
      |some a,some b=>some ([0<=a/\a<=b/\b<=(n:Int)],.owns s lt a.toNat (b.toNat-a.toNat)))
     |false=>none)
   | .owns s lt o n,lo,hi=>(match ae (aj P e) lt.w with
     |true=>(match lo,hi with
      |none,none=>some ([],.owns s lt o n)
      |none,some b=>some ([0<=b/\b<=(n:Int)],.owns s lt o b.toNat)
      |some a,none=>some ([0<=a/\a<=(n:Int)],.owns s lt (o+a.toNat) (n-a.toNat))
      |some a,some b=>some ([0<=a/\a<=b/\b<=(n:Int)],.owns s lt (o+a.toNat) (b.toNat-a.toNat)))
     |false=>none)
   | .ownx s n,none,none=>some ([],.ownx s n)
   |_,_,_=>none)
  |_,_=>none)
 |none=>none
def UN{P:Program}{t:TypeId}{x:SV}{lo hi:Option Int}{ps:List Prop}{r:SV}(h:th P t x lo hi=some (ps,r))(hp:∀p∈ps,p){K:AV->Prop}(hK:K r.av):
  qr P t x.av (some (lo.getD 0)) (some (hi.getD (qv x.av))) K:=by
 unfold th at h;split at h
 case h_2=>cases h
 rename_i e he;split at h
 case h_2=>cases h
 rename_i h1 h2;have h2':aj P e≠0:=f9 h2;split at h
 .rename_i lt l;split at h
  case h_2=>cases h
  rename_i hw;have hw:=bp hw;have key:∀a b:Int,0<=a->a<=b->b<=l.length->K (.p (.sl ((l.take b.toNat).drop a.toNat).length (lt.enc ((l.take b.toNat).drop a.toNat))))->qr P t (SV.lst lt l).av (some a) (some b) K:=by
   intro a b ha hb hc hK;refine⟨e,a,b,he,h1,h2',rfl,rfl,ha,hb,hc,?_⟩;rw[hw,lt.wide.take,lt.wide.drop];have:((l.take b.toNat).drop a.toNat).length=b.toNat-a.toNat:=by simp only[mh,ew];omega
   rw[<-this];exact hK
  split at h<;>cases h
  .refine key 0 (l.length:Int) (by omega) (by omega) (by omega) ?_;rw[kh,jg];exact hK
  .rename_i a;have hb:=hp _ (bM.2 rfl);refine key a (l.length:Int) hb.1 hb.2 (by omega) ?_;rw[kh,jg];exact hK
  .rename_i b;have hb:=hp _ (bM.2 rfl);exact key 0 b (by omega) hb.1 hb.2 hK
  .rename_i a b;have hb:=hp _ (bM.2 rfl);exact key a b hb.1 hb.2.1 hb.2.2 hK
 .rename_i s lt n;split at h
  case h_2=>cases h
  rename_i hw;have hw:=bp hw;have key:∀a b:Int,0<=a->a<=b->b<=n->K (.own (aD s) (a.toNat*lt.w) (b.toNat-a.toNat))->qr P t (SV.own s lt n).av (some a) (some b) K:=by intro a b ha hb hc hK;refine⟨e,a,b,he,h1,h2',rfl,rfl,ha,hb,hc,?_⟩;rw[hw,gc];exact hK
  split at h<;>cases h
  .refine key 0 (n:Int) (by omega) (by omega) (by omega) ?_;simpa[SV.av]using hK
  .rename_i b;have hb:=hp _ (bM.2 rfl);refine key 0 b (by omega) hb.1 hb.2 ?_;simpa[SV.av]using hK
  .rename_i a;have hb:=hp _ (bM.2 rfl);exact key a (n:Int) hb.1 hb.2 (by omega) (by simpa[SV.av]using hK)
  .rename_i a b;have hb:=hp _ (bM.2 rfl);exact key a b hb.1 hb.2.1 hb.2.2 hK
 .rename_i s lt o n;split at h
  case h_2=>cases h
  rename_i hw;have hw:=bp hw;have key:∀a b:Int,0<=a->a<=b->b<=n->K (.own (aD s) ((o+a.toNat)*lt.w) (b.toNat-a.toNat))->qr P t (SV.owns s lt o n).av (some a) (some b) K:=by intro a b ha hb hc hK;refine⟨e,a,b,he,h1,h2',rfl,rfl,ha,hb,hc,?_⟩;rw[hw,<-lg];exact hK
  split at h<;>cases h
  .refine key 0 (n:Int) (by omega) (by omega) (by omega) ?_;simpa[SV.av]using hK
  .rename_i b;have hb:=hp _ (bM.2 rfl);refine key 0 b (by omega) hb.1 hb.2 ?_;simpa[SV.av]using hK
  .rename_i a;have hb:=hp _ (bM.2 rfl);exact key a (n:Int) hb.1 hb.2 (by omega) (by simpa[SV.av]using hK)
  .rename_i a b;have hb:=hp _ (bM.2 rfl);exact key a b hb.1 hb.2.1 hb.2.2 hK
 .rename_i s n;cases h;refine⟨e,0,(n:Int),he,h1,h2',rfl,rfl,DS _,by grind,DS _,?_⟩;simpa[SV.av]using hK
 .cases h
def Cf(P:Program)(t:TypeId)(x:SV):Option SV:=match x with
 | .lst _ l=>(match(bu P t).isSome with|true=>some (.int .i64 (l.length:Int))|false=>none)
 | .own _ _ n=>(match(bu P t).isSome with|true=>some (.int .i64 (n:Int))|false=>none)
 | .owns _ _ _ n=>(match(bu P t).isSome with|true=>some (.int .i64 (n:Int))|false=>none)
 | .ownx _ n=>(match(bu P t).isSome with|true=>some (.int .i64 (n:Int))|false=>none)
 | .owF _ n=>(match(bu P t).isSome with|true=>some (.int .i64 (n:Int))|false=>none)
 | .ownf _ _ _ n=>(match(bu P t).isSome with|true=>some (.int .i64 (n:Int))|false=>none)
 | .sl n cs=>(match(bu P t).isSome,bJ (avs cs)with|true,some _=>some (.int .i64 (n:Int))|_,_=>none)
 | .nil=>(match(bu P t).isSome with|true=>some (.int .i64 0)|false=>none)
 |_=>none
def Xg{P:Program}{t:TypeId}{x r:SV}(h:Cf P t x=some r){K:AV->Prop}(hK:K r.av):xu P t x.av K:=by
 unfold Cf at h;split at h
 .split at h<;>cases h;rename_i h1;exact⟨h1,hK⟩
 .split at h<;>cases h;rename_i h1;exact⟨h1,hK⟩
 .split at h<;>cases h;rename_i h1;exact⟨h1,hK⟩
 .split at h<;>cases h;rename_i h1;exact⟨h1,hK⟩
 .split at h<;>cases h;rename_i h1;exact⟨h1,hK⟩
 .split at h<;>cases h;rename_i h1;exact⟨h1,hK⟩
 .split at h<;>cases h;rename_i q h1 h2;simp only[SV.av,h2];exact⟨h1,hK⟩
 .split at h<;>cases h;rename_i h1;exact⟨h1,hK⟩
 .cases h
def pm(σ:Sg)(e:TypeId)(lt:LT)(x:SV):Option (List Prop×List lt.ty×List Nat):=match x with
 | .nil=>some ([],[],[])
 | .own s _ k=>(match σ s with
   |some (.row ty lt' l)=>(match decEq lt' lt,ae ty e with
    | .isTrue h,true=>some ([k=l.length],h▸l,[s])
    |_,_=>none)
   |_=>none)
 | .ownx s k=>(match σ s with
   |some (.arr ty ez cs)=>(match ae ty e,ae ez lt.w,lt.decs k cs with
    |true,true,some l=>some ([],l,[s])
    |_,_,_=>none)
   |_=>none)
 |_=>none
def q9(σ:Sg)(lt:LT)(x:SV):Option (List Prop×List lt.ty×List Nat):=match x with
 | .nil=>some ([],[],[])
 | .lst lt' l=>(match decEq lt' lt with
   | .isTrue h=>some ([],h▸l,[])
   | .isFalse _=>none)
 | .own s _ k=>(match σ s with
   |some (.row _ lt' l)=>(match decEq lt' lt with
    | .isTrue h=>some ([k=l.length],h▸l,[s])
    | .isFalse _=>none)
   |_=>none)
 | .owns s lt2 o k=>(match σ s with
   |some (.row _ lt' l)=>(match decEq lt' lt,decEq lt2 lt with
    | .isTrue h,.isTrue _=>some ([o+k<=l.length],(h▸l:List lt.ty).drop o|>.take k,[s])
    |_,_=>none)
   |_=>none)
 | .ownx s k=>(match σ s with
   |some (.arr _ ez cs)=>(match ae ez lt.w,lt.decs k cs with
    |true,some l=>some ([],l,[s])
    |_,_=>none)
   |_=>none)
 |_=>none
def uP(P:Program)(ltOf:TypeId->Option LT)(n:Nat)(t t':TypeId)(σ:Sg)(x y:SV):SR:=match bu P t,(bu P t').isSome with
 |some e,true=>(match ltOf e,jy P e,frs σ n with
  |some lt,true,true=>(match ae (aj P e) lt.w,pm σ e lt x,q9 σ lt y with
   |true,some (p1,l,r1),some (p2,m,r2)=>some (p1++p2++[l.length+m.length<=1000000],.own n lt (l++m).length,r1++r2,r1.map (·,none)++[(n,some (.row e lt (l++m)))])
   |_,_,_=>none)
  |_,_,_=>none)
 |_,_=>none
def Wr{σ:Sg}{e:TypeId}{lt:LT}{x:SV}{ps:List Prop}{l:List lt.ty}{r:List Nat}(h:pm σ e lt x=some (ps,l,r))(hp:∀p∈ps,p){K:Nat->List AV->List Nat->Prop}(hK:K l.length ((lt.enc l).map .p) (r.map aD)):CO σ.a e lt.w x.av K:=by
 unfold pm at h;split at h
 .cases h;exact hK
 .rename_i s _ k;split at h
  .rename_i ty lt' l' hs;split at h
   .rename_i he _ hty;subst he;cases h;have hk:k=l'.length:=hp _ (by grind);refine⟨_,by rw[Sg.bW,hs];rfl,bp hty,rfl,?_,by rw[hk];exact hK⟩;show((lt'.enc l').map AV.p).length=_;rw[eB,lt'.wide.length,hk]
   .cases h
  .cases h
 .rename_i s k;split at h
  .rename_i ty ez cs hs;split at h<;>cases h;rename_i h1 h2 h3;obtain⟨e1,e2⟩:=LT.pO h3;have h2:=bp h2;refine⟨_,by rw[Sg.bW,hs];rfl,bp h1,h2,?_,?_⟩
   .show(avs cs).length=_;rw[e2,eB,lt.wide.length,e1]
   .show K k (avs cs) [aD s];grind
  .cases h
 .cases h
def Fq{σ:Sg}{lt:LT}{x:SV}{ps:List Prop}{l:List lt.ty}{r:List Nat}(h:q9 σ lt x=some (ps,l,r))(hp:∀p∈ps,p){K:Nat->List AV->List Nat->Prop}(hK:K l.length ((lt.enc l).map .p) (r.map aD)):xE σ.a lt.w x.av K:=by
 unfold q9 at h;split at h
 .cases h;exact hK
 .rename_i lt' l';split at h
  .rename_i he _;subst he;cases h;exact⟨lt'.wide.length _,hK⟩
  .cases h
 .rename_i s _ k;split at h
  .rename_i ty lt' l' hs;split at h
   .rename_i he _;subst he;cases h;have hk:k=l'.length:=hp _ (by grind);refine⟨_,(lt'.enc l').map .p,by rw[Sg.bW,hs];rfl,?_,?_,by grind⟩
    .show(((lt'.enc l').map AV.p).drop 0).take (k*lt'.w)=_;rw[mq,ir (by rw[eB,lt'.wide.length,hk];omega)]
    .rw[eB,lt'.wide.length,hk]
   .cases h
  .cases h
 .rename_i s lt2 o k;split at h
  .rename_i ty lt' l' hs;split at h
   .rename_i he he2 _ _;subst he;subst he2;cases h;have hk:o+k<=l'.length:=hp _ (by grind);have hlen:((l'.drop o).take k).length=k:=by simp;omega
    refine⟨_,(lt2.enc ((l'.drop o).take k)).map .p,by rw[Sg.bW,hs];rfl,?_,?_,by grind⟩
    .show(((lt2.enc l').map AV.p).drop (o*lt2.w)).take (k*lt2.w)=_;rw[<-vE,<-sD,lt2.wide.drop,lt2.wide.take]
    .rw[eB,lt2.wide.length,hlen]
   .cases h
  .cases h
 .rename_i s k;split at h
  .rename_i ty ez cs hs;split at h<;>cases h;rename_i h1 h3;obtain⟨e1,e2⟩:=LT.pO h3;have hl:(avs cs).length=k*lt.w:=by rw[e2,eB,lt.wide.length,e1]
   refine⟨_,avs cs,by rw[Sg.bW,hs];rfl,?_,hl,by grind⟩;show((avs cs).drop 0).take (k*lt.w)=_;grind
  .cases h
 .cases h
def Ty{σ:Sg}{e:TypeId}{lt:LT}{x:SV}{ps:List Prop}{l:List lt.ty}{r:List Nat}(h:pm σ e lt x=some (ps,l,r)):∀s∈r,mM (σ s)=true:=by
 unfold pm at h;split at h
 .grind
 .split at h
  .rename_i hs;split at h
   .cases h;exact λs' hs'=>by rw[bM.1 hs',hs];rfl
   .cases h
  .cases h
 .split at h
  .rename_i hs;split at h<;>cases h;exact λs' hs'=>by rw[bM.1 hs',hs];rfl
  .cases h
 .cases h
def WF{P:Program}{ltOf:TypeId->Option LT}{n:Nat}{t t':TypeId}{σ:Sg}{x y:SV}{ps:List Prop}{r:SV}{rd:List Nat}{W:aJ}(h:uP P ltOf n t t' σ x y=some (ps,r,rd,W))(hp:∀p∈ps,p):
  (bu P t').isSome=true/\um P n t σ.a x.av y.av λr' R' W'=>r'=r.av/\bI σ rd W R' W':=by
 unfold uP at h;split at h
 case h_2=>cases h
 rename_i e he ht';split at h
 case h_2=>cases h
 rename_i lt hlt htapp hf;split at h
 case h_2=>cases h
 rename_i p1 l r1 p2 m r2 hw h1 h2;cases h;refine⟨ht',e,he,htapp,?_⟩;rw[bp hw];obtain⟨f1,f2⟩:=gj hf;have hfl:=Ty h1;refine Wr h1 (λp hpp=>hp p (by simp[hpp])) (Fq h2 (λp hpp=>hp p (by simp[hpp])) ⟨hp _ (by simp),?_,?_⟩)
 .show _=AV.own (aD n) 0 _;grind
 .have e1:(r1.map aD).map (·,(none:Option Ob))++[(sit n 0,some (⟨e,lt.w,(lt.enc l).map AV.p++(lt.enc m).map AV.p⟩:Ob))] =aJ.sto (r1.map (·,none)++[(n,some (.row e lt (l++m)))]):=by unfold aJ.sto;rw[d7,gg,gg,<-f1];show _++_=_++[(aD n,some (⟨e,lt.w,(lt.enc (l++m)).map AV.p⟩:Ob))];rw[lt.wide.append,d7];rfl
  rw[e1,<-d7];refine bI.flat λq hq=> ?_;rcases eK.1 hq with hq|hq
  .obtain⟨s,hs,rfl⟩:=cF.1 hq;exact⟨hfl s hs,rfl⟩
  .rw[bM.1 hq,f2];exact⟨rfl,rfl⟩
def bI.take{σ:Sg}{z n a k:Nat}{ty ity:TypeId}{lt:LT}{L:List (List lt.ty)}{ov:List (Nat×SV)}{ob:SOb}{rd R:List Nat}(hs:σ z=some (.fam ty ity lt L ov))(ho:ov.lookup a=none)(hk:k=(L.getD a []).length)(hn:σ n=none)(hf:ob.flat=true)(hR:inC R (rd.map ncl)):
  bI σ rd [(z,some (.fam ty ity lt L ((a,.ownf z lt a k)::ov))),(n,some ob)] R [(inn z (a+1),none),(aD n,some (ob.ob n))] :=by
 have hzn:z≠n:=λe=>by grind
 refine⟨hR,λs hm=> ?_,?_⟩
 .have hm:s=inn z (a+1)\/s=aD n:=by simpa using hm
  rcases hm with rfl|rfl
  .rw[cP];grind
  .rw[show cls (aD n)=ncl n from cP n 0];grind
 .funext s
  unfold aX;rcases gR s with⟨y,rfl⟩|⟨y,b,rfl⟩|hno
  .rw[Sg.bW,Sg.bW,dJ,beq_eq_false_iff_ne.2 (show aD y≠inn z (a+1)from λh=>by have:=(cI h).2;omega)];unfold aJ.up;rw[dJ,dJ,dJ];by_cases e:y=z
   .subst e;rw[beq_iff_eq.2 rfl,beq_eq_false_iff_ne.2 (show aD y≠aD n from λh=>hzn (eL h)),hs];show some (⟨ty,1,_⟩:Ob)=some ⟨ty,1,_⟩
    congr 2
    refine lk λi hi=> ?_;unfold cu;rw[dJ];by_cases hi:i=a
    .subst hi;rw[beq_iff_eq.2 rfl,ho,hk];rfl
    grind
   .rw[beq_eq_false_iff_ne.2 e];by_cases e2:y=n
    .grind
    .rw[beq_eq_false_iff_ne.2 e2,beq_eq_false_iff_ne.2 (show aD y≠aD n from λh=>e2 (eL h))];rfl
  .rw[Sg.co,Sg.co,dJ,dJ,beq_eq_false_iff_ne.2 (show inn y (b+1)≠aD n from λh=>by have:=(cI h).2;omega)];unfold aJ.up;rw[dJ,dJ];by_cases e:y=z
   .subst e;rw[beq_iff_eq.2 rfl,hs];by_cases hb:b=a
    .subst hb;rw[beq_iff_eq.2 rfl];unfold SOb.inner;grind
    .rw[beq_eq_false_iff_ne.2 (show inn y (b+1)≠inn y (a+1)from λh=>hb (by have:=(cI h).2;omega))];unfold SOb.inner;grind
   .rw[beq_eq_false_iff_ne.2 e,beq_eq_false_iff_ne.2 (show inn y (b+1)≠inn z (a+1)from λh=>e (cI h).1)];by_cases e2:y=n
    .subst e2;rw[beq_iff_eq.2 rfl,hn];show none=SOb.inner b ob;rw[SOb.vW hf]
    grind
  .rw[Sg.fp _ hno,Sg.fp _ hno,dJ,dJ,beq_eq_false_iff_ne.2 (hno z (a+1)),beq_eq_false_iff_ne.2 (show s≠aD n from λh=>hno n 0 h)];rfl
def xH(P:Program)(n:Nat)(t t':TypeId)(σ:Sg)(z:Nat)(lt2:LT)(a k:Nat)(y:SV):SR:=match bu P t,(bu P t').isSome,σ z with
 |some e,true,some (.fam ty ity lt L ov)=>(match decEq lt2 lt,jy P e,frs σ n,ae ity e,ae (aj P e) lt.w,q9 σ lt y with
  | .isTrue _,true,true,true,true,some (p2,m,r2)=>some ((a<L.length)::(k=(L.getD a []).length)::(jC ov a++p2++[(L.getD a []).length+m.length<=1000000]),.own n lt (L.getD a [] ++m).length,z::r2,[(z,some (.fam ty ity lt L ((a,.ownf z lt a k)::ov))),(n,some (.row e lt (L.getD a [] ++m)))])
  |_,_,_,_,_,_=>none)
 |_,_,_=>none
def WE{P:Program}{n:Nat}{t t':TypeId}{σ:Sg}{z:Nat}{lt2:LT}{a k:Nat}{y:SV}{ps:List Prop}{r:SV}{rd:List Nat}{W:aJ}(h:xH P n t t' σ z lt2 a k y=some (ps,r,rd,W))(hp:∀p∈ps,p):
  (bu P t').isSome=true/\um P n t σ.a (SV.ownf z lt2 a k).av y.av λr' R' W'=>r'=r.av/\bI σ rd W R' W':=by
 unfold xH at h;split at h
 case h_2=>cases h
 rename_i e ty ity lt L ov he ht' hs;split at h
 case h_2=>cases h
 rename_i hlt p2 m r2 _ htapp hf hi hw h2;subst hlt;cases h;have ha:a<L.length:=hp _ (by grind);have hk:k=(L.getD a []).length:=hp _ (by grind);have ho:ov.lookup a=none:=oj λp hq=>hp p (by simp[hq]);refine⟨ht',e,he,htapp,?_⟩;rw[bp hw];obtain⟨f1,f2⟩:=gj hf;refine⟨_,zP hs ha ho,bp hi,rfl,?_,?_⟩
 .rw[eB,lt2.wide.length,hk]
 .subst hk;refine Fq h2 (λp hpp=>hp p (by simp[hpp])) ⟨hp _ (by simp),?_,?_⟩
  .show _=AV.own (aD n) 0 _;grind
  .rw[<-f1];have e1:(⟨e,lt2.w,(lt2.enc (L.getD a [])).map AV.p++(lt2.enc m).map AV.p⟩:Ob)=SOb.ob n (.row e lt2 (L.getD a [] ++m)):=by show _=(⟨e,lt2.w,(lt2.enc (L.getD a [] ++m)).map AV.p⟩:Ob);rw[lt2.wide.append,d7]
   rw[e1];refine bI.take hs ho rfl f2 rfl λs hm=> ?_;rcases bh.1 hm with rfl|hm
   .rw[cP];grind
   .exact dK _ ((bI.read σ r2).1 s hm)
def rZ(P:Program)(ltOf:TypeId->Option LT)(n:Nat)(t t':TypeId)(σ:Sg)(x y:SV):SR:=match x with
 | .ownf z lt a k=>xH P n t t' σ z lt a k y
 |_=>uP P ltOf n t t' σ x y
def Xl{P:Program}{ltOf:TypeId->Option LT}{n:Nat}{t t':TypeId}{σ:Sg}{x y:SV}{ps:List Prop}{r:SV}{rd:List Nat}{W:aJ}(h:rZ P ltOf n t t' σ x y=some (ps,r,rd,W))(hp:∀p∈ps,p):
  (bu P t').isSome=true/\um P n t σ.a x.av y.av λr' R' W'=>r'=r.av/\bI σ rd W R' W':=by
 unfold rZ at h;split at h
 .exact WE h hp
 .exact WF h hp
def smm(f:Int->Int->Int)(x y:SV):Option SV:=match x,y with
 | .int .i64 a,.int .i64 b=>some (.int .i64 (f a b))
 |_,_=>none
def JF{f:Int->Int->Int}{x y r:SV}(h:smm f x y=some r){K:AV->Prop}(hK:K r.av):mmA f x.av y.av K:=by unfold smm at h;split at h<;>cases h;exact hK
end
noncomputable section
def gI(f:SV->Option (List Prop×SV)):List SV->Option (List Prop×List SV)
 |[] =>some ([],[])
 |x::l=>match f x,gI f l with
  |some (p,y),some (q,m)=>some (p++q,y::m)
  |_,_=>none
def rF(d:Nat)(σ:Sg)(x n:Nat):Option (List Prop×SV):=match d,σ x with
 |_+1,some (.fam _ _ .I L [])=>some ([n=L.length],.lst .Q L)
 |_+1,some (.fam _ _ .V L [])=>some ([n=L.length],.lst .R L)
 |_+1,some (.fam _ _ .T L [])=>some ([n=L.length],.lst .U L)
 |_+1,some (.fam _ _ .Q L [])=>some ([n=L.length],.lst .F L)
 |_,_=>none
def fD:Nat->Sg->SV->Option (List Prop×SV)
 |_,_,.nil=>some ([],.sl 0 [])
 |_+1,σ,.own s _ n=>(match σ s with
  |some (.row _ lt l)=>some ([n=l.length],.lst lt l)
  |_=>none)
 |_+1,σ,.owns s lt2 o n=>(match σ s with
  |some (.row _ lt l)=>(match ae lt2.w lt.w with|true=>some ([o+n<=l.length],.lst lt ((l.drop o).take n))|false=>none)
  |_=>none)
 |d+1,σ,.ownx s n=>(match σ s with
  |some (.arr _ ez cs)=>(match ae cs.length (n*ez),gI (fD d σ) cs with|true,some (ps,m)=>some (ps,.sl n m)|_,_=>none)
  |_=>none)
 |d+1,σ,.ptr s off=>(match σ s with
  |some (.box _ cs)=>(match gI (fD d σ) cs with|some (ps,m)=>some (ps,.pro m off)|none=>none)
  |_=>none)
 |_+1,σ,.ownf x _ a n=>(match σ x with
  |some (.fam _ _ lt L ov)=>some ((a<L.length)::(n=(L.getD a []).length)::jC ov a,.lst lt (L.getD a []))
  |_=>none)
 |d+1,σ,.owF x n=>rF d σ x n
 |d+1,σ,.agg l=>(match gI (fD d σ) l with|some (ps,m)=>some (ps,.agg m)|none=>none)
 |d+1,σ,.fn f a b=>(match gI (fD d σ) a,gI (fD d σ) b with|some (p,x),some (q,y)=>some (p++q,.fnp f x y)|_,_=>none)
 |_,_,x=>(match x.av with| .p _=>some ([],x)|_=>none)
def qh{d:Nat}{σ:Sg}{f:SV->Option (List Prop×SV)}(hf:∀x ps y,f x=some (ps,y)->(∀p∈ps,p)->∃q,cq d σ.a x.av=some q/\y.av= .p q):
  ∀{l:List SV} {ps:List Prop} {m:List SV},gI f l=some (ps,m)->(∀p∈ps,p)->∃q,cM (cq d σ.a) (avs l)=some q/\avs m=q.map .p
 |[],ps,m,h,_=>by obtain⟨rfl,rfl⟩:=h;exact⟨[],rfl,rfl⟩
 |x::l,ps,m,h,hp=>by
  unfold gI at h;split at h
  .rename_i p y q m' h1 h2;cases h;obtain⟨u,e1,e2⟩:=hf x p y h1 (λr hr=>hp r (by grind));obtain⟨v,e3,e4⟩:=qh hf h2 (λr hr=>hp r (by grind));refine⟨u::v,?_,by rw[avs,e2,e4];rfl⟩;rw[avs,cM,e1,e3]
  .cases h
def EX{d:Nat}{σ:Sg}{x:SV}{ps:List Prop}{y:SV}(h:(match x.av with| .p _=>some (([] :List Prop),x)|_=>none)=some (ps,y)):∃q,cq d σ.a x.av=some q/\y.av= .p q:=by split at h<;>cases h;rename_i q hq;exact⟨q,by rw[hq,BL],hq⟩
def EY{σ:Sg}{x a n d:Nat}{ty ity:TypeId}{lt:LT}{L:List (List lt.ty)}{ov:List (Nat×SV)}(hs:σ x=some (.fam ty ity lt L ov))(ha:a<L.length)(hn:n=(L.getD a []).length)(ho:ov.lookup a=none):
  cq (d+1) σ.a (.own (inn x (a+1)) 0 n)=some (.sl (L.getD a []).length (lt.enc (L.getD a []))):=by
 unfold cq;rw[zP hs ha ho];simp only[kc,pU,dn,mq];rw[ir (by rw[lt.wide.length,hn];omega),hn]
def GI{d:Nat}{g:Nat->Option Ob}{f:Nat->AV}{h:Nat->PV}:∀(l:List Nat),(∀i∈l,cq d g (f i)=some (h i))->cM (cq d g) (l.map f)=some (l.map h)
 |[],_=>rfl
 |i::l,H=>by
  rw[cV,cM,H i (by grind),GI l λj hj=>H j (dK _ hj)];rfl
def vo{α β:Type}(f:α->β):∀l:List α,(l.flatMap λr=>[f r])=l.map f
 |[] =>rfl
 |a::l=>by rw[qC,cV,vo f l];rfl
def vz{σ:Sg}{x n d:Nat}{ty ity:TypeId}{lt:LT}{L:List (List lt.ty)}(hs:σ x=some (.fam ty ity lt L []))(hn:n=L.length):
  cq (d+2) σ.a (.own (aD x) 0 n)=some (.sl n (L.flatMap λr=>[PV.sl r.length (lt.enc r)])):=by
 have e1:Sg.a σ (aD x)=some ⟨ty,1,(bO L.length).map (cu x L [])⟩:=by rw[Sg.bW,hs];rfl
 have e2:cM (cq (d+1) σ.a) ((bO L.length).map (cu x L []))=some ((bO L.length).map λi=>PV.sl (L.getD i []).length (lt.enc (L.getD i []))):=
  GI _ λi hi=>EY (ov:=[]) hs (by grind) rfl rfl
 have e3:((bO L.length).map λi=>PV.sl (L.getD i []).length (lt.enc (L.getD i [])))=L.flatMap λr=>[PV.sl r.length (lt.enc r)] :=by
  rw[vo (λr:List lt.ty=>PV.sl r.length (lt.enc r))];refine yV (by simp) λi h1 h2=> ?_;have h3:i<L.length:=by simpa using h2
  rw[vF,vF,List.getElem_range,bq,dA h3];rfl
 unfold cq;rw[e1];simp only[kc,e2,e3,dn,mq];rw[ir];grind
def V3{σ:Sg}{d x n:Nat}{ps:List Prop}{y:SV}(h:rF d σ x n=some (ps,y))(hp:∀p∈ps,p):∃q,cq (d+1) σ.a (SV.owF x n).av=some q/\y.av= .p q:=by
 unfold rF at h;split at h
 .rename_i d ty ity L hs;cases h;have hn:n=L.length:=hp _ (by grind);exact⟨_,vz hs hn,by rw[hn];rfl⟩
 .rename_i d ty ity L hs;cases h;have hn:n=L.length:=hp _ (by grind);exact⟨_,vz hs hn,by rw[hn];rfl⟩
 .rename_i d ty ity L hs;cases h;have hn:n=L.length:=hp _ (by grind);exact⟨_,vz hs hn,by rw[hn];rfl⟩
 .rename_i d ty ity L hs;cases h;have hn:n=L.length:=hp _ (by grind);exact⟨_,vz hs hn,by rw[hn];rfl⟩
 .cases h
def si{σ:Sg}:∀{d:Nat} {x:SV} {ps:List Prop} {y:SV},fD d σ x=some (ps,y)->(∀p∈ps,p)->∃q,cq d σ.a x.av=some q/\y.av= .p q:=by
 intro d;induction d with
 |zero=>
  intro x ps y h hp;cases x<;>first
   |(change some ([],SV.sl 0 [])=some (ps,y)at h;cases h;exact⟨.sl 0 [],rfl,rfl⟩)
   |exact EX h
 |succ d ih=>
  intro x ps y h hp;have ihl:= @qh d σ (fD d σ) (by grind);cases x with
  |nil=>cases h;exact⟨.sl 0 [],rfl,rfl⟩
  |own s t n=>
   change (match σ s with|some (.row _ lt l)=>some ([n=l.length],SV.lst lt l)|_=>none)=_ at h;split at h<;>cases h;rename_i ty lt l hs;have hn:n=l.length:=hp _ (by grind);refine⟨_,?_,rfl⟩;show cq (d+1) (Sg.a σ) (.own (aD s) 0 n)=_;unfold cq;have:Sg.a σ (aD s)=some ⟨ty,lt.w,(lt.enc l).map .p⟩:=by rw[Sg.bW,hs];rfl
   rw[this];simp only[kc,pU,dn,mq];rw[ir (by rw[lt.wide.length,hn];omega),hn]
  |owns s lt2 o n=>
   change (match σ s with|some (.row _ lt l)=>(match ae lt2.w lt.w with|true=>some ([o+n<=l.length],SV.lst lt ((l.drop o).take n))|false=>none)|_=>none)=_ at h;split at h
   case h_2=>cases h
   rename_i ty lt l hs;split at h<;>cases h;rename_i hw;have hw:=bp hw;have hn:o+n<=l.length:=hp _ (by grind);refine⟨_,?_,rfl⟩;show cq (d+1) (Sg.a σ) (.own (aD s) (o*lt2.w) n)=_;unfold cq;have:Sg.a σ (aD s)=some ⟨ty,lt.w,(lt.enc l).map .p⟩:=by rw[Sg.bW,hs];rfl
   rw[this];simp only[kc,pU,dn];rw[hw,lt.wide.drop,lt.wide.take];grind
  |ownx s n=>
   change (match σ s with|some (.arr _ ez cs)=>(match ae cs.length (n*ez),gI (fD d σ) cs with|true,some (ps,m)=>some (ps,SV.sl n m)|_,_=>none)|_=>none)=_ at h;split at h
   case h_2=>cases h
   rename_i ty ez cs hs;split at h<;>cases h;rename_i m hl hm;obtain⟨q,e1,e2⟩:=ihl hm hp;refine⟨.sl n q,?_,by show(match bJ (avs m)with|some q=>AV.p (.sl n q)|none=> .any)=_;rw[e2,cW]⟩;show cq (d+1) (Sg.a σ) (.own (aD s) 0 n)=_;unfold cq;have:Sg.a σ (aD s)=some ⟨ty,ez,avs cs⟩:=by rw[Sg.bW,hs];rfl
   rw[this];simp only[kc,e1,dn,mq];rw[ir (by rw[<-(jM e1).1,fh,bp hl];omega)]
  |ptr s off=>
   change (match σ s with|some (.box _ cs)=>(match gI (fD d σ) cs with|some (ps,m)=>some (ps,SV.pro m off)|none=>none)|_=>none)=_ at h;split at h
   case h_2=>cases h
   rename_i ty cs hs;split at h<;>cases h;rename_i m hm;obtain⟨q,e1,e2⟩:=ihl hm hp;refine⟨.pro q off,?_,by show(match bJ (avs m)with|some q=>AV.p (.pro q off)|none=> .any)=_;rw[e2,cW]⟩;show cq (d+1) (Sg.a σ) (.ptr (aD s) off)=_;unfold cq;have:Sg.a σ (aD s)=some ⟨ty,0,avs cs⟩:=by rw[Sg.bW,hs];rfl
   grind
  |ownf x t a n=>
   change (match σ x with|some (.fam _ _ lt L ov)=>some ((a<L.length)::(n=(L.getD a []).length)::jC ov a,SV.lst lt (L.getD a []))|_=>none)=_ at h;split at h<;>cases h;rename_i ty ity lt L ov hs;have ha:a<L.length:=hp _ (by grind);have hn:n=(L.getD a []).length:=hp _ (by grind);have ho:ov.lookup a=none:=oj (by grind);exact⟨_,EY hs ha hn ho,rfl⟩
  |owF x n=>exact V3 (show rF d σ x n=_ from h) hp
  |agg l=>
   change (match gI (fD d σ) l with|some (ps,m)=>some (ps,SV.agg m)|none=>none)=_ at h;split at h<;>cases h;rename_i m hm;obtain⟨q,e1,e2⟩:=ihl hm hp;refine⟨.agg q,?_,by show d9 (avs m)=_;rw[e2,oe]⟩;show cq (d+1) (Sg.a σ) (d9 (avs l))=_;unfold d9;cases hq:bJ (avs l)with
   |some q'=>
    rw[fR hq,pU]at e1;cases e1;exact BL _ _ _
   |none=>unfold cq;rw[e1];rfl
  |fn f a b=>
   change (match gI (fD d σ) a,gI (fD d σ) b with|some (p,x),some (q,y)=>some (p++q,SV.fnp f x y)|_,_=>none)=_ at h;split at h<;>cases h;rename_i p x q y h1 h2;obtain⟨u,e1,e2⟩:=ihl h1 (λr hr=>hp r (by grind));obtain⟨v,e3,e4⟩:=ihl h2 (λr hr=>hp r (by grind));refine⟨.fn (.func f) u v,?_,by show(match bJ (avs x),bJ (avs y)with|some x,some y=>AV.p (.fn (.func f) x y)|_,_=> .any)=_;rw[e2,e4,cW,cW]⟩;show cq (d+1) (Sg.a σ) (.fn (.func f) (avs a) (avs b))=_;unfold cq;grind
  |_=>exact EX h
def cn:Nat->Sg->SV->List Nat
 |0,_,_=>[]
 |d+1,σ,x=>
  let O:Nat->List Nat:=λs=>match σ s with
   |some (.box _ cs)=>bD (cn d σ) cs
   |some (.arr _ _ cs)=>bD (cn d σ) cs
   |some (.fam _ _ _ _ ov)=>bD (λq:Nat×SV=>cn d σ q.2) ov
   |_=>[]
  match x with
  | .own s _ _=>s::O s
  | .owns s _ _ _=>s::O s
  | .ownx s _=>s::O s
  | .ptr s _=>s::O s
  | .pte s _ _ _=>s::O s
  | .ptf s _=>s::O s
  | .owF s _=>s::O s
  | .ownf s _ _ _=>[s]
  | .ptef s _ _ _ _=>[s]
  | .agg l=>bD (cn d σ) l
  | .fn _ a b=>bD (cn d σ) a++bD (cn d σ) b
  |_=>[]
def jA:Nat->Sg->SV->Bool
 |0,_,_=>true
 |d+1,σ,x=>
  let O:Nat->Bool:=λs=>match σ s with
   |some (.box _ cs)=>cs.all (jA d σ)
   |some (.arr _ _ cs)=>cs.all (jA d σ)
   |some (.fam ..)=>false
   |some (.mf _)=>false
   |some (.it _ _)=>false
   |_=>true
  match x with
  | .own s _ _=>O s
  | .owns s _ _ _=>O s
  | .ownx s _=>O s
  | .ptr s _=>O s
  | .pte s _ _ _=>O s
  | .ptf s _=>O s
  | .owF s _=>O s
  | .ownf .. =>false
  | .ptef .. =>false
  | .agg l=>l.all (jA d σ)
  | .fn _ a b=>a.all (jA d σ)&&b.all (jA d σ)
  |_=>true
def mz{d:Nat}{g:Nat->Option Ob}{y:AV}(h:(∃q,y= .p q)\/y= .any\/(∃l,y= .tup l)):bc (d+1) g y=[] :=by rcases h with⟨q,rfl⟩|rfl|⟨l,rfl⟩<;>rfl
def nP(x:SV):(match x with| .tup _| .sl .. | .pro .. | .fnp .. =>True|_=>False)->(∃q,x.av= .p q)\/x.av= .any\/(∃l,x.av= .tup l):=by
 intro h;cases x<;>first|exact h.elim|skip
 .show(∃q,gq _= .p q)\/gq _= .any\/∃m,gq _= .tup m;unfold gq;grind
 all_goals
  simp only[SV.av];split
  .exact .inl ⟨_,rfl⟩
  .exact .inr (.inl rfl)
def GE{d:Nat}{g:Nat->Option Ob}(l:List SV):bc (d+1) g (d9 (avs l))=bD (bc d g) (avs l):=by
 unfold d9;cases hq:bJ (avs l)with
 |none=>rfl
 |some q=>rw[fR hq,kN];rfl
def IE{A B Ac Bc:List Nat}(h1:inC A Ac)(h2:inC B Bc):inC (A++B) (Ac++Bc):=λs hs=>by
 rcases eK.1 hs with h|h
 .exact f7 _ (h1 s h)
 .exact fq _ (h2 s h)
def nM{d:Nat}{σ:Sg}(ih:∀x:SV,inC (bc d σ.a x.av) ((cn d σ x).map ncl)):∀l:List SV,inC (bD (bc d σ.a) (avs l)) ((bD (cn d σ) l).map ncl)
 |[] =>λs hs=>(dg hs).elim
 |x::l=>by rw[avs,bD,bD,d7];exact IE (ih x) (nM ih l)
def y5{σ:Sg}{d:Nat}:∀s a:Nat,inC (inn s (a+1)::(match σ.a (inn s (a+1))with|some ob=>bD (bc d σ.a) ob.cells|none=>[])) ([s].map ncl):=by
 intro s a t ht;rcases bh.1 ht with rfl|ht
 .rw[cP];grind
 .rw[Sg.co]at ht;cases hs:σ s with
  |none=>grind
  |some ob=>
   rw[hs]at ht;cases ob with
   |fam ty ity lt L ov=>
    have ht:t∈(match(match ov.lookup a with|some _=>none|none=>(L[a]?).map λl=>(⟨ity,lt.w,(lt.enc l).map .p⟩:Ob))with|some ob=>bD (bc d σ.a) ob.cells|none=>[]):=ht;split at ht
    .rename_i ob hob;split at hob
     .cases hob
     .cases hL:L[a]? with
      |none=>grind
      |some l=>rw[hL]at hob;cases hob;rw[kN]at ht;grind
    grind
   |mf M=>
    have ht:t∈(match((M[a]?).map λq=>(⟨3,1,(LT.enc .I q.2).map .p⟩:Ob))with|some ob=>bD (bc d σ.a) ob.cells|none=>[]):=ht;cases hL:M[a]? with
    |none=>rw[hL]at ht;exact(dg ht).elim
    |some q=>rw[hL]at ht;have ht:t∈bD (bc d σ.a) ((LT.enc .I q.2).map .p):=ht;rw[kN]at ht;exact(dg ht).elim
   |_=>exact(dg ht).elim
def WN{σ:Sg}{d:Nat}(ih:∀x:SV,inC (bc d σ.a x.av) ((cn d σ x).map ncl)):∀s:Nat,inC (aD s::(match σ.a (aD s)with|some ob=>bD (bc d σ.a) ob.cells|none=>[])) ((s::(match σ s with|some (.box _ cs)=>bD (cn d σ) cs|some (.arr _ _ cs)=>bD (cn d σ) cs|some (.fam _ _ _ _ ov)=>bD (λq:Nat×SV=>cn d σ q.2) ov|_=>[])).map ncl):=by
 intro s t ht;rw[Sg.bW]at ht;rcases bh.1 ht with rfl|ht
 .rw[show cls (aD s)=ncl s from cP s 0];grind
 cases hs:σ s with
 |none=>grind
 |some ob=>
  rw[hs]at ht;cases ob with
  |box ty cs=>exact dK _ (nM ih cs t ht)
  |row ty lt l=>
   have ht:t∈bD (bc d σ.a) ((lt.enc l).map .p):=ht;rw[kN]at ht;grind
  |arr ty ez cs=>exact dK _ (nM ih cs t ht)
  |mp ks=>
   have ht:t∈bD (bc d σ.a) (cB (fU ks)):=ht;rw[oq,kN]at ht;grind
  |mf M=>
   have ht:t∈bD (bc d σ.a) (cB (mfK (λi=>inn s (i+1)) 0 M)):=ht;have:∀(M:List ((Nat×Nat)×List Int)) (i:Nat),t∈bD (bc d σ.a) (cB (mfK (λi=>inn s (i+1)) i M))->cls t∈[ncl s] :=λM=>by
    induction M with
    |nil=>intro i h;exact(dg h).elim
    |cons q M ihM=>
     intro i h;have h:t∈bc d σ.a (.p (.agg (eu [(q.1.1:Int),(q.1.2:Int)])))++(bc d σ.a (.own (inn s (i+1)) 0 q.2.length)++bD (bc d σ.a) (cB (mfK (λi=>inn s (i+1)) (i+1) M))):=h;rw[JH,oS]at h;rcases eK.1 h with h|h
     .cases d with
      |zero=>exact(dg h).elim
      |succ d=>exact y5 s i t h
     .exact ihM _ h
   have:=this M 0 ht;exact bh.2 (.inl (bM.1 this))
  |it cur M=>
   have ht:t∈bc d σ.a (.ptr (inn s 1) 0)++(bc d σ.a (itQ cur)++(bc d σ.a (.mp (aD s))++bD (bc d σ.a) (cB (itK M)))):=ht;rw[wD,kN,je,show bc d σ.a (.mp (aD s))=[] by cases d<;>rfl,je,show bc d σ.a (itQ cur)=[] by cases cur<;>cases d<;>rfl,je]at ht;cases d with
   |zero=>exact(dg ht).elim
   |succ d=>exact bh.2 (.inl (bM.1 (y5 s 0 t ht)))
  |fam ty ity lt L ov=>
   have ht:t∈bD (bc d σ.a) ((bO L.length).map (cu s L ov)):=ht;have:∀l:List Nat,t∈bD (bc d σ.a) (l.map (cu s L ov))->cls t∈ncl s::((bD (λq:Nat×SV=>cn d σ q.2) ov).map ncl):=λl=>by
    induction l with
    |nil=>intro h;exact(dg h).elim
    |cons i l ihl=>
     intro h;rcases eK.1 h with h|h
     .unfold cu at h;split at h
      .rename_i v hv;obtain⟨y,hy,e⟩:=cF.1 (ih v t h);refine dK _ (cF.2 ⟨y,jl (x:=(i,v)) ?_ hy,e⟩);have key:∀ov:List (Nat×SV),ov.lookup i=some v->(i,v)∈ov:=λov hv=>by
        induction ov with
        |nil=>cases hv
        |cons q ov ihv=>
         grind
       grind
      .cases d with
       |zero=>exact(dg h).elim
       |succ d=>
        rcases bh.1 h with rfl|h
        .rw[cP];grind
        .rw[Sg.co,hs]at h;have h:t∈(match(match ov.lookup i with|some _=>none|none=>(L[i]?).map λl=>(⟨ity,lt.w,(lt.enc l).map .p⟩:Ob))with|some ob=>bD (bc d σ.a) ob.cells|none=>[]):=h;split at h
         .rename_i ob hob;split at hob
          .cases hob
          .cases hL:L[i]? with
           |none=>grind
           |some l=>rw[hL]at hob;cases hob;rw[kN]at h;grind
         grind
     grind
   grind
def Ai{σ:Sg}:∀(d:Nat) (x:SV),inC (bc d σ.a x.av) ((cn d σ x).map ncl):=by
 intro d;induction d with
 |zero=>intro x s hs;exact(dg hs).elim
 |succ d ih=>
  intro x;have obs:=WN ih;have inner:=y5 (σ:=σ) (d:=d);have non:∀{y:SV} {l:List Nat},bc (d+1) σ.a y.av=[]->inC (bc (d+1) σ.a y.av) l:=λh=>by rw[h];exact λs hs=>by grind
  cases x with
  |own s t n=>exact obs s
  |owns s t o n=>exact obs s
  |ownx s n=>exact obs s
  |ptr s off=>exact obs s
  |pte s t i off=>exact obs s
  |ptf s a=>exact obs s
  |owF s n=>exact obs s
  |ownf s t a n=>exact inner s a
  |ptef s t a i off=>exact inner s a
  |agg l=>
   show inC (bc (d+1) σ.a (d9 (avs l))) _;rw[GE];exact nM ih l
  |fn f a b=>
   show inC (bD (bc d σ.a) (avs a)++bD (bc d σ.a) (avs b)) ((bD (cn d σ) a++bD (cn d σ) b).map ncl);rw[d7];exact IE (nM ih a) (nM ih b)
  |tup l=>exact non (mz (nP _ trivial))
  |sl n cs=>exact non (mz (nP _ trivial))
  |pro cs off=>exact non (mz (nP _ trivial))
  |fnp f a b=>exact non (mz (nP _ trivial))
  |_=>exact non rfl
def oy{d:Nat}{σ:Sg}(ih:∀x:SV,jA d σ x=true->bc d σ.a x.av=(cn d σ x).map aD/\∀y∈cn d σ x,mM (σ y)=true):∀l:List SV,l.all (jA d σ)=true->bD (bc d σ.a) (avs l)=(bD (cn d σ) l).map aD/\∀y∈bD (cn d σ) l,mM (σ y)=true
 |[],_=>⟨rfl,λy hy=>(dg hy).elim⟩
 |x::l,h=>by
  rw[List.all_cons,cD]at h;obtain⟨a1,a2⟩:=ih x h.1;obtain⟨b1,b2⟩:=oy ih l h.2;rw[avs,bD,bD,d7,a1,b1];grind
def Ul{σ:Sg}:∀(d:Nat) (x:SV),jA d σ x=true->bc d σ.a x.av=(cn d σ x).map aD/\∀y∈cn d σ x,mM (σ y)=true:=by
 intro d;induction d with
 |zero=>intro x _;exact⟨rfl,λy hy=>(dg hy).elim⟩
 |succ d ih=>
  intro x hx;have obs:∀s:Nat,(match σ s with|some (.box _ cs)=>cs.all (jA d σ)|some (.arr _ _ cs)=>cs.all (jA d σ)|some (.fam ..)=>false|some (.mf _)=>false|some (.it _ _)=>false|_=>true)=true->
    (aD s::(match σ.a (aD s)with|some ob=>bD (bc d σ.a) ob.cells|none=>[]))=(s::(match σ s with|some (.box _ cs)=>bD (cn d σ) cs|some (.arr _ _ cs)=>bD (cn d σ) cs|some (.fam _ _ _ _ ov)=>bD (λq:Nat×SV=>cn d σ q.2) ov|_=>[])).map aD/\
    ∀y∈(s::(match σ s with|some (.box _ cs)=>bD (cn d σ) cs|some (.arr _ _ cs)=>bD (cn d σ) cs|some (.fam _ _ _ _ ov)=>bD (λq:Nat×SV=>cn d σ q.2) ov|_=>[])),mM (σ y)=true:=by
   intro s h;rw[Sg.bW,cV];cases hs:σ s with
   |none=>exact⟨rfl,λy hy=>by rw[bM.1 hy,hs];rfl⟩
   |some ob=>
    rw[hs]at h;cases ob with
    |box ty cs=>
     obtain⟨a1,a2⟩:=oy ih cs h;refine⟨congrArg (aD s:: ·) a1,λy hy=> ?_⟩;rcases bh.1 hy with rfl|hy
     .rw[hs];rfl
     grind
    |row ty lt l=>exact⟨congrArg (aD s:: ·) (kN _ _ _),λy hy=>by rw[bM.1 hy,hs];rfl⟩
    |arr ty ez cs=>
     obtain⟨a1,a2⟩:=oy ih cs h;refine⟨congrArg (aD s:: ·) a1,λy hy=> ?_⟩;rcases bh.1 hy with rfl|hy
     .rw[hs];rfl
     grind
    |mp ks=>
     refine⟨congrArg (aD s:: ·) ?_,λy hy=>by rw[bM.1 hy,hs];rfl⟩;show bD (bc d σ.a) (cB (fU ks))=_;rw[oq];exact kN _ _ _
    |fam=>cases h
    |mf=>cases h
    |it=>cases h
  have non:∀{y:SV},bc (d+1) σ.a y.av=[]->cn (d+1) σ y=[]->bc (d+1) σ.a y.av=(cn (d+1) σ y).map aD/\∀z∈cn (d+1) σ y,mM (σ z)=true:=by grind
  cases x with
  |own s t n=>exact obs s hx
  |owns s t o n=>exact obs s hx
  |ownx s n=>exact obs s hx
  |ptr s off=>exact obs s hx
  |pte s t i off=>exact obs s hx
  |ptf s a=>exact obs s hx
  |owF s n=>exact obs s hx
  |ownf s t a n=>cases hx
  |ptef s t a i off=>cases hx
  |agg l=>
   show bc (d+1) σ.a (d9 (avs l))=_/\_;rw[GE];exact oy ih l hx
  |fn f a b=>
   have hx:(a.all (jA d σ)&&b.all (jA d σ))=true:=hx;rw[cD]at hx;obtain⟨a1,a2⟩:=oy ih a hx.1;obtain⟨b1,b2⟩:=oy ih b hx.2;show bD (bc d σ.a) (avs a)++bD (bc d σ.a) (avs b)=(bD (cn d σ) a++bD (cn d σ) b).map aD/\∀y∈bD (cn d σ) a++bD (cn d σ) b,_;grind
  |tup l=>exact non (mz (nP _ trivial)) rfl
  |sl n cs=>exact non (mz (nP _ trivial)) rfl
  |pro cs off=>exact non (mz (nP _ trivial)) rfl
  |fnp f a b=>exact non (mz (nP _ trivial)) rfl
  |_=>exact non rfl rfl
inductive RK(X:Type) where
 |val (fr:Bool) (res:X->SV)
 |own (ty:TypeId) (t:LT) (l:X->List t.ty) (ys:X->List SV)
 |ownN (ty:TypeId) (t:LT) (l:X->List t.ty)
 |mutR (t:LT) (ty:TypeId) (l':X->List t.ty)
 |mutB (ty:TypeId) (cells':X->List SV)
 |tree (res:X->SV) (obs:X->aJ)
 |rowB (t:LT) (ty:TypeId) (l':X->List t.ty)
structure Con where
 X:Type
 dec:List SV->Option X
 pre:X->List Prop
 rk:RK X
def aBa(P:Program)(f:Nat){X:Type}(dec:List SV->Option X)(pre:X->List Prop):RK X->Prop
 | .val fr res=>∀xs x,dec xs=some x->(∀p∈pre x,p)->∃A r,avs xs=A.map .p/\(res x).av= .p r/\Sat P fr f A r
 | .own ty t l ys=>∀xs x,dec xs=some x->(∀p∈pre x,p)->∃A Y,avs xs=A.map .p/\avs (ys x)=Y.map .p/\uo P f A ty t.w (t.enc (l x)) (l x).length Y
 | .ownN ty t l=>∀xs x,dec xs=some x->(∀p∈pre x,p)->∃A,avs xs= .nil::A.map .p/\C9 P f A ty t.w (t.enc (l x)) (l x).length []
 | .mutR t ty l'=>∀l rest x,dec (.lst t l::rest)=some x->(∀p∈pre x,p)->∃A,avs rest=A.map .p/\oH P f (some l.length) A ty t.w (t.enc l) (t.enc (l' x))
 | .mutB ty cells'=>∀cs rest x,dec (.agg cs::rest)=some x->(∀p∈pre x,p)->∃A q q',avs rest=A.map .p/\avs cs=q.map .p/\avs (cells' x)=q'.map .p/\oH P f none A ty 0 q q'
 | .tree res obs=>∀xs x,dec xs=some x->(∀p∈pre x,p)->∃A,avs xs=A.map .p/\C8 P f A (res x).av (Sg.a (aJ.at (obs x)))
 | .rowB t ty l'=>∀l rest x,dec (.lst t l::rest)=some x->(∀p∈pre x,p)->∃A,avs rest=A.map .p/\Ra P f l.length A ty t.w (t.enc l) (t.enc (l' x)) (l' x).length
def Con.Ok(P:Program)(f:Nat)(c:Con):Prop:=aBa P f c.dec c.pre c.rk
abbrev Tab:=Nat->Option Con
def Tab.Ok(P:Program)(T:Tab):Prop:=∀f c,T f=some c->c.Ok P f
def LT.argP:(t:LT)->t.ty->PV
 | .V=>λv=> .agg [.int .i64 v.x,.int .i64 v.y]
 | .S=>λs=> .agg [.int .i64 s.a.x,.int .i64 s.a.y,.int .i64 s.b.x,.int .i64 s.b.y]
 | .R=>λr=> .sl r.length (iF r)
 | .I=>λn=> .int .i64 n
 | .B=>λb=> .bool b
 | .P=>λp=> .agg [.int .i64 p.1,.int .i64 p.2]
 | .Q=>λr=> .sl r.length (oG r)
 | .T=>λp=> .agg [.int .i64 p.x,.int .i64 p.y,.int .i64 p.den]
 | .U=>λr=> .sl r.length (Pp r)
 | .E=>λe=> .agg [.int .i64 e.fr,.int .i64 e.to,.int .i64 e.lf,.int .i64 e.rt,.sl e.src.length (oG e.src)]
 | .F=>λr=> .agg [.sl r.length (Pq r)]
def LT.one:LT->Bool
 | .V=>false
 | .S=>false
 | .P=>false
 | .T=>false
 | .E=>false
 | .F=>false
 |_=>true
def ul(t:LT)(v:SV):Option t.ty:=match t.one with
 |true=>t.dec [v]
 |false=>(match v with| .agg l=>t.dec l|_=>none)
def BC{t:LT}{v:SV}{x:t.ty}(h:ul t v=some x):v.av= .p (t.argP x):=by
 have agg:∀l:List SV,v= .agg l->t.dec l=some x->v.av= .p (.agg (t.rowP x)):=by intro l e hd;subst e;show d9 (avs l)=_;rw[LT.uF hd,oe]
 have one:t.dec [v] =some x->∀c,t.rowP x=[c]->v.av= .p c:=by intro hd c hc;have:=LT.uF hd;rw[hc]at this;simp only[avs,cV,lc,mb,and_true]at this;exact this
 unfold ul at h;cases t<;>simp only[LT.one]at h<;>first
  |exact one h _ rfl
  |(split at h<;>first|exact agg _ rfl h|cases h)
def Z1(P:Program)(pv:PV)(t:LT)(q:t.ty->Bool)(dom:t.ty->Prop):Prop:=∃f first caps,pv= .fn (.func f) first caps/\∀x,dom x->∃fr,Sat P fr f (first++[t.argP x] ++caps) (.bool (q x))
def Z0(P:Program)(pv:PV)(t:LT)(q:t.ty->t.ty->Int)(dom:t.ty->t.ty->Prop):Prop:=∃f first caps,pv= .fn (.func f) first caps/\∀x y,dom x y->∃fr,Sat P fr f (first++[t.argP x,t.argP y] ++caps) (.int .i64 (q x y))
def rQ(x:SV):Bool:=match x.av with
 | .p r=>r.flat
 |_=>false
def xQ(σ:Sg):List SV->List Prop×List SV×List Nat
 |[] =>([],[],[])
 |x::l=>(match fD 3 σ x,xQ σ l with
  |some (ps,y),(qs,m,rd)=>(ps++qs,y::m,cn 3 σ x++rd)
  |none,(qs,m,rd)=>(qs,.junk::m,rd))
def AB{σ:Sg}:∀{l:List SV} {ps:List Prop} {m:List SV} {rd:List Nat},xQ σ l=(ps,m,rd)->(∀p∈ps,p)->∃q R,avs m=q.map .p/\rq σ.a (avs l) q R/\inC R (rd.map ncl)
 |[],_,_,_,h,_=>by cases h;exact⟨[],[],rfl,rfl,λs hs=>by cases hs⟩
 |x::l,ps,m,rd,h,hp=>by
  unfold xQ at h;split at h
  .rename_i ps1 y qs m1 rd1 h1 h2;cases h;obtain⟨q,R,e1,e2,e3⟩:=AB h2 λp hh=>hp p (fq _ hh);obtain⟨q1,f1,f2⟩:=si h1 λp hh=>hp p (f7 _ hh);refine⟨q1::q,bc 3 σ.a x.av++R,by rw[avs,f2,e1];rfl,⟨_,_,rfl,.inr ⟨f1,rfl⟩,e2⟩,λs hs=> ?_⟩;rw[d7];rcases eK.1 hs with hs|hs
   .exact f7 _ (Ai 3 x s hs)
   .exact fq _ (e3 s hs)
  .rename_i qs m1 rd1 h1 h2;cases h;obtain⟨q,R,e1,e2,e3⟩:=AB h2 hp;exact⟨.junk::q,R,by rw[avs,e1];rfl,⟨[],R,rfl,.inl ⟨rfl,rfl⟩,e2⟩,e3⟩
def rG(T:Tab)(n:Nat)(σ:Sg)(f:Nat)(xs:List SV):SR:=match T f with
 |none=>none
 |some ⟨_,dec,pre,rk⟩=>(match rk with
  | .val fr res=>(match gI (fD 3 σ) xs with
    |some (ps,bs)=>(match dec bs with
     |some x=>(match(res x).ape,bJ (avs xs)with
      |false,some _=>some (ps++pre x,res x,[],[])
      |false,none=>(match fr,rQ (res x)with
       |false,false=>(match xs.all (jA 3 σ)with|true=>some (ps++pre x,res x,bD (cn 3 σ) xs,(bD (cn 3 σ) xs).map (·,none))|false=>none)
       |_,_=>some (ps++pre x,res x,bD (cn 3 σ) xs,[]))
      |_,_=>none)
     |none=>none)
    |none=>(match xQ σ xs with
     |(ps,bs,rd)=>(match dec bs with
      |some x=>(match(res x).ape,rQ (res x)with
       |false,true=>some (ps++pre x,res x,rd,[])
       |_,_=>none)
      |none=>none)))
  | .own ty t l ys=>(match bJ (avs xs),dec xs,frs σ n with
    |some _,some x,true=>(match ys x with
     |[] =>some (pre x,.own n t (l x).length,[],[(n,some (.row ty t (l x)))])
     |y::r=>(match ae (y::r).length 0 with|_=>some (pre x,.tup (.own n t (l x).length::y::r),[],[(n,some (.row ty t (l x)))])))
    |_,_,_=>none)
  | .ownN ty t l=>(match xs with
    | .nil::rest=>(match bJ (avs rest),dec (.nil::rest),frs σ n with
      |some _,some x,true=>some (pre x,.own n t (l x).length,[],[(n,some (.row ty t (l x)))])
      |_,_,_=>none)
    |_=>none)
  | .mutR t ty l'=>(match xs with
    | .own s _ m::rest=>(match σ s,bJ (avs rest)with
      |some (.row ty' t' l),some _=>(match decEq t' t,ae ty' ty with
       | .isTrue h,true=>(match dec (.lst t (h▸l)::rest)with
         |some x=>some ((m=l.length)::pre x,.undef,[s],[(s,some (.row ty t (l' x)))])
         |none=>none)
       |_,_=>none)
      |_,_=>none)
    |_=>none)
  | .mutB ty cells'=>(match xs with
    | .ptr s 0::rest=>(match σ s,bJ (avs rest)with
      |some (.box ty' cs),some _=>(match ae ty' ty,dec (.agg cs::rest)with
       |true,some x=>some (pre x,.undef,[s],[(s,some (.box ty (cells' x)))])
       |_,_=>none)
      |_,_=>none)
    |_=>none)
  | .tree .. =>none
  | .rowB .. =>none)
def F7{P:Program}{T:Tab}(hT:T.Ok P){n:Nat}{σ:Sg}{f:Nat}{xs:List SV}{ps:List Prop}{r:SV}{rd:List Nat}{W:aJ}(h:rG T n σ f xs=some (ps,r,rd,W))(hp:∀p∈ps,p):
  (mC P σ.a f (avs xs) (λr' R' W'=>r'=r.av/\bI σ rd W R' W')\/wU P n f (avs xs) (λr' R' W'=>r'=r.av/\bI σ rd W R' W'))/\r.ok:=by
 unfold rG at h;split at h
 .cases h
 rename_i X dec pre rk hTf;have hc:=hT f _ hTf;unfold Con.Ok at hc;split at h
 .rename_i fr res;split at h
  case h_2=>
   split at h;rename_i qs bs rd' hb;split at h
   case h_2=>cases h
   rename_i x hx;split at h<;>cases h;rename_i hape hfl;obtain⟨A,r,h1,h2,h3⟩:=hc bs x hx (λp h=>hp p (fq _ h));obtain⟨q,R,e1,e2,e3⟩:=AB hb λp h=>hp p (f7 _ h);have e4:q=A:=by rw[e1]at h1;have:=congrArg bJ h1;rw[cW,cW]at this;cases this;rfl
   subst e4;unfold rQ at hfl;rw[h2]at hfl;refine⟨.inl (.inr (.inr ⟨q,R,r,e2,h3.fresh hfl,h2.symm,e3,(λs hs=>by cases hs),rfl⟩)),SV.jt hape⟩
  rename_i qs bs hb;split at h
  case h_2=>cases h
  rename_i x hx;have fin:(∀p∈qs++pre x,p)->∃A r,cM (cq 3 σ.a) (avs xs)=some A/\(res x).av= .p r/\Sat P fr f A r:=by
   intro hp;obtain⟨A,r,h1,h2,h3⟩:=hc bs x hx (λp h=>hp p (by grind));obtain⟨q,h4,h5⟩:=qh (λx ps y=>si) hb (λp h=>hp p (by grind));rw[h1]at h5;have:A=q:=by have:=congrArg bJ h5;rw[cW,cW]at this;cases this;rfl
   subst this;grind
  have hR:bI σ (bD (cn 3 σ) xs) [] (bD (bc 3 σ.a) (avs xs)) [] :=⟨nM (Ai 3) xs,λs hs=>by grind,rfl⟩;split at h
  .rename_i A' hape hA';cases h;obtain⟨A,r,h1,h2,h3⟩:=fin hp;refine⟨.inl ?_,SV.jt hape⟩;rw[h2];rw[fR hA',pU]at h1;cases h1;exact yv h3 hA' ⟨rfl,bI.read σ []⟩
  .rename_i hape hA';cases hfr:fr with
   |true=>
    rw[hfr]at h;cases h;obtain⟨A,r,h1,h2,h3⟩:=fin hp;refine⟨.inl ?_,SV.jt hape⟩;rw[h2];rw[hfr]at h3;exact Dx h3 h1 rfl ⟨rfl,hR⟩
   |false=>
    cases hfl:rQ (res x)with
    |true=>
     rw[hfr,hfl]at h;cases h;obtain⟨A,r,h1,h2,h3⟩:=fin hp;refine⟨.inl ?_,SV.jt hape⟩;unfold rQ at hfl;rw[h2]at hfl|-;exact Dx (h3.fresh hfl) h1 rfl ⟨rfl,hR⟩
    |false=>
     rw[hfr,hfl]at h;dsimp only at h;split at h<;>cases h;rename_i hall;obtain⟨A,r,h1,h2,h3⟩:=fin hp;refine⟨.inl ?_,SV.jt hape⟩;rw[h2];obtain⟨e1,e2⟩:=oy (Ul 3) xs hall;refine TM h3 h1 e1 ⟨rfl,?_⟩;have e3:((bD (cn 3 σ) xs).map aD).map (·,(none:Option Ob))=aJ.sto ((bD (cn 3 σ) xs).map (·,none)):=by unfold aJ.sto;rw[gg,gg];rfl
     rw[e3];exact bI.flat λq hq=>by obtain⟨y,hy,rfl⟩:=cF.1 hq;exact⟨e2 y hy,rfl⟩
  .cases h
 .rename_i ty t l ys;split at h
  case h_2=>cases h
  rename_i A' x hA' hx hfr;obtain⟨f1,f2⟩:=gj hfr;have fin:(∀p∈pre x,p)->∃Y,avs (ys x)=Y.map .p/\uo P f A' ty t.w (t.enc (l x)) (l x).length Y:=by intro hp;obtain⟨A,Y,h1,h2,h3⟩:=hc xs x hx hp;rw[h1,cW]at hA';cases hA';exact⟨Y,h2,h3⟩
  split at h
  .rename_i hy;cases h;obtain⟨Y,h1,h2⟩:=fin hp;rw[hy]at h1;have hY:Y=[] :=by have:=congrArg fg h1;simp[avs]at this;grind
   subst hY;exact⟨.inr ⟨A',ty,t.w,t.enc (l x),(l x).length,[],by grind,by show _=AV.own (aD n) 0 _;rw[f1];rfl,bI.new (ob:= .row ty t (l x)) f2 f1 rfl⟩,trivial⟩
  .rename_i y r' hy;cases h;obtain⟨Y,h1,h2⟩:=fin hp;rw[hy]at h1;refine⟨.inr ⟨A',ty,t.w,t.enc (l x),(l x).length,Y,by grind,?_,bI.new (ob:= .row ty t (l x)) f2 f1 rfl⟩,trivial⟩;show xj n (l x).length Y=gq (avs (.own n t (l x).length::y::r'));cases Y with
   |nil=>simp[avs]at h1
   |cons y0 Y=>
    rw[avs,h1];unfold xj gq;rw[<-f1];rfl
 .rename_i ty t l;split at h
  case h_2=>cases h
  rename_i rest;split at h<;>cases h;rename_i A' x hA' hx hfr;obtain⟨f1,f2⟩:=gj hfr;obtain⟨A,h1,h2⟩:=hc _ x hx hp;have hA2:A'=A:=by have h1:AV.nil::avs rest= .nil::A.map .p:=h1;rw[mb]at h1;rw[h1.2,cW]at hA';cases hA';rfl
  subst hA2;exact⟨.inr ⟨A',ty,t.w,t.enc (l x),(l x).length,[],.inr ⟨avs rest,rfl,hA',h2⟩,by show _=AV.own (aD n) 0 _;rw[f1];rfl,bI.new (ob:= .row ty t (l x)) f2 f1 rfl⟩,trivial⟩
 .rename_i t ty l';split at h
  case h_2=>cases h
  rename_i s t2 m rest;split at h
  case h_2=>cases h
  rename_i ty' t' l A' hs hA';split at h
  case h_2=>cases h
  rename_i he _ hty;subst he;split at h<;>cases h;rename_i x hx;have hm:m=l.length:=hp _ (by simp);obtain⟨A,h1,h2⟩:=hc l rest x hx (by grind);have hty:=bp hty;refine⟨.inl (.inr (.inl ?_)),trivial⟩;refine⟨ty,t'.w,t'.enc l,by rw[Sg.bW,hs,hty];rfl,jh t'.gn,A,t'.enc (l' x),by rw[h1,cW],by grind,rfl,?_⟩;exact bI.flat (rd:=[s]) (W:=[(s,some (.row ty t' (l' x)))]) λq hq=>by rw[bM.1 hq,hs];exact⟨rfl,rfl⟩
 .rename_i ty cells';split at h
  case h_2=>cases h
  rename_i s rest;split at h
  case h_2=>cases h
  rename_i ty' cs A' hs hA';split at h<;>cases h;rename_i x hty hx;obtain⟨A,q,q',h1,h2,h3,h4⟩:=hc cs rest x hx hp;have hty:=bp hty;refine⟨.inl (.inr (.inl ?_)),trivial⟩;refine⟨ty,q,by rw[Sg.bW,hs,hty];show some (⟨ty,0,avs cs⟩:Ob)=_;rw[h2],A,q',by rw[h1,cW],h4,rfl,?_⟩;rw[<-h3];exact bI.flat (rd:=[s]) (W:=[(s,some (.box ty (cells' x)))]) λq hq=>by rw[bM.1 hq,hs];exact⟨rfl,rfl⟩
 .cases h
 .cases h
def tK(P:Program)(T:Tab)(n:Nat)(σ:Sg)(fv:SV)(xs:List SV):SR:=match fv with
 | .fn g a b=>rG T n σ g (a++xs++b)
 | .fnp g a b=>(match bJ (avs a),bJ (avs b)with|some _,some _=>rG T n σ g (a++xs++b)|_,_=>none)
 | .clo1 pv t q dom=>(match xs with
   |[v] =>(match ul t v with|some x=>some ([dom x/\Z1 P pv t q dom],.bool (q x),[],[])|none=>none)
   |_=>none)
 | .clo2 pv t q dom=>(match xs with
   |[v,u] =>(match ul t v,ul t u with|some x,some y=>some ([dom x y/\Z0 P pv t q dom],.int .i64 (q x y),[],[])|_,_=>none)
   |_=>none)
 |_=>none
def Tg{P:Program}{T:Tab}(hT:T.Ok P){n:Nat}{σ:Sg}{fv:SV}{xs:List SV}{ps:List Prop}{r:SV}{rd:List Nat}{W:aJ}(h:tK P T n σ fv xs=some (ps,r,rd,W))(hp:∀p∈ps,p):
  (xZ P σ.a fv.av (avs xs) (λr' R' W'=>r'=r.av/\bI σ rd W R' W')\/xX P n fv.av (avs xs) (λr' R' W'=>r'=r.av/\bI σ rd W R' W'))/\r.ok:=by
 unfold tK at h;split at h
 .have:=F7 hT h hp;rw[lr,lr]at this;exact this
 .rename_i g a b;split at h
  case h_2=>cases h
  rename_i x y h1 h2;have:=F7 hT h hp;rw[lr,lr,fR h1,fR h2]at this;have e:(SV.fnp g a b).av= .p (.fn (.func g) x y):=by simp only[SV.av,h1,h2]
  rw[e];exact this
 .rename_i pv t q dom;split at h
  case h_2=>cases h
  rename_i v;split at h<;>cases h;rename_i x hx;obtain⟨h1,f,first,caps,rfl,h2⟩:=hp _ (bM.2 rfl);obtain⟨fr,h3⟩:=h2 x h1;refine⟨.inl ?_,trivial⟩;show mC P σ.a f (first.map .p++[v.av] ++caps.map .p) _;have e:first.map AV.p++[v.av] ++caps.map AV.p=(first++[t.argP x] ++caps).map .p:=by rw[BC hx,d7,d7];rfl
  rw[e];exact yv h3 (cW _) ⟨rfl,bI.read σ []⟩
 .rename_i pv t q dom;split at h
  case h_2=>cases h
  rename_i v u;split at h<;>cases h;rename_i x y hx hy;obtain⟨h1,f,first,caps,rfl,h2⟩:=hp _ (bM.2 rfl);obtain⟨fr,h3⟩:=h2 x y h1;refine⟨.inl ?_,trivial⟩;show mC P σ.a f (first.map .p++[v.av,u.av] ++caps.map .p) _;have e:first.map AV.p++[v.av,u.av] ++caps.map AV.p=(first++[t.argP x,t.argP y] ++caps).map .p:=by rw[BC hx,BC hy,d7,d7];rfl
  rw[e];exact yv h3 (cW _) ⟨rfl,bI.read σ []⟩
 .cases h
structure Cx where
 P:Program
 T:Tab
 lt:TypeId->Option LT
 q:EqT
 mt:TypeId->Bool
 inl:Nat->Bool
def aC8(P:Program)(t:TypeId):Prop:=∃k e,P.underlying t=some (.map k e)/\MKey P k 2/\∀w,(zeroValue e).run P w= .ok (.bool false) w
def Cx.Ok(X:Cx):Prop:=X.T.Ok X.P/\X.q.Ok X.P/\∀t,X.mt t=true->aC8 X.P t
def lQ:Option SV->SR
 |some r=>(match r.ape with|false=>some ([],r,[],[])|true=>none)
 |none=>none
def qP{o:Option SV}{ps:List Prop}{r:SV}{rd:List Nat}{W:aJ}(h:lQ o=some (ps,r,rd,W)):o=some r/\r.ok/\ps=[]/\rd=[]/\W=[] :=by
 unfold lQ at h;split at h
 .split at h<;>cases h;rename_i hh;exact⟨rfl,SV.jt hh,rfl,rfl,rfl⟩
 .cases h
def nu:Option (List Prop×SV)->SR
 |some (ps,r)=>(match r.ape with|false=>some (ps,r,[],[])|true=>none)
 |none=>none
def vZ{o:Option (List Prop×SV)}{ps:List Prop}{r:SV}{rd:List Nat}{W:aJ}(h:nu o=some (ps,r,rd,W)):o=some (ps,r)/\r.ok/\rd=[]/\W=[] :=by
 unfold nu at h;split at h
 .split at h<;>cases h;rename_i hh;exact⟨rfl,SV.jt hh,rfl,rfl⟩
 .cases h
def mL:SR->SR
 |some (ps,r,rd,W)=>(match r.ape with|false=>some (ps,r,rd,W)|true=>none)
 |none=>none
def vY{o:SR}{ps:List Prop}{r:SV}{rd:List Nat}{W:aJ}(h:mL o=some (ps,r,rd,W)):o=some (ps,r,rd,W)/\r.ok:=by
 unfold mL at h;split at h
 .split at h<;>cases h;rename_i hh;exact⟨rfl,SV.jt hh⟩
 .cases h
def PS(raw:Bool)(x:SV):SV:=match raw with
 |true=>(match x with| .nil=> .sl 0 [] |y=>y)
 |false=>x
def sop(X:Cx)(raw:Bool)(n:Nat)(o:Op)(E:SE)(σ:Sg):SR:=match o with
 | .move x=>some ([],E x,[],[])
 | .assign x=>some ([],PS raw (E x),[],[])
 | .pick c a b=>lQ (B8 (E c) (E a) (E b))
 | .alloc t=>tn X.P σ n t
 | .box t x=>uZ σ n t (E x)
 | .build t parts=>tk X.P t (parts.toList.map λq=>(q.1,E q.2))
 | .buildSlice t len parts=>tL X.P σ n t len (parts.toList.map λq=>(q.1,E q.2))
 | .load t x=>mL (uN X.P t (E x) σ)
 | .store t a x=>pT X.P t (E a) (E x) σ
 | .nilCheck x=>(match xt (E x).av with|true=>some ([],E x,[],[])|false=>none)
 | .binOp op t x y _=>nu (ua X.P X.q raw op t (E x) (E y))
 | .unOp op _ x=>nu (sun raw op (E x))
 | .convert s d x=>nu (uO X.P raw s d (E x))
 | .makeFunc (.func f) first caps=>some ([],.fn f (first.toList.map E) (caps.toList.map E),[],[])
 | .slice t x lo hi none=>(match lS E lo,lS E hi with|some a,some b=>nu (th X.P t (E x) a b)|_,_=>none)
 | .fieldAddr t x f=>(match BN X.P t (E x) f with|some r=>some ([],r,[],[])|none=>none)
 | .field t x f=>lQ (BM X.P t (E x) f)
 | .indexAddr t x i=>(match ti X.P t (E x) (E i)with|some (ps,r)=>some (ps,r,[],[])|none=>none)
 | .extract x i=>lQ (CD (E x) i)
 | .call {callee:= .value f,args, .. }=>tK X.P X.T n σ (E f) (args.toList.map E)
 | .call {callee:= .builtin .len,args:=⟨[x]⟩,argTypes:=⟨[t]⟩}=>lQ (Cf X.P t (E x))
 | .call {callee:= .builtin .append,args:=⟨[x,y]⟩,argTypes:=⟨[t,t']⟩}=>rZ X.P X.lt n t t' σ (E x) (E y)
 | .call {callee:= .builtin .min,args:=⟨[x,y]⟩, .. }=>lQ (smm min (E x) (E y))
 | .call {callee:= .builtin .max,args:=⟨[x,y]⟩, .. }=>lQ (smm max (E x) (E y))
 | .makeSlice t a b=>mL (uM X.P X.lt σ n t (E a) (E b))
 |_=>none
def Y1{X:Cx}(hX:X.Ok){raw:Bool}{n:Nat}{o:Oper}{E:SE}{σ:Sg}(hE:∀x,(E x).ok){ps:List Prop}{r:SV}{rd:List Nat}{W:aJ}(h:sop X raw n o.op E σ=some (ps,r,rd,W))(hp:∀p∈ps,p):
  AOp X.P n o E.a σ.a (λr' R' W'=>r'=r.av/\bI σ rd W R' W')/\r.ok:=by
 obtain⟨hT,hq,_⟩:=hX;generalize ho:o.op=op at h;have A:∀{R:SR},n7 X.P n o E σ R->R=some (ps,r,rd,W)->AOp X.P n o E.a σ.a (λr' R' W'=>r'=r.av/\bI σ rd W R' W'):=λhs e=>hs _ _ _ _ e hp;have avl:∀l:List Operand,avs (l.map E)=l.map E.a:=λl=>by rw[gC,gg];rfl
 unfold sop at h;split at h
 .rename_i x;cases h;exact⟨by unfold AOp;rw[ho];exact⟨rfl,bI.read σ []⟩,hE x⟩
 .rename_i x;cases h;unfold PS;split
  .split
   .rename_i hx;exact⟨by unfold AOp;rw[ho];exact .inr ⟨by show(E x).av= .nil;rw[hx];rfl,rfl,bI.read σ []⟩,trivial⟩
   .exact⟨by unfold AOp;rw[ho];exact .inl ⟨rfl,bI.read σ []⟩,hE x⟩
  .exact⟨by unfold AOp;rw[ho];exact .inl ⟨rfl,bI.read σ []⟩,hE x⟩
 .obtain⟨h1,h2,rfl,rfl,rfl⟩:=qP h;exact⟨by unfold AOp;rw[ho];exact Vz h1 ⟨rfl,bI.read σ []⟩,h2⟩
 .refine⟨A (Ue ho) h,?_⟩;unfold tn at h;split at h<;>cases h;trivial
 .refine⟨A (Xj ho) h,?_⟩;unfold uZ at h;split at h<;>cases h;trivial
 .refine⟨A (Ua ho) h,?_⟩;unfold tk at h;split at h
  .split at h<;>cases h;trivial
  .cases h
 .refine⟨A (Th ho) h,?_⟩;unfold tL at h;split at h
  .split at h
   .split at h<;>cases h;trivial
   .cases h
  .cases h
 .rename_i t x;obtain⟨h1,h2⟩:=vY h;exact⟨A (V7 ho (hE x)) h1,h2⟩
 .refine⟨A (E5 ho) h,?_⟩;unfold pT at h;split at h
  .split at h
   .split at h
    .split at h
     .split at h<;>cases h;trivial
     .split at h<;>cases h;trivial
     .cases h
    .split at h
     .split at h<;>cases h;trivial
     .cases h
    .split at h<;>cases h;trivial
    .cases h
   .cases h
  .cases h
 .rename_i x;split at h<;>cases h;rename_i hn;exact⟨by unfold AOp;rw[ho];exact⟨hn,rfl,bI.read σ []⟩,hE x⟩
 .obtain⟨h1,h2,rfl,rfl⟩:=vZ h;exact⟨by unfold AOp;rw[ho];exact Xk hq h1 hp ⟨rfl,bI.read σ []⟩,h2⟩
 .obtain⟨h1,h2,rfl,rfl⟩:=vZ h;exact⟨by unfold AOp;rw[ho];exact Y0 h1 hp ⟨rfl,bI.read σ []⟩,h2⟩
 .obtain⟨h1,h2,rfl,rfl⟩:=vZ h;exact⟨by unfold AOp;rw[ho];exact WB h1 hp ⟨rfl,bI.read σ []⟩,h2⟩
 .cases h;refine⟨?_,trivial⟩;unfold AOp;rw[ho];refine⟨?_,bI.read σ []⟩;show _=AV.fn _ (avs _) (avs _);rw[avl,avl]
 .rename_i t x lo hi;split at h
  case h_2=>cases h
  rename_i a b ha hb;obtain⟨h1,h2,rfl,rfl⟩:=vZ h;refine⟨?_,h2⟩;unfold AOp;rw[ho];dsimp only;have key:∀(z:Option Operand) (c:Option Int) (d:Int),lS E z=some c->loA E.a z d=some (c.getD d):=by
   intro z c d hz;cases z with
   |none=>cases hz;rfl
   |some z=>
    unfold lS at hz;dsimp only at hz;split at hz<;>cases hz;rename_i k hk;exact H9 hk
  rw[key lo a 0 ha,key hi b _ hb];exact UN h1 hp ⟨rfl,bI.read σ []⟩
 .rename_i t x f;split at h<;>cases h;rename_i h1;have:=UY h1 (K:=λr'=>r'=r.av/\bI σ [] [] [] []) ⟨rfl,bI.read σ []⟩;exact⟨by unfold AOp;rw[ho];exact this.1,this.2 (hE x)⟩
 .obtain⟨h1,h2,rfl,rfl,rfl⟩:=qP h;exact⟨by unfold AOp;rw[ho];exact UX h1 ⟨rfl,bI.read σ []⟩,h2⟩
 .split at h<;>cases h;rename_i h1;have:=UV h1 hp (K:=λr'=>r'=r.av/\bI σ [] [] [] []) ⟨rfl,bI.read σ []⟩;exact⟨by unfold AOp;rw[ho];exact this.1,this.2⟩
 .obtain⟨h1,h2,rfl,rfl,rfl⟩:=qP h;exact⟨by unfold AOp;rw[ho];exact V8 h1 ⟨rfl,bI.read σ []⟩,h2⟩
 .have:=Tg hT h hp;rw[avl]at this;exact⟨by unfold AOp;rw[ho];exact this.1,this.2⟩
 .obtain⟨h1,h2,rfl,rfl,rfl⟩:=qP h;exact⟨by unfold AOp;rw[ho];exact Xg h1 ⟨rfl,bI.read σ []⟩,h2⟩
 .have:=Xl h hp;refine⟨by unfold AOp;rw[ho];exact this,?_⟩;unfold rZ at h;split at h
  .unfold xH at h;split at h
   .split at h<;>cases h;trivial
   .cases h
  .unfold uP at h;split at h
   .split at h
    .split at h<;>cases h;trivial
    .cases h
   .cases h
 .obtain⟨h1,h2,rfl,rfl,rfl⟩:=qP h;exact⟨by unfold AOp;rw[ho];exact JF h1 ⟨rfl,bI.read σ []⟩,h2⟩
 .obtain⟨h1,h2,rfl,rfl,rfl⟩:=qP h;exact⟨by unfold AOp;rw[ho];exact JF h1 ⟨rfl,bI.read σ []⟩,h2⟩
 .obtain⟨h1,h2⟩:=vY h;exact⟨A (V4 ho) h1,h2⟩
 .cases h
end
section
variable {P:Program} {o:Oper} {E:Operand->AV} {σ:Nat->Option Ob} {n:Nat}
def Vc{c:Call}{f:Operand}{fid:FuncId}{A cells:List PV}{m ty esz:Nat}(ho:o.op= .call c)(hc:c.callee= .value f)(hfv:E f= .p (.fn (.func fid) [] []))
  (hA:cM (cq 3 σ) (c.args.toList.map E)=some A) (hfl:cells.all flat1=true) (hS:uo P fid A ty esz cells m []):bB P o E σ n (.own (sit n 0) 0 m) (bD (bc 3 σ) (c.args.toList.map E)) [(sit n 0,some ⟨ty,esz,cells.map .p⟩)] :=by
 have hfm:f∈o.op.operands.toList:=by rw[ho];simp[cG,fz,hc]
 have ham:∀x∈c.args.toList,x∈o.op.operands.toList:=by intro x hx;rw[ho];simp[cG,fz];exact .inr (by grind)
 obtain⟨hok,he,hcalls⟩:=hS;intro C0 ρ g V w B hs hB hR hn hgn hE;have hn:=hn _ (fT n 0);have hgn:=hgn _ (fT n 0);have hcl:∀s,cls s≠n->s≠sit n 0:=λs h e=>h (by rw[e];exact fT n 0);have hargs:∀l:List Operand,(∀x∈l,x∈o.op.operands.toList)->ao ρ (ak C0 B w ρ g) (l.map E) (l.map (bF V)):=by
  intro l;induction l with
  |nil=>intro _;simp only[lc];unfold ao;rfl
  |cons x l ih=>
   intro hx;simp only[cV];unfold ao;grind
 have hall:=hargs _ ham;have hsnap:bK (λb o v=>w.cell? ⟨b,o,none⟩=some v) A (c.args.toList.map (bF V)):=by
  obtain⟨g1,g2⟩:=jM hA;refine bK.of _ _ (by grind) λi y hi=> ?_;have hlt:i<(c.args.toList.map E).length:=by rw[g1];exact(oT.1 hi).1
  obtain⟨y',h5,h6⟩:=g2 i _ (dA hlt);rw[hi]at h5;cases h5;obtain⟨v,k1,k2⟩:=hall.get _ _ i _ (dA hlt);exact⟨v,k1,vw hs _ (λ_=>True) (λb o v h=>h.1) (λs ob b c _ _ _ _ o v h=>h) 3 _ _ v h6 (λs hs'=>⟨trivial,hR s (jl (List.getElem_mem hlt) hs')⟩) k2⟩
 have hvf:bF V f= .func (.func fid) #[] #[] :=by have:=hE f hfm;rw[hfv]at this;unfold aU a8 at this;obtain⟨v1,v2,h1,h2,h3⟩:=this;unfold bK at h2 h3;rw[h1,h2,h3]
 have hrun:(execOp (bF V) o).run P w= .ok (.enter fid (c.args.toList.map (bF V)).toArray) w:=by
  unfold execOp;rw[ho];have e2: #[] ++oQ (bF V) c.args++ #[] =(c.args.toList.map (bF V)).toArray:=by apply kd.1;simp
  simp only[resolve,hc,hvf,oR,bo,cK,b9,invoke,kI hok,e2]
 have hlive:∀s ob b c,g s=some ob->ρ s=some (some b,c)->b<w.heap.size:=by intro s ob b c e1 e2;obtain⟨_,arr,e3⟩:=hs.at e1 e2;exact e3.lt
 unfold cX;rw[hrun];dsimp only;refine(hcalls _ w _ (λb o v h=>h) hsnap).mono ?_;rintro e w' ⟨v,us,q,c,rfl,hbel,hys,hrow⟩;have hus:us=[] :=by have:=hys.length;simpa using this
 subst hus;have hqb:∀b,q=some b->w.heap.size<=b:=by
  intro b hb;rcases hrow with⟨h1,_⟩|⟨b',arr,h1,_,_,h4,_⟩
  .grind
  .grind
 have hold:∀b,b<w.heap.size->w'.heap[b]? =w.heap[b]? :=λb hb=>hbel.block b hb;generalize hnS:sit n 0=nS at*
 let ρ':Ren:=λs=>if s=nS then some (q,c)else ρ s
 have hρn:ρ' nS=some (q,c):=if_pos rfl;have hρs:∀s,s≠nS->ρ' s=ρ s:=λs h=>if_neg h;have hup:∀s,s≠nS->aX g [(nS,some ⟨ty,esz,cells.map .p⟩)] s=g s:=by intro s h;unfold aX;simp[cL,beq_eq_false_iff_ne.2 h]
 have hmono:∀b o' x,ak C0 B w ρ g b o' x->ak C0 B w' ρ' (aX g [(nS,some ⟨ty,esz,cells.map .p⟩)]) b o' x:=by
  intro b o' x ⟨e1,e2,e0⟩;have hlt:=f0 w ⟨b,o',none⟩ e1;refine⟨(gb (hold b hlt)).trans e1,λs c' e3=> ?_,e0⟩;by_cases hsn:s=nS
  .grind
  .grind
 refine⟨_,rfl,ρ',λs hs=>hρs s (hcl s hs),hmono,?_,?_,hbel.mono hB⟩
 .refine hs.step (λs o' _ hgs=>hρs s (λh=>by grind)) (λs q' hq=>by grind) hmono ?_ ?_ λk es clock hk=>hold k (i9 hk)
  .grind
  .intro s o' hso;have hsn:s=nS:=by
    rcases iq s nS with h|h
    .grind
    .exact h
   subst hsn;simp[cL]at hso;subst hso;refine⟨q,c,hρn,?_⟩;rcases hrow with⟨h1,h2,h3,h4,h5⟩|⟨b,arr,h1,h2,h3,h4,h5,h6,h7,h8,h9⟩
   .grind
   .refine .inr ⟨b,arr,h1,ci hB h4,⟨h5,λh=>absurd h he,λ_=>⟨h6,by grind,h8⟩,λi x hi=> ?_⟩,λs' o2 c' hne hg' hr'=> ?_⟩
    .have hi:(cells.map AV.p)[i]? =some x:=hi;rw[dw]at hi;cases hci:cells[i]? with
     |none=>grind
     |some y=>
      rw[hci]at hi;simp only[dn,fO]at hi;subst hi;obtain⟨u,k1,k2,k3⟩:=h9 i y hci;exact⟨u,k1,k2,by unfold aU;exact sY (dm.1 hfl y (qB hci)) k3⟩
    grind
 .unfold aU;refine⟨q,c,hρn,?_⟩;rcases hrow with⟨h1,h2,h3,_⟩|⟨b,arr,h1,h2,h3,_⟩
  .exact .inl ⟨h1,h2,h3,rfl⟩
  .exact .inr ⟨b,0,c,h1,h2,h3,λ_=>rfl,λ_=>⟨rfl,rfl⟩⟩
end
section
variable {P:Program} {o:Oper} {E:Operand->AV} {σ:Nat->Option Ob} {n:Nat}
def jx(n:Nat)(zs:List PV):List PV:=(bS n zs).flatten
def Fj(n:Nat)(zs:List PV):(jx n zs).length=n*zs.length:=by unfold jx;simp
def G9{zs:List PV}(h:0<zs.length):∀{n i:Nat},i<n*zs.length->(jx n zs)[i]? =zs[i % zs.length]?
 |0,i,hi=>by omega
 |n+1,i,hi=>by
  unfold jx;rw[oP,List.flatten_cons,List.getElem?_append];by_cases h1:i<zs.length
  .rw[if_pos h1,oJ h1]
  .rw[if_neg h1];have e:n*zs.length+zs.length=(n+1)*zs.length:=by rw[lg,Nat.one_mul]
   have:=G9 (zs:=zs) h (n:=n) (i:=i-zs.length) (by omega);unfold jx at this;rw[this,<-Nat.mod_eq_sub_mod (by omega)]
def Sl{zero:Array Value}(h:0<zero.size){n i:Nat}(hi:i<n*zero.size):(Builtin.zeroCells zero n).toList[i]? =some (zero[i % zero.size]'(eO _ h)):=by unfold Builtin.zeroCells;have:=eO i h;simp[hi,this]
def Bk:Value->Option PV
 | .int k m=>some (.int k m)
 | .bool b=>some (.bool b)
 | .string s=>some (.str s)
 |_=>none
def VS{c:Call}{x:Operand}{t e:TypeId}{s off m:Nat}{ob:Ob}{zv:Value}{zs:List PV}(ho:o.op= .call c)(hc:c.callee= .builtin .clear)(hargs:c.args= #[x])(hat:c.argTypes= #[t])(ht:P.underlying t=some (.slice e))(hz:∀w,(zeroValue e).run P w= .ok zv w)
  (hzs:zv.cells.toList.map Bk=zs.map some) (h1:fF zv.cells.toList) (ex:E x= .own s off m) (hob:σ s=some ob) (he:ob.esz≠0) (hsz:zs.length=ob.esz) (hoff:off+m*ob.esz<=ob.cells.length):
  bB P o E σ n .undef [s] [(s,some ⟨ob.ty,ob.esz,c7 ob.cells off ((jx m zs).map .p)⟩)] :=by
 have hzl:zv.cells.size=ob.esz:=by have:=congrArg fg hzs;simp only[eB,Array.length_toList]at this;omega
 have hzp:0<zv.cells.size:=by omega
 intro C0 ρ g V w B hs hB hR hn hgn hE;have g1:=hE x (by rw[ho];simp[cG,fz,hargs]);rw[ex]at g1;have hgs:g s=some ob:=by grind
 have hcl:∀v w',(Builtin.clear_ #[t] o.type #[bF V x]).run P w= .ok v w'->(execOp (bF V) o).run P w= .ok (.value v) w':=by intro v w' h;unfold execOp;simp only[ho,resolve,hc,invoke,builtin,hargs,hat,bo,cK,b9,List.map_toArray,cV,lc]at*;rw[h];rfl
 obtain⟨l,hl⟩:∃l:List AV,l=(jx m zs).map .p:=⟨_,rfl⟩;rw[<-hl];have hll:l.length=m*ob.esz:=by rw[hl,eB,Fj,hsz]
 obtain⟨q,cp,hρ,hcase⟩:=g1;by_cases hm:m=0
 .have hl0:l=[] :=ip.1 (by rw[hll,hm,Nat.zero_mul]);subst hl0;have hr:(Builtin.clear_ #[t] o.type #[bF V x]).run P w= .ok (.tuple #[]) w:=by
   rcases hcase with⟨_,hv,_,_⟩|⟨b,p0,c',_,hv,_⟩
   .rw[hv];simp[Builtin.clear_,run_underlying ht]
   .rw[hv,hm];simp[Builtin.clear_,run_underlying ht]
  have hup:aX g [(s,some (⟨ob.ty,ob.esz,c7 ob.cells off []⟩:Ob))] =g:=by
   funext s'
   unfold aX;by_cases h:s'=s
   .subst h;simp[cL,c7,hgs]
   .simp[cL,beq_eq_false_iff_ne.2 h]
  unfold cX;rw[hcl _ _ hr,hup];exact⟨ρ,λ_ _=>rfl,λ_ _ _ h=>h,hs,rfl,Below.refl _ _⟩
 obtain⟨b,p0,c',rfl,hv,h5,h6,h7⟩:=hcase.resolve_left (λh=>hm h.2.2.1);have:=h6 hm;subst this;obtain⟨hBb,arr,hO⟩:=hs.at hgs hρ;obtain⟨vs,hvs⟩:∃vs,vs=(Builtin.zeroCells zv.cells m).toList:=⟨_,rfl⟩;have hvl:vs.length=m*ob.esz:=by rw[hvs];simp[Builtin.zeroCells,hzl]
 have hc0:∀i,i<m*ob.esz->∃v y,vs[i]? =some v/\(jx m zs)[i]? =some y/\v.oneCell'=true/\a8 (ak C0 B w ρ g) y v:=by
  intro i hi;have hr:i % zv.cells.size<zv.cells.size:=eO _ hzp;have e2:=G9 (zs:=zs) (by omega) (n:=m) (i:=i) (by rw[hsz];exact hi);have e3:Bk zv.cells[i % zv.cells.size] =zs[i % zv.cells.size]? :=by
   have:=congrArg (λl=>l[i % zv.cells.size]?) hzs;simp only[dw]at this;rw[Array.getElem?_toList,Array.getElem?_eq_getElem hr]at this;cases h:zs[i % zv.cells.size]? with
   |none=>rw[h]at this;simp at this
   |some y=>rw[h]at this;simpa using this
  rw[hsz,<-hzl]at e2;obtain⟨y,hy⟩:∃y,zs[i % zv.cells.size]? =some y:=⟨_,dA (by rw[hsz,<-hzl];exact hr)⟩;refine⟨_,y,by rw[hvs];exact Sl hzp (by rw[hzl];exact hi),e2.trans hy,h1 _ (by simp),?_⟩;rw[hy]at e3;generalize zv.cells[i % zv.cells.size] =u at e3;unfold Bk at e3;split at e3<;>cases e3<;>rfl
 have r2:fF vs:=by intro u hu;obtain⟨i,hi,rfl⟩:=List.mem_iff_getElem.1 hu;obtain⟨v,y,e1,_,e3,_⟩:=hc0 i (by omega);rw[dA hi]at e1;cases e1;exact e3
 have r1:ao ρ (ak C0 B w ρ g) l vs:=ao.of _ _ (by omega) λi x hi=>by
  rw[hl,dw]at hi;cases h:(jx m zs)[i]? with
  |none=>rw[h]at hi;cases hi
  |some y0=>
   have hlt:=(oT.1 h).1;rw[Fj,hsz]at hlt;obtain⟨v,y,e1,e2,_,e4⟩:=hc0 i hlt;rw[h]at hi e2;cases e2;cases hi;exact⟨v,e1,e4⟩
 have hlen:=r1.length;have hoff:p0+l.length<=ob.cells.length:=by rw[hll];exact hoff
 have hle:ob.cells.length<=arr.size:=(hO.row he).2.1;have hst:=run_storeCells_at P b p0 ob.ty vs 0 arr w hO.blk (by omega) r2;have hr:(Builtin.clear_ #[t] o.type #[bF V x]).run P w= .ok (.tuple #[]) (w.setRow b (arr.toList.take p0++vs++arr.toList.drop (p0+vs.length)).toArray):=by rw[hv];obtain⟨k,rfl⟩:∃k,m=k+1:=Nat.exists_eq_succ_of_ne_zero hm;simp only[Builtin.clear_,List.getElem?_toArray,List.getElem?_cons_zero,bo,run_underlying ht,b9,hz,<-hvs];simp only[ux]at hst;rw[hst];rfl
 unfold cX;rw[hcl _ _ hr];clear hcase hr hst;have hblk:(w.setRow b (arr.toList.take p0++vs++arr.toList.drop (p0+vs.length)).toArray).heap[b]? =some (.cells (arr.toList.take p0++vs++arr.toList.drop (p0+vs.length)).toArray ob.ty (0,0)):=setRow_heap w b arr _ ob.ty _ hO.blk;have hold:∀k,k≠b->(w.setRow b (arr.toList.take p0++vs++arr.toList.drop (p0+vs.length)).toArray).heap[k]? =w.heap[k]? :=by intro k hk;unfold uy;simp only[Array.getElem?_modify];rw[if_neg (by grind)]
 have hsize:(w.setRow b (arr.toList.take p0++vs++arr.toList.drop (p0+vs.length)).toArray).heap.size=w.heap.size:=by unfold uy;simp
 have hlk:∀s',s'≠s->[(s,some (⟨ob.ty,ob.esz,c7 ob.cells p0 l⟩:Ob))].lookup s'=none:=by intro s' hs';simp[cL,beq_eq_false_iff_ne.2 hs']
 have hup:∀s',s'≠s->aX g [(s,some ⟨ob.ty,ob.esz,c7 ob.cells p0 l⟩)] s'=g s':=by intro s' hs';unfold aX;rw[hlk s' hs']
 have hmono:∀b' o' x,ak C0 B w ρ g b' o' x->ak C0 B (w.setRow b (arr.toList.take p0++vs++arr.toList.drop (p0+vs.length)).toArray) ρ (aX g [(s,some ⟨ob.ty,ob.esz,c7 ob.cells p0 l⟩)]) b' o' x:=by
  intro b' o' x ⟨e1,e2,e0⟩;have hne:b'≠b:=λe=>by grind
  refine⟨(gb (hold b' hne)).trans e1,?_,e0⟩;intro s' c' e3;by_cases e:s'=s
  .grind
  .grind
 refine⟨ρ,λ_ _=>rfl,hmono,?_,by rfl,⟨rfl,rfl,rfl,by omega,by grind⟩⟩;refine hs.step (by grind) (λ_ _ h=>h) hmono ?_ ?_ λk es clock hk=>hold k (mA hk hO.blk)
 .intro s' o' b' c' e1 e2 e3;refine hold b' λe=> ?_;subst e;have:=hs.inj s s' ob o' b' cp c' hgs e2 hρ e3;grind
 .intro s' o' e;have e1:s'=s:=by
   rcases iq s' s with h|h
   .grind
   .exact h
  subst e1;have e2:o'=⟨ob.ty,ob.esz,c7 ob.cells p0 l⟩:=by simp[cL]at e;exact e.symm
  subst e2;have hasz:(arr.toList.take p0++vs++arr.toList.drop (p0+vs.length)).toArray.size=arr.size:=by simp[ew];omega
  refine⟨some b,cp,hρ,.inr ⟨b,_,rfl,hBb,⟨hblk,?_,?_,?_⟩,?_⟩⟩
  .intro hz;rw[hasz,hO.box hz];exact(mw _ _ _).symm
  .intro hz;obtain⟨k1,k2,k3⟩:=hO.row hz;rw[hasz];exact⟨k1,by rw[mw];exact k2,k3⟩
  .intro j y hj;rcases v7 l ob.cells p0 hoff j y hj with⟨h1,h2⟩|⟨h1,h2⟩
   .obtain⟨u,k1,k2⟩:=r1.get _ _ _ y h2;refine⟨u,?_,r2 u (by grind),aU.mono (λ_ _ h=>h) hmono y u k2⟩;grind
   .obtain⟨u,k1,k3,k2⟩:=hO.cells j y h2;refine⟨u,?_,k3,aU.mono (λ_ _ h=>h) hmono y u k2⟩;grind
  .intro s2 o' c' hne e3 e4;rw[hup s2 hne]at e3;exact hne (hs.inj s' s2 ob o' b cp c' hgs e3 hρ e4).symm
end
noncomputable section
def vh{m:Rf}{l r:List AV}(h:dM m l r):dW m (d9 l) (d9 r):=by
 unfold d9;cases hl:bJ l with
 |some q=>
  have e:=fR hl;subst e;have:∀(q:List PV) (r:List AV),dM m (q.map .p) r->r=q.map .p:=by
   intro q;induction q with
   |nil=>intro r h;exact h
   |cons x q ih=>intro r h;obtain⟨y,r',rfl,h1,h2⟩:=h;unfold dW at h1;grind
  rw[this q r h,cW];rfl
 |none=>
  unfold dW;cases hr:bJ r with
  |some q=>exact⟨r,.inr ⟨q,rfl,fR hr⟩,h⟩
  |none=>grind
def zI{m:Rf}{l r:List AV}(h:dM m l r):dW m (gq l) (gq r):=by
 unfold gq;cases hl:bJ l with
 |some q=>
  have e:=fR hl;subst e;have:∀(q:List PV) (r:List AV),dM m (q.map .p) r->r=q.map .p:=by
   intro q;induction q with
   |nil=>intro r h;exact h
   |cons x q ih=>intro r h;obtain⟨y,r',rfl,h1,h2⟩:=h;unfold dW at h1;grind
  rw[this q r h,cW];rfl
 |none=>
  unfold dW;cases hr:bJ r with
  |some q=>exact⟨r,.inr ⟨q,rfl,fR hr⟩,h⟩
  |none=>grind
def dt{m:Rf}{x:PV}{y:AV}(h:y= .p x):dW m (.p x) y:=by exact h
def fX(m:Rf):∀q:List PV,dM m (q.map .p) (q.map .p)
 |[] =>by rfl
 |x::q=>by exact⟨_,_,rfl,dt rfl,fX m q⟩
def nI{m:Rf}{α:Type}(f g:α->AV):∀l:List α,(∀x∈l,dW m (f x) (g x))->dM m (l.map f) (l.map g)
 |[],_=>by rfl
 |x::l,h=>by
  exact⟨_,_,rfl,by grind,nI f g l (by grind)⟩
mutual
def SV.ren(f:Nat->Nat):SV->SV
 | .agg l=> .agg (oC f l)
 | .tup l=> .tup (oC f l)
 | .fn g a b=> .fn g (oC f a) (oC f b)
 | .ptr s o=> .ptr (f s) o
 | .pte s t i o=> .pte (f s) t i o
 | .own s t n=> .own (f s) t n
 | .owns s t o n=> .owns (f s) t o n
 | .ownx s n=> .ownx (f s) n
 | .ownf s t a n=> .ownf (f s) t a n
 | .ptef s t a i o=> .ptef (f s) t a i o
 | .ptf s a=> .ptf (f s) a
 | .owF s n=> .owF (f s) n
 | .mp s=> .mp (f s)
 | .any=> .any
 | .undef=> .undef
 | .nil=> .nil
 | .int k n=> .int k n
 | .bool b=> .bool b
 | .lit b=> .lit b
 | .prop p d=> .prop p d
 | .str s=> .str s
 | .lst t l=> .lst t l
 | .sl n cs=> .sl n cs
 | .pe t l i o=> .pe t l i o
 | .pro cs o=> .pro cs o
 | .fnp g a b=> .fnp g a b
 | .clo1 pv t q dom=> .clo1 pv t q dom
 | .clo2 pv t q dom=> .clo2 pv t q dom
 | .ptb F n o=> .ptb F n o
 | .junk=> .junk
def oC(f:Nat->Nat):List SV->List SV
 |[] =>[]
 |x::l=>x.ren f::oC f l
end
def rW(m:Rf)(f:Nat->Nat):Prop:=∀y a,m (inn (f y) a)=some (some (inn y a))
def rW.n{m:Rf}{f:Nat->Nat}(h:rW m f)(y:Nat):m (aD (f y))=some (some (aD y)):=h y 0
mutual
theorem HX{m:Rf}{f:Nat->Nat}(hm:rW m f):∀v:SV,dW m (v.ren f).av v.av
 | .any=>by trivial
 | .undef=>by rfl
 | .nil=>by rfl
 | .int _ _=>dt rfl
 | .bool _=>dt rfl
 | .lit _=>dt rfl
 | .prop _ _=>dt rfl
 | .str _=>dt rfl
 | .lst _ _=>dt rfl
 | .pe _ _ _ _=>dt rfl
 | .clo1 _ _ _ _=>dt rfl
 | .clo2 _ _ _ _=>dt rfl
 | .ptb _ _ _=>dt rfl
 | .junk=>dt rfl
 | .sl n cs=>by
   simp only[SV.ren,SV.av];split
   .exact dt rfl
   .trivial
 | .pro cs off=>by
   simp only[SV.ren,SV.av];split
   .exact dt rfl
   .trivial
 | .fnp g a b=>by
   simp only[SV.ren,SV.av];split
   .exact dt rfl
   .trivial
 | .agg l=>by exact vh (pA hm l)
 | .tup l=>by exact zI (pA hm l)
 | .fn g a b=>by exact⟨_,_,rfl,pA hm a,pA hm b⟩
 | .ptr s off=>by exact⟨_,hm.n s,rfl⟩
 | .pte s t i off=>by exact⟨_,hm.n s,rfl⟩
 | .ptf s a=>by exact⟨_,hm.n s,rfl⟩
 | .ptef s t a i off=>by exact⟨_,hm s (a+1),rfl⟩
 | .own s t n=>by exact .inl ⟨_,hm.n s,rfl⟩
 | .owns s t o n=>by exact .inl ⟨_,hm.n s,rfl⟩
 | .ownx s n=>by exact .inl ⟨_,hm.n s,rfl⟩
 | .owF s n=>by exact .inl ⟨_,hm.n s,rfl⟩
 | .ownf s t a n=>by exact .inl ⟨_,hm s (a+1),rfl⟩
 | .mp s=>by exact⟨_,hm.n s,rfl⟩
theorem pA{m:Rf}{f:Nat->Nat}(hm:rW m f):∀l:List SV,dM m (avs (oC f l)) (avs l)
 |[] =>by rfl
 |x::l=>by exact⟨_,_,rfl,HX hm x,pA hm l⟩
end
def SOb.ren(f:Nat->Nat):SOb->SOb
 | .box ty cs=> .box ty (oC f cs)
 | .arr ty ez cs=> .arr ty ez (oC f cs)
 | .row ty t l=> .row ty t l
 | .fam ty ity t L ov=> .fam ty ity t L (ov.map λq=>(q.1,q.2.ren f))
 | .mp ks=> .mp ks
 | .mf M=> .mf M
 | .it c M=> .it c M
def kQ:SOb->Bool
 | .box ty _=> !(ae ty 0)
 | .fam _ _ _ _ ov=>ov.isEmpty
 | .arr _ ez _=> !(ae ez 0)
 | .mf _=>false
 | .it _ _=>false
 |_=>true
def Uk{m:Rf}{f:Nat->Nat}(hm:rW m f)(k:Nat){o:SOb}(ho:kQ o=true):js m ((o.ren f).ob (f k)) (o.ob k):=by
 cases o with
 |box ty cs=>exact⟨rfl,rfl,pA hm cs⟩
 |arr ty ez cs=>exact⟨rfl,rfl,pA hm cs⟩
 |row ty t l=>exact⟨rfl,rfl,fX m _⟩
 |mp ks=>refine⟨rfl,rfl,?_⟩;show dM m (cB (fU ks)) (cB (fU ks));rw[oq];exact fX m _
 |mf M=>cases ho
 |it c M=>cases ho
 |fam ty ity t L ov=>
  have:ov=[] :=DT.1 ho;subst this;refine⟨rfl,rfl,nI _ _ _ λi _=> ?_⟩;exact .inl ⟨_,hm k (i+1),rfl⟩
def oB(x:Nat)(ob:SOb):List (Nat×Option Ob):=(aD x,some (ob.ob x))::match ob with
 | .fam _ ity t L _=>(bO L.length).map λa=>(inn x (a+1),some ⟨ity,t.w,(t.enc (L.getD a [])).map .p⟩)
 |_=>[]
def Eh{α:Type}{g0:Nat->Nat}(hg:∀a b,g0 a=g0 b->a=b)(h0:Nat->α):∀(l:List Nat) (a:Nat),(l.map λi=>(g0 i,h0 i)).lookup (g0 a)=if a∈l then some (h0 a)else none
 |[],a=>rfl
 |i::l,a=>by
  rw[cV,dJ,Eh hg h0 l a];grind
def yu{α:Type}{s:Nat}:∀{l:List (Nat×α)},(∀q∈l,q.1≠s)->l.lookup s=none
 |[],_=>rfl
 |q::l,h=>by grind
def y6{α:Type}{s:Nat}:∀{l r:List (Nat×α)},(l++r).lookup s=(match l.lookup s with|some x=>some x|none=>r.lookup s)
 |[],r=>rfl
 |q::l,r=>by
  grind
def Wo{ob:SOb}(ho:kQ ob=true)(a:Nat):ob.inner a=(match ob with| .fam _ ity t L _=>if a<L.length then some ⟨ity,t.w,(t.enc (L.getD a [])).map .p⟩else none|_=>none):=by
 cases ob<;>first|rfl|(cases ho;done)|skip
 rename_i ty ity t L ov;have:ov=[] :=DT.1 ho;subst this;show((L[a]?).map λl=>(⟨ity,t.w,(t.enc l).map .p⟩:Ob))=_;grind
def UQ(x y:Nat)(ob:SOb):(oB x ob).lookup (aD y)=if y=x then some (some (ob.ob x))else none:=by
 unfold oB;rw[dJ];by_cases e:y=x
 .grind
 .rw[beq_eq_false_iff_ne.2 (λh=>e (eL h)),if_neg e];refine yu λq hq=> ?_;split at hq
  .obtain⟨a,_,rfl⟩:=cF.1 hq;exact λh=>by have:=(cI h).2;omega
  .cases hq
def V2(x y a:Nat){ob:SOb}(ho:kQ ob=true):(oB x ob).lookup (inn y (a+1))=if y=x then(ob.inner a).map some else none:=by
 have e0:inn y (a+1)≠aD x:=λh=>by have:=(cI h).2;omega
 rw[Wo ho a];unfold oB;rw[dJ,beq_eq_false_iff_ne.2 e0];cases ob with
 |fam ty ity t L ov=>
  by_cases e:y=x
  .subst e;rw[if_pos rfl,Eh (g0:=λa=>inn y (a+1)) (λa b h=>by have:=(cI h).2;omega)];grind
  .rw[if_neg e];refine yu λq hq=> ?_;obtain⟨b,_,rfl⟩:=cF.1 hq;exact λh=>e (cI h).1.symm
 |_=>dsimp only;split<;>rfl
def Xf(x:Nat)(ob:SOb){s:Nat}(h:∀x a,s≠inn x a):(oB x ob).lookup s=none:=by
 refine yu λq hq=> ?_;rcases bh.1 hq with rfl|hq
 .exact λe=>h x 0 e.symm
 grind
def mJ(W:List (Nat×SOb)):List (Nat×Option Ob):=W.flatMap λq=>oB q.1 q.2
def sO(y:Nat):∀W:List (Nat×SOb),(mJ W).lookup (aD y)=(W.lookup y).map λob=>some (ob.ob y)
 |[] =>rfl
 |q::W=>by
  unfold mJ;rw[qC,y6,UQ,dJ];by_cases e:y=q.1
  .grind
  .rw[if_neg e,beq_eq_false_iff_ne.2 e];exact sO y W
def sV(y a:Nat):∀{W:List (Nat×SOb)},(∀q∈W,kQ q.2=true)->(W.map (·.1)).Nodup->(mJ W).lookup (inn y (a+1))=((W.lookup y).bind (SOb.inner a)).map some
 |[],_,_=>rfl
 |q::W,h,hn=>by
  rw[cV,kG]at hn;have ih:=sV y a (W:=W) (by grind) hn.2;unfold mJ;rw[qC,y6,V2 _ _ _ (by grind),dJ];by_cases e:y=q.1
  .rw[if_pos e,beq_iff_eq.2 e];have hno:W.lookup y=none:=by grind
   cases hi:q.2.inner a with
   |some ob=>simp[hi]
   |none=>
    have ih':(List.flatMap (λq=>oB q.1 q.2) W).lookup (inn y (a+1))=none:=by have:=ih;unfold mJ at this;rw[this,hno];rfl
    grind
  .rw[if_neg e,beq_eq_false_iff_ne.2 e];exact ih
def sh{s:Nat}(h:∀x a,s≠inn x a):∀W:List (Nat×SOb),(mJ W).lookup s=none
 |[] =>rfl
 |q::W=>by
  unfold mJ;rw[qC,y6,Xf _ _ h];exact sh h W
def EI(W:List (Nat×SOb))(y:Nat):((W.map λq=>(q.1,some q.2)).lookup y:Option (Option SOb))=(W.lookup y).map some:=by
 induction W with
 |nil=>rfl
 |cons q W ih=>
  grind
def bI.news{σ:Sg}{W:List (Nat×SOb)}(hW:∀q∈W,kQ q.2=true)(hn:(W.map (·.1)).Nodup)(hσ:∀q∈W,σ q.1=none):bI σ [] (W.map λq=>(q.1,some q.2)) [] (mJ W):=by
 refine⟨λs hs=>by grind,λs hs=> ?_,?_⟩
 .obtain⟨⟨t,ob⟩,hq,rfl⟩:=cF.1 hs;obtain⟨q,hq1,hq2⟩:=List.mem_flatMap.1 hq;have:cls t=ncl q.1:=by
   unfold oB at hq2;rcases bh.1 hq2 with e|hq2
   .cases e;exact cP _ 0
   .split at hq2
    .obtain⟨a,_,e⟩:=cF.1 hq2;cases e;exact cP _ _
    .cases hq2
  grind
 .funext s
  unfold aX;rcases gR s with⟨y,rfl⟩|⟨y,b,rfl⟩|hns
  .rw[Sg.bW,Sg.bW,sO];unfold aJ.up;rw[EI];cases hl:W.lookup y with
   |none=>rfl
   |some ob=>rfl
  .rw[Sg.co,Sg.co,sV y b hW hn];unfold aJ.up;rw[EI];cases hl:W.lookup y with
   |none=>rfl
   |some ob=>
    show(match((SOb.inner b ob).map some:Option (Option Ob))with|some x=>x|none=>(σ y).bind (SOb.inner b))=SOb.inner b ob;cases hi:SOb.inner b ob with
    |some o=>rfl
    |none=>grind
  .rw[Sg.fp _ hns,Sg.fp _ hns,sh hns]
def mu(n y:Nat):Nat:=n+NM*(y+1)
def muR(n:Nat):Rf:=λs=>if inn (nm s) (sub s)=s then(if mu n (nm s/NM-1)=nm s then some (some (inn (nm s/NM-1) (sub s)))else none)else none
def BW{n:Nat}(hn:n<NM)(y:Nat):mu n y/NM-1=y:=by unfold mu;rw[Nat.add_mul_div_left _ _ (by grind),Nat.div_eq_of_lt hn];omega
def MR{n:Nat}(hn:n<NM)(y:Nat):ncl (mu n y)=n:=by unfold ncl mu;rw[Nat.add_mul_mod_self_left,oJ hn]
def ZL{n y z:Nat}(hn:n<NM)(h:mu n y=mu n z):y=z:=by rw[<-BW hn y,h,BW hn z]
def vj{n:Nat}(hn:n<NM):rW (muR n) (mu n):=by intro y a;unfold muR;rw[l9,l5,if_pos rfl,BW hn,if_pos rfl]
def z6{n s:Nat}{x:Option Nat}(h:muR n s=some x):∃y a,s=inn (mu n y) a/\x=some (inn y a):=by
 unfold muR at h;split at h
 .rename_i h1;split at h
  .rename_i h2;cases h;grind
  .cases h
 .cases h
def rg:List Nat->Nat->Bool
 |[],_=>false
 |x::l,s=>match ae s x with|true=>true|false=>rg l s
def wC{s:Nat}:∀{l:List Nat},rg l s=false->s∉l
 |[],_=>dg
 |x::l,h=>by
  unfold rg at h;cases hb:ae s x with
  |true=>grind
  |false=>
   rw[hb]at h;intro hm;rcases bh.1 hm with rfl|hm
   .simp_all
   .exact wC h hm
def xD(σ:Sg)(n:Nat):aJ->Option (List (Nat×SOb))
 |[] =>some []
 |(y,some ob)::W=>(match kQ ob,σ (mu n y),rg (W.map (·.1)) y,xD σ n W with
  |true,none,false,some l=>some ((mu n y,ob.ren (mu n))::l)
  |_,_,_,_=>none)
 |_::_=>none
def WL{f:Nat->Nat}{ob:SOb}(h:kQ ob=true):kQ (ob.ren f)=true:=by
 cases ob<;>first|exact h|skip
 rename_i ty ity t L ov;have:ov=[] :=DT.1 h;subst this;rfl
def Uj{f:Nat->Nat}{ob:SOb}(h:kQ ob=true)(a:Nat):(ob.ren f).inner a=ob.inner a:=by
 cases ob<;>first|rfl|skip
 rename_i ty ity t L ov;have:ov=[] :=DT.1 h;subst this;rfl
def EU{σ:Sg}{n:Nat}(hn:n<NM):∀{W:aJ} {l:List (Nat×SOb)},xD σ n W=some l->
  (∀q∈l,kQ q.2=true/\σ q.1=none)/\(l.map (·.1)).Nodup/\l.map (·.1)=W.map (λq=>mu n q.1)/\∀z obr,l.lookup z=some obr->∃y ob,z=mu n y/\obr=ob.ren (mu n)/\kQ ob=true/\aJ.at W y=some ob
 |[],l,h=>by cases h;grind
 |(y,none)::W,l,h=>by cases h
 |(y,some ob)::W,l,h=>by
  unfold xD at h;split at h<;>cases h;rename_i l' h1 h2 h3 h4;obtain⟨g1,g2,g3,g4⟩:=EU hn h4;have hy:=wC h3;have hnot:mu n y∉l'.map (·.1):=by rw[g3];intro hm;obtain⟨q,hq,e⟩:=cF.1 hm;exact hy (by rw[<-ZL hn e];grind)
  refine⟨λq hq=> ?_,?_,?_,?_⟩
  .rcases bh.1 hq with rfl|hq
   .exact⟨WL h1,h2⟩
   grind
  .grind
  .grind
  .intro z obr hz;rw[dJ]at hz;by_cases e:z=mu n y
   .rw[beq_iff_eq.2 e]at hz;cases hz;exact⟨y,ob,e,rfl,h1,by unfold aJ.at;simp_all⟩
   .rw[beq_eq_false_iff_ne.2 e]at hz;obtain⟨y2,ob2,k1,k2,k3,k4⟩:=g4 z obr hz;unfold aJ.at;have:ae y2 y=false:=by
     cases hb:ae y2 y with
     |false=>rfl
     |true=>simp_all
    grind
def rl:SV->Option Nat
 | .fnp f [] [] =>some f
 |_=>none
def B5(X:Cx)(n:Nat)(σ:Sg)(fv:SV)(xs:List SV):SR:=match rl fv with
 |none=>none
 |some f=>(match X.T f with
  |some ⟨_,dec,pre,.tree res obs⟩=>(match bJ (avs xs),dec xs,dG n NM with
   |some _,some x,true=>(match xD σ n (obs x)with
    |some l=>some (pre x,(res x).ren (mu n),[],l.map λq=>(q.1,some q.2))
    |none=>none)
   |_,_,_=>none)
  |_=>none)
def wX{fv:SV}{f:Nat}(h:rl fv=some f):fv.av= .p (.fn (.func f) [] []):=by unfold rl at h;split at h<;>cases h;rfl
def jF(P:Program)(n:Nat)(o:Oper)(E:SE)(σ:Sg)(R:SR):Prop:=
 ∀ps r rd W,R=some (ps,r,rd,W)->(∀p∈ps,p)->(∃R' W',bB P o E.a σ.a n r.av R' W'/\bI σ rd W R' W')/\r.ok
def Vt{X:Cx}(hX:X.Ok){n:Nat}{o:Oper}{E:SE}{σ:Sg}{c:Call}{f:Operand}(ho:o.op= .call c)(hc:c.callee= .value f):jF X.P n o E σ (mL (B5 X n σ (E f) (c.args.toList.map E))):=by
 intro ps r rd W h hp;obtain⟨h,hr⟩:=vY h;refine⟨?_,hr⟩;unfold B5 at h;split at h
 .cases h
 rename_i fid hf;split at h
 case h_2=>cases h
 rename_i Y dec pre res obs hT;split at h
 case h_2=>cases h
 rename_i A' x hA' hx hn;split at h<;>cases h;rename_i l hl;have hn:n<NM:=jJ hn;obtain⟨A,h1,h2⟩:=hX.1 fid _ hT _ x hx hp;obtain⟨g1,g2,g3,g4⟩:=EU hn hl;have avl:avs (c.args.toList.map E)=c.args.toList.map E.a:=by rw[gC,gg];rfl
 refine⟨[],mJ l,?_,bI.news (by grind) g2 (by grind)⟩;have hinner:∀{ob:SOb} {a:Nat} {o':Ob},ob.inner a=some o'->∃(ity:TypeId) (wd:Nat) (q:List PV),wd≠0/\o'=⟨ity,wd,q.map .p⟩:=by
  intro ob a o' hi;cases ob<;>first|(cases hi;done)|skip
  rotate_left
  .rename_i M;change (M[a]?).map (λq=>(⟨3,1,(LT.enc .I q.2).map .p⟩:Ob))=some o' at hi;cases hL:M[a]? with
   |none=>rw[hL]at hi;cases hi
   |some r=>rw[hL]at hi;cases hi;exact⟨3,1,_,by decide,rfl⟩
  rename_i ty ity t L ov;unfold SOb.inner at hi;dsimp only at hi;split at hi
  .cases hi
  .cases hL:L[a]? with
   |none=>grind
   |some r=>rw[hL]at hi;cases hi;exact⟨ity,t.w,_,jh t.gn,rfl⟩
 have hcls:∀z∈l.map (·.1),ncl z=n:=by intro z hz;rw[g3]at hz;obtain⟨q,_,rfl⟩:=cF.1 hz;exact MR hn _
 refine VZ (A:=A) (m1:=muR n) ho hc (by exact wX hf) (by rw[<-avl,h1,cW]) h2 ?_ ?_ ⟨?_,?_⟩ ?_ (HX (vj hn) _)
 .intro s x hs;obtain⟨y,a,rfl,_⟩:=z6 hs;rw[cP,MR hn]
 .intro s hs;rcases gR s with⟨z,rfl⟩|⟨z,b,rfl⟩|hno
  .rw[sO]at hs|-;refine⟨by rw[show cls (aD z)=ncl z from cP z 0];grind,?_⟩;cases hl2:l.lookup z with
   |none=>grind
   |some ob=>simp
  .rw[sV z b (by grind) g2]at hs|-;refine⟨by rw[cP];grind,?_⟩;cases(l.lookup z).bind (SOb.inner b)<;>simp
  .exact absurd (sh hno l) hs
 .intro s s' o1 e1 e2;obtain⟨y,a,rfl,k1⟩:=z6 e1;obtain⟨y',a',rfl,k2⟩:=z6 e2;rw[gA k1]at k2;obtain⟨rfl,rfl⟩:=cI (gA k2);rfl
 .intro s ob' hs;dsimp only at hs;rcases gR s with⟨z,rfl⟩|⟨z,b,rfl⟩|hno
  .rw[sO]at hs;cases hl2:l.lookup z with
   |none=>grind
   |some obr=>
    rw[hl2]at hs;cases hs;obtain⟨y,ob,rfl,rfl,k3,k4⟩:=g4 z obr hl2;rw[(vj hn).n y];exact⟨ob.ob y,by rw[Sg.bW,k4];rfl,Uk (vj hn) y k3⟩
  .rw[sV z b (by grind) g2]at hs;cases hl2:l.lookup z with
   |none=>grind
   |some obr=>
    rw[hl2]at hs;obtain⟨y,ob,rfl,rfl,k3,k4⟩:=g4 z obr hl2;have hs:((SOb.inner b (ob.ren (mu n))).map some).join=some ob':=hs;rw[Uj k3]at hs;cases hi:ob.inner b with
    |none=>grind
    |some o'=>
     rw[hi]at hs;cases hs;rw[vj hn y (b+1)];refine⟨ob',by rw[Sg.co,k4];exact hi,?_⟩;obtain⟨ity,wd,q,_,rfl⟩:=hinner hi;exact⟨rfl,rfl,fX _ q⟩
  .rw[sh hno]at hs;cases hs
 .intro s ob' hs;rcases gR s with⟨z,rfl⟩|⟨z,b,rfl⟩|hno
  .rw[sO]at hs;cases hl2:l.lookup z with
   |none=>grind
   |some obr=>
    rw[hl2]at hs;cases hs;obtain⟨y,ob,rfl,rfl,k3,k4⟩:=g4 z obr hl2;cases ob with
    |box ty cs=>
     intro⟨_,e⟩;subst e;cases k3
    |arr ty ez cs=>
     intro⟨e,_⟩;subst e;cases k3
    |row ty t l=>intro⟨e,_⟩;exact absurd e (jh t.gn)
    |fam ty ity t L ov=>intro⟨e,_⟩;cases e
    |mp ks=>intro⟨_,e⟩;cases e
    |mf M=>cases k3
    |it c M=>cases k3
  .rw[sV z b (by grind) g2]at hs;cases hb:(l.lookup z).bind (SOb.inner b)with
   |none=>grind
   |some o'=>
    rw[hb]at hs;obtain⟨ob,_,hi⟩:=kE.1 hb;grind
  .rw[sh hno]at hs;cases hs
def ik(f:SV->Option SV):List SV->Option (List SV)
 |[] =>some []
 |x::l=>(match f x,ik f l with|some y,some m=>some (y::m)|_,_=>none)
def i8:Nat->Sg->SV->Option SV
 |_,_,.nil=>some (.sl 0 [])
 |_,_,.own .. =>some .junk
 |_,_,.owns .. =>some .junk
 |_,_,.ownx .. =>some .junk
 |_,_,.owF .. =>some .junk
 |_,_,.ownf .. =>some .junk
 |_,_,.any=>some .junk
 |0,_,.ptr .. =>some .junk
 |d+1,σ,.ptr s off=>(match σ s with
  |some (.box _ cs)=>(match ik (i8 d σ) cs with|some m=>some (.pro m off)|none=>none)
  |_=>none)
 |d+1,σ,.agg l=>(match ik (i8 d σ) l with|some m=>some (.agg m)|none=>none)
 |d+1,σ,.fn f a b=>(match ik (i8 d σ) a,ik (i8 d σ) b with|some x,some y=>some (.fnp f x y)|_,_=>none)
 |_,_,x=>(match x.av with| .p _=>some x|_=>none)
def fk:Nat->Sg->SV->List Nat
 |0,_,_=>[]
 |d+1,σ,.ptr s _=>s::(match σ s with|some (.box _ cs)=>bD (fk d σ) cs|_=>[])
 |d+1,σ,.agg l=>bD (fk d σ) l
 |d+1,σ,.fn _ a b=>bD (fk d σ) a++bD (fk d σ) b
 |_,_,_=>[]
def Ae(d:Nat)(σ:Nat->Option Ob)(x:PV):fb d σ (.p x)=some x:=by cases d<;>rfl
def JO(d:Nat)(σ:Nat->Option Ob):∀l:List PV,cM (fb d σ) (l.map .p)=some l
 |[] =>rfl
 |x::l=>by simp only[cV,cM,Ae,JO d σ l]
def Aj(d:Nat)(σ:Nat->Option Ob)(x:PV):fB d σ (.p x)=[] :=by cases d<;>rfl
def II(d:Nat)(σ:Nat->Option Ob):∀l:List PV,bD (fB d σ) (l.map .p)=[]
 |[] =>rfl
 |x::l=>by simp only[cV,bD,Aj,II d σ l,je]
def S9{d:Nat}{σ:Sg}{x:SV}{y:SV}(h:(match x.av with| .p _=>some x|_=>none)=some y):(∃q,fb d σ.a x.av=some q/\y.av= .p q)/\fB d σ.a x.av=[] :=by split at h<;>cases h;rename_i q e;rw[e];exact⟨⟨q,Ae _ _ _,rfl⟩,Aj _ _ _⟩
def EZ{d:Nat}{σ:Sg}{x:SV}{y:SV}(h:(match x.av with| .p _=>some x|_=>none)=some y)(hr:fk d σ x=[]):(∃q,fb d σ.a x.av=some q/\y.av= .p q)/\fB d σ.a x.av=(fk d σ x).map aD:=by rw[hr];exact S9 h
def JOk(d:Nat)(σ:Sg):Prop:=∀x y,i8 d σ x=some y->(∃q,fb d σ.a x.av=some q/\y.av= .p q)/\fB d σ.a x.av=(fk d σ x).map aD
def l7{d:Nat}{σ:Sg}(hf:JOk d σ):∀{l m:List SV},ik (i8 d σ) l=some m->(∃q,cM (fb d σ.a) (avs l)=some q/\avs m=q.map .p)/\bD (fB d σ.a) (avs l)=(bD (fk d σ) l).map aD
 |[],m,h=>by cases h;exact⟨⟨[],rfl,rfl⟩,rfl⟩
 |x::l,m,h=>by
  unfold ik at h;split at h<;>cases h;rename_i y m' h1 h2;obtain⟨⟨u,e1,e2⟩,e3⟩:=hf x y h1;obtain⟨⟨v,e4,e5⟩,e6⟩:=l7 hf h2;refine⟨⟨u::v,?_,by rw[avs,e2,e5];rfl⟩,?_⟩
  .rw[avs,cM,e1,e4]
  .rw[avs,bD,bD,e3,e6,d7]
def vf{σ:Sg}:∀d:Nat,JOk d σ:=by
 intro d;induction d with
 |zero=>
  intro x y h;cases x<;>first
   |(change some (SV.sl 0 [])=some y at h;cases h;exact⟨⟨.sl 0 [],rfl,rfl⟩,rfl⟩)
   |(change some SV.junk=some y at h;cases h;exact⟨⟨.junk,rfl,rfl⟩,rfl⟩)
   |exact EZ h rfl
 |succ d ih=>
  intro x y h;cases x with
  |nil=>cases h;exact⟨⟨.sl 0 [],rfl,rfl⟩,rfl⟩
  |own s t n=>cases h;exact⟨⟨.junk,rfl,rfl⟩,rfl⟩
  |owns s t o n=>cases h;exact⟨⟨.junk,rfl,rfl⟩,rfl⟩
  |ownx s n=>cases h;exact⟨⟨.junk,rfl,rfl⟩,rfl⟩
  |owF s n=>cases h;exact⟨⟨.junk,rfl,rfl⟩,rfl⟩
  |ownf s t a n=>cases h;exact⟨⟨.junk,rfl,rfl⟩,rfl⟩
  |any=>cases h;exact⟨⟨.junk,rfl,rfl⟩,rfl⟩
  |ptr s off=>
   change (match σ s with|some (.box _ cs)=>(match ik (i8 d σ) cs with|some m=>some (SV.pro m off)|none=>none)|_=>none)=_ at h;split at h
   case h_2=>cases h
   rename_i ty cs hs;split at h<;>cases h;rename_i m hm;obtain⟨⟨q,e1,e2⟩,e3⟩:=l7 ih hm;have e0:Sg.a σ (aD s)=some ⟨ty,0,avs cs⟩:=by rw[Sg.bW,hs];rfl
   refine⟨⟨.pro q off,?_,by show(match bJ (avs m)with|some q=>AV.p (.pro q off)|none=> .any)=_;rw[e2,cW]⟩,?_⟩
   .show fb (d+1) (Sg.a σ) (.ptr (aD s) off)=_;unfold fb;grind
   .show fB (d+1) (Sg.a σ) (.ptr (aD s) off)=_;unfold fB fk;grind
  |agg l=>
   change (match ik (i8 d σ) l with|some m=>some (SV.agg m)|none=>none)=_ at h;split at h<;>cases h;rename_i m hm;obtain⟨⟨q,e1,e2⟩,e3⟩:=l7 ih hm;refine⟨⟨.agg q,?_,by show d9 (avs m)=_;rw[e2,oe]⟩,?_⟩
   .show fb (d+1) (Sg.a σ) (d9 (avs l))=_;unfold d9;cases hq:bJ (avs l)with
    |some q'=>
     rw[fR hq,JO]at e1;cases e1;exact Ae _ _ _
    |none=>unfold fb;rw[e1];rfl
   .show fB (d+1) (Sg.a σ) (d9 (avs l))=(bD (fk d σ) l).map aD;rw[<-e3];unfold d9;cases hq:bJ (avs l)with
    |some q'=>rw[fR hq,II];exact Aj _ _ _
    |none=>rfl
  |fn f a b=>
   change (match ik (i8 d σ) a,ik (i8 d σ) b with|some x,some y=>some (SV.fnp f x y)|_,_=>none)=_ at h;split at h<;>cases h;rename_i x y h1 h2;obtain⟨⟨u,e1,e2⟩,e3⟩:=l7 ih h1;obtain⟨⟨v,e4,e5⟩,e6⟩:=l7 ih h2;refine⟨⟨.fn (.func f) u v,?_,by show(match bJ (avs x),bJ (avs y)with|some x,some y=>AV.p (.fn (.func f) x y)|_,_=> .any)=_;rw[e2,e5,cW,cW]⟩,?_⟩
   .show fb (d+1) (Sg.a σ) (.fn (.func f) (avs a) (avs b))=_;unfold fb;grind
   .show bD (fB d σ.a) (avs a)++bD (fB d σ.a) (avs b)=(bD (fk d σ) a++bD (fk d σ) b).map aD;grind
  |_=>exact EZ h rfl
def EG(l:List Nat):inC (l.map aD) (l.map ncl):=by intro s hs;obtain⟨x,hx,rfl⟩:=cF.1 hs;rw[show cls (aD x)=ncl x from cP x 0];grind
def nw:LT->Bool
 | .R| .Q| .U| .E| .F=>false
 |_=>true
def zT{t:LT}(h:nw t=true)(l:List t.ty):(t.enc l).all flat1=true:=by
 refine dm.2 λx hx=> ?_;obtain⟨e,_,hx⟩:=List.mem_flatMap.1 hx;cases t<;>first|(cases h;done)|skip
 all_goals (simp[LT.rowP]at hx;rcases hx with rfl|rfl|rfl|rfl<;>rfl)
def bI.rset{σ:Sg}{z a:Nat}{ty ity:TypeId}{lt:LT}{L:List (List lt.ty)}{ov:List (Nat×SV)}{l':List lt.ty}{rd R:List Nat}(hs:σ z=some (.fam ty ity lt L ov))(ho:ov.lookup a=none)(ha:a<L.length)(hl:l'.length=(L.getD a []).length)(hR:inC R (rd.map ncl)):
  bI σ rd [(z,some (.fam ty ity lt (L.set a l') ov))] R [(inn z (a+1),some ⟨ity,lt.w,(lt.enc l').map .p⟩)] :=by
 refine⟨hR,λs hm=> ?_,?_⟩
 .have hm:s=inn z (a+1):=by simpa using hm
  subst hm;rw[cP];grind
 .funext s
  unfold aX;rcases gR s with⟨y,rfl⟩|⟨y,b,rfl⟩|hno
  .rw[Sg.bW,Sg.bW,dJ,beq_eq_false_iff_ne.2 (show aD y≠inn z (a+1)from λh=>by have:=(cI h).2;omega)];unfold aJ.up;rw[dJ];by_cases e:y=z
   .subst e;rw[beq_iff_eq.2 rfl,hs];show some (⟨ty,1,_⟩:Ob)=some ⟨ty,1,_⟩
    congr 2
    rw[fA];unfold cu;grind
   grind
  .rw[Sg.co,Sg.co,dJ];unfold aJ.up;rw[dJ];by_cases e:y=z
   .subst e;rw[beq_iff_eq.2 rfl,hs];by_cases hb:b=a
    .subst hb;rw[beq_iff_eq.2 rfl];unfold SOb.inner;grind
    .rw[beq_eq_false_iff_ne.2 (show inn y (b+1)≠inn y (a+1)from λh=>hb (by have:=(cI h).2;omega))];unfold SOb.inner;grind
   .rw[beq_eq_false_iff_ne.2 e,beq_eq_false_iff_ne.2 (show inn y (b+1)≠inn z (a+1)from λh=>e (cI h).1)];rfl
  .rw[Sg.fp _ hno,Sg.fp _ hno,dJ,beq_eq_false_iff_ne.2 (hno z (a+1))];rfl
def B7(X:Cx)(n:Nat)(σ:Sg)(fv:SV)(xs:List SV):SR:=match rl fv with
 |none=>none
 |some f=>(match X.T f with
  |some ⟨_,dec,pre,.rowB t ty l'⟩=>(match xs with
   | .own s _ m::rest=>(match σ s,ik (i8 3 σ) rest,frs σ n,rg (bD (fk 3 σ) rest) s with
     |some (.row ty' t' l),some bs,true,false=>(match decEq t' t,ae ty' ty with
      | .isTrue h,true=>(match dec (.lst t (h▸l)::bs)with
        |some x=>some ((m=l.length)::(0<m)::pre x,.own n t (l' x).length,s::bD (fk 3 σ) rest,[(s,none),(n,some (.row ty t (l' x)))])
        |none=>none)
      |_,_=>none)
     |_,_,_,_=>none)
   | .ownf z _ a m::rest=>(match σ z,ik (i8 3 σ) rest,frs σ n with
     |some (.fam tyo ity t' L ov),some bs,true=>(match decEq t' t,ae ity ty with
      | .isTrue h,true=>(match dec (.lst t ((h▸L:List (List t.ty)).getD a [])::bs)with
        |some x=>some ((a<L.length)::(m=(L.getD a []).length)::(0<m)::(jC ov a++pre x),.own n t (l' x).length,z::bD (fk 3 σ) rest,[(z,some (.fam tyo ity t' L ((a,.ownf z t' a m)::ov))),(n,some (.row ty t (l' x)))])
        |none=>none)
      |_,_=>none)
     |_,_,_=>none)
   |_=>none)
  |_=>none)
def XU(x:SV)(l:List SV):avs (x::l)=x.av::avs l:=rfl
def Vx{X:Cx}(hX:X.Ok){n:Nat}{o:Oper}{E:SE}{σ:Sg}{c:Call}{f:Operand}(ho:o.op= .call c)(hc:c.callee= .value f):jF X.P n o E σ (B7 X n σ (E f) (c.args.toList.map E)):=by
 intro ps r rd W h hp;unfold B7 at h;split at h
 .cases h
 rename_i fid hf;split at h
 case h_2=>cases h
 rename_i Y dec pre t ty l' hT;have hfv:E.a f= .p (.fn (.func fid) [] []):=wX hf;have avl:c.args.toList.map E.a=avs (c.args.toList.map E):=by rw[gC,gg];rfl
 have hC:=hX.1 fid _ hT;split at h
 .rename_i s lt m rest hxs;split at h
  case h_2=>cases h
  rename_i ty' t' l bs hs hbs hfr hmem;split at h
  case h_2=>cases h
  rename_i ht hty hb;subst ht;split at h<;>cases h;rename_i x hx;have hb:=bp hb;subst hb;have e1:m=l.length:=hp _ (by grind);have e2:0<m:=hp _ (by grind);obtain⟨A,h1,h2⟩:=hC l bs x hx (by grind);obtain⟨⟨q,k1,k2⟩,k3⟩:=l7 (vf 3) hbs;have hqA:q=A:=by have:=congrArg bJ (k2.symm.trans h1);rw[cW,cW]at this;cases this;rfl
  subst hqA;obtain⟨hn1,hn2⟩:=gj hfr;subst e1;refine⟨⟨(s::bD (fk 3 σ) rest).map aD,aJ.sto [(s,none),(n,some (.row ty' t' (l' x)))],?_,?_⟩,trivial⟩
  rotate_left
  .exact bI.flat (rd:=s::bD (fk 3 σ) rest) (W:=[(s,none),(n,some (.row ty' t' (l' x)))]) λq hq=>by
    rcases bh.1 hq with rfl|hq
    .rw[hs];exact⟨rfl,rfl⟩
    .rw[bM.1 hq,hn2];exact⟨rfl,rfl⟩
  have:=Fe (σ:=σ.a) (n:=n) (k:=l.length) (s:=aD s) (rest:=avs rest) (A:=q) ho hc hfv (by rw[avl,hxs];rfl) (by rw[Sg.bW,hs];rfl) (jh t'.gn) e2 k1 (by rw[k3];intro hm;obtain⟨y,hy,e⟩:=cF.1 hm;exact wC hmem (by rw[<-eL e];exact hy)) h2
  rw[k3]at this;show bB _ _ _ _ _ _ (aD s::_) [(aD s,none),(aD n,some _)];show bB _ _ _ _ _ (.own (aD n) 0 _) _ _;rw[hn1];exact this
 .rename_i z lt a m rest hxs;split at h
  case h_2=>cases h
  rename_i tyo ity t' L ov bs hs hbs hfr;split at h
  case h_2=>cases h
  rename_i ht hty hb;subst ht;split at h<;>cases h;rename_i x hx;have hb:=bp hb;subst hb;have e0:a<L.length:=hp _ (by grind);have e1:m=(L.getD a []).length:=hp _ (by grind);have e2:0<m:=hp _ (by grind);have hov:ov.lookup a=none:=oj λp hq=>hp p (by grind);obtain⟨A,h1,h2⟩:=hC _ bs x hx (λp hq=>hp p (by grind));obtain⟨⟨q,k1,k2⟩,k3⟩:=l7 (vf 3) hbs;have hqA:q=A:=by have:=congrArg bJ (k2.symm.trans h1);rw[cW,cW]at this;cases this;rfl
  subst hqA;obtain⟨hn1,hn2⟩:=gj hfr;have hob:Sg.a σ (inn z (a+1))=some ⟨ity,t'.w,(t'.enc (L.getD a [])).map .p⟩:=by rw[Sg.co,hs];show SOb.inner a (.fam tyo ity t' L ov)=_;unfold SOb.inner;dsimp only;rw[hov,bq,dA e0];rfl
  refine⟨⟨inn z (a+1)::bD (fB 3 σ.a) (avs rest),_,?_,bI.take (n:=n) (ob:= .row ity t' (l' x)) hs hov e1 hn2 rfl ?_⟩,trivial⟩
  .have:=Fe (σ:=σ.a) (n:=n) (k:=m) (s:=inn z (a+1)) (rest:=avs rest) (A:=q) ho hc hfv (by rw[avl,hxs];rfl) hob (jh t'.gn) e2 k1 (by rw[k3];intro hm;obtain⟨y,hy,e⟩:=cF.1 hm;have:=(cI e).2;omega) (by rw[e1];exact h2)
   show bB _ _ _ _ _ (.own (aD n) 0 _) _ [(inn z (a+1),none),(aD n,some _)];rw[hn1];exact this
  .intro t ht;rcases bh.1 ht with rfl|ht
   .rw[cP];grind
   .rw[k3]at ht;exact dK _ (EG _ t ht)
 .cases h
def B6(X:Cx)(σ:Sg)(fv:SV)(xs:List SV):SR:=match rl fv with
 |none=>none
 |some f=>(match X.T f with
  |some ⟨_,dec,pre,.mutR t ty l'⟩=>(match(match nw t with|true=>xs|false=>[])with
   | .own s _ m::rest=>(match σ s,ik (i8 3 σ) rest,rg (bD (fk 3 σ) rest) s with
     |some (.row ty' t' l),some bs,false=>(match decEq t' t,ae ty' ty with
      | .isTrue h,true=>(match dec (.lst t (h▸l)::bs)with
        |some x=>some ((m=l.length)::pre x,.undef,s::bD (fk 3 σ) rest,[(s,some (.row ty t (l' x)))])
        |none=>none)
      |_,_=>none)
     |_,_,_=>none)
   | .ownf z _ a m::rest=>(match σ z,ik (i8 3 σ) rest with
     |some (.fam tyo ity t' L ov),some bs=>(match decEq t' t,ae ity ty with
      | .isTrue h,true=>(match dec (.lst t ((h▸L:List (List t.ty)).getD a [])::bs)with
        |some x=>some ((a<L.length)::(m=(L.getD a []).length)::(jC ov a++pre x),.undef,z::bD (fk 3 σ) rest,[(z,some (.fam tyo ity t ((h▸L:List (List t.ty)).set a (l' x)) ov))])
        |none=>none)
      |_,_=>none)
     |_,_=>none)
   |_=>none)
  |_=>none)
def Vw{X:Cx}(hX:X.Ok){n:Nat}{o:Oper}{E:SE}{σ:Sg}{c:Call}{f:Operand}(ho:o.op= .call c)(hc:c.callee= .value f):jF X.P n o E σ (B6 X σ (E f) (c.args.toList.map E)):=by
 intro ps r rd W h hp;unfold B6 at h;split at h
 .cases h
 rename_i fid hf;split at h
 case h_2=>cases h
 rename_i Y dec pre t ty l' hT;have hfv:E.a f= .p (.fn (.func fid) [] []):=wX hf;have avl:c.args.toList.map E.a=avs (c.args.toList.map E):=by rw[gC,gg];rfl
 have hC:=hX.1 fid _ hT;have hfl:nw t=true/\(match nw t with|true=>c.args.toList.map E|false=>[])=c.args.toList.map E\/(match nw t with|true=>c.args.toList.map E|false=>[])=[] :=by
  cases nw t
  .grind
  .grind
 generalize (match nw t with|true=>c.args.toList.map E|false=>[])=ys at h hfl;rcases hfl with⟨hfl,rfl⟩|rfl
 rotate_left
 .cases h
 split at h
 .rename_i s lt m rest hxs;split at h
  case h_2=>cases h
  rename_i ty' t' l bs hs hbs hmem;split at h
  case h_2=>cases h
  rename_i ht hty hb;subst ht;split at h<;>cases h;rename_i x hx;have hb:=bp hb;subst hb;have e1:m=l.length:=hp _ (by grind);obtain⟨A,h1,h2⟩:=hC l bs x hx (by grind);obtain⟨⟨q,k1,k2⟩,k3⟩:=l7 (vf 3) hbs;have hqA:q=A:=by have:=congrArg bJ (k2.symm.trans h1);rw[cW,cW]at this;cases this;rfl
  subst hqA;subst e1;refine⟨⟨(s::bD (fk 3 σ) rest).map aD,aJ.sto [(s,some (.row ty' t' (l' x)))],?_,?_⟩,trivial⟩
  rotate_left
  .exact bI.flat (rd:=s::bD (fk 3 σ) rest) (W:=[(s,some (.row ty' t' (l' x)))]) λq hq=>by rw[bM.1 hq,hs];exact⟨rfl,rfl⟩
  have:=Fa (σ:=σ.a) (n:=n) (k:=l.length) (s:=aD s) (rest:=avs rest) (A:=q) ho hc hfv (by rw[avl,hxs];rfl) (by rw[Sg.bW,hs];rfl) (jh t'.gn) k1 (by rw[k3];intro hm;obtain⟨y,hy,e⟩:=cF.1 hm;exact wC hmem (by rw[<-eL e];exact hy)) (zT hfl _) h2
  rw[k3]at this;exact this
 .rename_i z lt a m rest hxs;split at h
  case h_2=>cases h
  rename_i tyo ity t' L ov bs hs hbs;split at h
  case h_2=>cases h
  rename_i ht hty hb;subst ht;split at h<;>cases h;rename_i x hx;have hb:=bp hb;have e0:a<L.length:=hp _ (by grind);have e1:m=(L.getD a []).length:=hp _ (by grind);have hov:ov.lookup a=none:=oj λp hq=>hp p (by grind);obtain⟨A,h1,h2⟩:=hC _ bs x hx (λp hq=>hp p (by grind));obtain⟨⟨q,k1,k2⟩,k3⟩:=l7 (vf 3) hbs;have hqA:q=A:=by have:=congrArg bJ (k2.symm.trans h1);rw[cW,cW]at this;cases this;rfl
  have hob:Sg.a σ (inn z (a+1))=some ⟨ity,t'.w,(t'.enc (L.getD a [])).map .p⟩:=by rw[Sg.co,hs];show SOb.inner a (.fam tyo ity t' L ov)=_;unfold SOb.inner;dsimp only;rw[hov,bq,dA e0];rfl
  have hlen:(l' x).length=(L.getD a []).length:=by have:=h2.2.1;rw[t'.wide.length,t'.wide.length]at this;exact Nat.eq_of_mul_eq_mul_right t'.gn this
  refine⟨⟨inn z (a+1)::bD (fB 3 σ.a) (avs rest),_,?_,bI.rset (l':=l' x) hs hov e0 hlen ?_⟩,trivial⟩
  .exact Fa (σ:=σ.a) (n:=n) (k:=m) (s:=inn z (a+1)) (rest:=avs rest) (A:=q) ho hc hfv (by rw[avl,hxs];rfl) hob (jh t'.gn) k1 (by rw[k3];intro hm;obtain⟨y,hy,e⟩:=cF.1 hm;have:=(cI e).2;omega) (zT hfl _) (by grind)
  .intro t ht;rcases bh.1 ht with rfl|ht
   .rw[cP];grind
   .rw[k3]at ht;exact dK _ (EG _ t ht)
 .cases h
def xI:SV->Option (Nat×Nat)
 | .agg l=>LT.P.dec l
 |_=>none
def dD(k:Nat×Nat):List Int:=[(k.1:Int),(k.2:Int)]
def GH{x:SV}{k:Nat×Nat}(h:xI x=some k):x.av= .p (.agg (eu (dD k))):=by
 unfold xI at h;split at h
 .have:=LT.uF h;show d9 (avs _)=_;rw[this,oe];rfl
 .cases h
def rh(ks:List (Nat×Nat))(k:Nat×Nat):List (Nat×Nat):=if k∈ks then ks else ks++[k]
def pD{k l:Nat×Nat}(h:dD k=dD l):k=l:=by unfold dD at h;grind
def E8(k:Nat×Nat):∀ks:List (Nat×Nat),jS (fU ks) (dD k) (.p (.bool false))= .p (.bool (decide (k∈ks)))
 |[] =>rfl
 |l::ks=>by
  show(if dD l=dD k then AV.p (.bool true)else jS (fU ks) (dD k) (.p (.bool false)))=_;by_cases e:l=k
  .grind
  .rw[if_neg (λh=>e (pD h)),E8 k ks];grind
def Fw(k:Nat×Nat):∀ks:List (Nat×Nat),fx (fU ks) (dD k) (.p (.bool true))=fU (rh ks k)
 |[] =>rfl
 |l::ks=>by
  show(if dD l=dD k then(dD k,AV.p (.bool true))::fU ks else(dD l,AV.p (.bool true))::fx (fU ks) (dD k) (.p (.bool true)))=_;by_cases e:l=k
  .subst e;rw[if_pos rfl];unfold rh;rw[if_pos (by grind)];rfl
  .rw[if_neg (λh=>e (pD h)),Fw k ks];have:k≠l:=λh=>e h.symm;unfold rh;by_cases h2:k∈ks
   .rw[if_pos h2,if_pos (by grind)];rfl
   .rw[if_neg h2,if_neg (by grind)];rfl
def E9{ks:List (Nat×Nat)}(h:ks.Nodup):mX (fU ks):=by unfold mX fU;grind
def Fx{ks:List (Nat×Nat)}:∀q∈fU ks,q.1.length=2:=by intro q hq;obtain⟨k,_,rfl⟩:=cF.1 hq;rfl
def smk(X:Cx)(n:Nat)(σ:Sg)(t:TypeId):SR:=match X.mt t,frs σ n with
 |true,true=>some ([],.mp n,[],[(n,some (.mp []))])
 |_,_=>none
def Y3{X:Cx}{n:Nat}{o:Oper}{E:SE}{σ:Sg}{t:TypeId}(ho:o.op= .makeMap t none):jF X.P n o E σ (smk X n σ t):=by intro ps r rd W h hp;unfold smk at h;split at h<;>cases h;rename_i h1 h2;obtain⟨hn1,hn2⟩:=gj h2;refine⟨⟨[],aJ.sto [(n,some (.mp []))],?_,bI.flat (rd:=[]) (W:=[(n,some (.mp []))]) λq hq=>by rw[bM.1 hq,hn2];exact⟨rfl,rfl⟩⟩,trivial⟩;have:=EH (P:=X.P) (E:=E.a) (σ:=σ.a) (n:=n) ho;show bB _ _ _ _ _ (.mp (aD n)) _ [(aD n,some ⟨1,0,[]⟩)];grind
def CC(X:Cx)(σ:Sg)(t:TypeId)(x i:SV):SR:=match X.mt t,x,xI i with
 |true,.mp s,some k=>(match σ s with
  |some (.mp ks)=>some ([ks.Nodup],.prop (k∈ks) inferInstance,[s],[])
  |_=>none)
 |_,_,_=>none
def V6{X:Cx}(hX:X.Ok){n:Nat}{o:Oper}{E:SE}{σ:Sg}{t:TypeId}{x i:Operand}(ho:o.op= .lookup t x i false):jF X.P n o E σ (CC X σ t (E x) (E i)):=by
 intro ps r rd W h hp;unfold CC at h;split at h
 case h_2=>cases h
 rename_i s k hmt hx hi;split at h<;>cases h;rename_i ks hs;obtain⟨kt,et,g1,g2,g3⟩:=hX.2.2 t hmt;have hnd:ks.Nodup:=hp _ (by grind);refine⟨⟨[s].map aD,[],?_,bI.read σ [s]⟩,trivial⟩;have:=Ef (E:=E.a) (σ:=σ.a) (n:=n) (m:=2) (s:=aD s) (ks:=fU ks) (xs:=dD k) (z:= .p (.bool false)) (zv:= .bool false) ho g1 g2 g3 (λρ C=>by rfl) (by show(E x).av=_;rw[hx];rfl) (by exact GH hi) rfl (by rw[Sg.bW,hs];rfl) Fx (E9 hnd);rw[E8]at this;exact this
def Cc(X:Cx)(σ:Sg)(t:TypeId)(x i y:SV):SR:=match X.mt t,x,xI i,y with
 |true,.mp s,some k,.lit true=>(match σ s with
  |some (.mp ks)=>some ([ks.Nodup],.undef,[s],[(s,some (.mp (rh ks k)))])
  |_=>none)
 |_,_,_,_=>none
def Xd{X:Cx}(hX:X.Ok){n:Nat}{o:Oper}{E:SE}{σ:Sg}{t:TypeId}{x i y:Operand}(ho:o.op= .mapUpdate t x i y):jF X.P n o E σ (Cc X σ t (E x) (E i) (E y)):=by
 intro ps r rd W h hp;unfold Cc at h;split at h
 case h_2=>cases h
 rename_i s k hmt hx hi hy;split at h<;>cases h;rename_i ks hs;obtain⟨kt,et,g1,g2,g3⟩:=hX.2.2 t hmt;have hnd:ks.Nodup:=hp _ (by grind);refine⟨⟨[s].map aD,aJ.sto [(s,some (.mp (rh ks k)))],?_,bI.flat (rd:=[s]) (W:=[(s,some (.mp (rh ks k)))]) λq hq=>by rw[bM.1 hq,hs];exact⟨rfl,rfl⟩⟩,trivial⟩;have:=Ds (E:=E.a) (σ:=σ.a) (n:=n) (m:=2) (s:=aD s) (ks:=fU ks) (xs:=dD k) ho g1 g2 (by show(E x).av=_;rw[hx];rfl) (by exact GH hi) rfl (by rw[Sg.bW,hs];rfl) Fx (E9 hnd);rw[show E.a y= .p (.bool true)from by show(E y).av=_;rw[hy];rfl,Fw]at this;exact this
def orS(a b:SR):SR:=match a with
 |some x=>some x
 |none=>b
def wu{P:Program}{n:Nat}{o:Oper}{E:SE}{σ:Sg}{a b:SR}(ha:jF P n o E σ a)(hb:jF P n o E σ b):jF P n o E σ (orS a b):=by
 intro ps r rd W h hp;cases a with
 |some x=>exact ha ps r rd W h hp
 |none=>exact hb ps r rd W h hp
def B9(X:Cx)(n:Nat)(σ:Sg)(fv:SV)(xs:List SV):SR:=match rl fv with
 |none=>none
 |some f=>(match X.T f with
  |some ⟨_,dec,pre,.own ty t l ys⟩=>(match gI (fD 3 σ) xs with
   |some (qs,bs)=>(match dec bs,frs σ n,nw t with
    |some x,true,true=>(match ys x with
     |[] =>some (qs++pre x,.own n t (l x).length,bD (cn 3 σ) xs,[(n,some (.row ty t (l x)))])
     |_=>none)
    |_,_,_=>none)
   |none=>none)
  |_=>none)
def V0{X:Cx}(hX:X.Ok){n:Nat}{o:Oper}{E:SE}{σ:Sg}{c:Call}{f:Operand}(ho:o.op= .call c)(hc:c.callee= .value f):jF X.P n o E σ (B9 X n σ (E f) (c.args.toList.map E)):=by
 intro ps r rd W h hp;unfold B9 at h;split at h
 .cases h
 rename_i fid hf;split at h
 case h_2=>cases h
 rename_i Y dec pre ty t l ys hT;split at h
 case h_2=>cases h
 rename_i qs bs hbs;split at h
 case h_2=>cases h
 rename_i x hx hfr hfl;split at h<;>cases h;rename_i hys;have avl:c.args.toList.map E.a=avs (c.args.toList.map E):=by rw[gC,gg];rfl
 obtain⟨A,Y2,h1,h2,h3⟩:=hX.1 fid _ hT bs x hx (λp hq=>hp p (by grind));obtain⟨q,k1,k2⟩:=qh (λx ps y=>si) hbs (λp hq=>hp p (by grind));have hqA:q=A:=by have:=congrArg bJ (k2.symm.trans h1);rw[cW,cW]at this;cases this;rfl
 subst hqA;have hY:Y2=[] :=by
  rw[hys]at h2;cases Y2 with
  |nil=>rfl
  |cons y Y2=>cases h2
 subst hY;obtain⟨hn1,hn2⟩:=gj hfr;have:=Vc (σ:=σ.a) (n:=n) ho hc (wX hf) (by rw[avl];exact k1) (zT hfl _) h3;rw[avl]at this;refine⟨⟨_,aJ.sto [(n,some (.row ty t (l x)))],?_,⟨nM (Ai 3) _,(bI.flat (rd:=[]) (W:=[(n,some (.row ty t (l x)))]) λq hq=>by rw[bM.1 hq,hn2];exact⟨rfl,rfl⟩).2⟩⟩,trivial⟩;show bB _ _ _ _ _ (.own (aD n) 0 _) _ [(aD n,some _)];rw[hn1];exact this
def Br(P:Program)(e:TypeId):Bool:=match lJ P e,P.info? e with
 |true,some i=>(match i.zero with
  |some zv=>(match zv.cells.toList with|[.int .i64 (.ofNat 0),.int .i64 (.ofNat 0),.int .i64 (.ofNat 0)] =>true|_=>false)
  |none=>false)
 |_,_=>false
def Vl{P:Program}{e:TypeId}(h:Br P e=true):∃zv,(∀w:World,(zeroValue e).run P w= .ok zv w)/\zv.cells.toList=[.int .i64 0,.int .i64 0,.int .i64 0] :=by
 unfold Br at h;split at h
 .rename_i i _ hi;split at h
  .rename_i zv hz;split at h
   .rename_i hc;exact⟨zv,λw=>by simp[zeroValue,typeInfo,hi,hz],hc⟩
   .cases h
  .cases h
 .cases h
def BO(P:Program)(σ:Sg)(t:TypeId)(x:SV):SR:=match bu P t,x with
 |some e,.owns s .T o n=>(match σ s,Br P e with
  |some (.row ty .T l),true=>some ([o+n<=l.length],.undef,[s],[(s,some (.row ty .T (l.take o++bS n ⟨0,0,0⟩++l.drop (o+n))))])
  |_,_=>none)
 |_,_=>none
def V9{a b c d:List AV}(h:d.length=b.length):c7 (a++b++c) a.length d=a++d++c:=by
 have h0:∀(l cs:List AV),l.length=cs.length->∀pre:List AV,c7 (pre++cs) pre.length l=pre++l:=by
  intro l;induction l with
  |nil=>intro cs hl pre;rw[show cs=[]from ip.1 hl.symm];rfl
  |cons x l ih=>
   intro cs hl pre;cases cs with
   |nil=>simp at hl
   |cons y cs=>
    unfold c7;have e:(pre++y::cs).set pre.length x=(pre++[x])++cs:=by rw[DR _ _ (az _),Nat.sub_self,List.set_cons_zero,lj];rfl
    rw[e];have:=ih cs (by simpa using hl) (pre++[x]);rw[dh,List.length_singleton]at this;rw[this,lj];rfl
 have:=D9 (a:=a) (b:=b) (c:=c) (l:=d) (k:=a.length) (off:=0) rfl (by omega);rw[ux]at this;rw[this];have h1:=h0 d b h [];rw[oS,oS]at h1;rw[show c7 b 0 d=d from h1]
def UZ{P:Program}{n:Nat}{o:Oper}{E:SE}{σ:Sg}{c:Call}{x:Operand}{t:TypeId}(ho:o.op= .call c)(hc:c.callee= .builtin .clear)(hargs:c.args= #[x])(hat:c.argTypes= #[t]):jF P n o E σ (BO P σ t (E x)):=by
 intro ps r rd W h hp;unfold BO at h;split at h
 case h_2=>cases h
 rename_i e s a m hte hx;split at h<;>cases h;rename_i ty l hs hz;obtain⟨zv,hz1,hz2⟩:=Vl hz;have hle:a+m<=l.length:=hp _ (by simp);have hob:Sg.a σ (aD s)=some ⟨ty,3,(LT.T.enc l).map .p⟩:=by rw[Sg.bW,hs];rfl
 have hw:∀q:List Pt,(LT.T.enc q).length=q.length*3:=λq=>LT.T.wide.length q;have hu:P.underlying t=some (.slice e):=by
  unfold bu at hte;split at hte
  .rename_i h;cases hte;exact h
  .cases hte
 have:=VS (P:=P) (E:=E.a) (σ:=σ.a) (n:=n) (m:=m) (off:=a*3) (zs:=[.int .i64 0,.int .i64 0,.int .i64 0]) ho hc hargs hat hu hz1 (by rw[hz2];rfl) (by rw[hz2];intro u hu;simp at hu;subst hu;rfl) (by show(E x).av=_;rw[hx];rfl) hob (show(3:Nat)≠0 by decide) rfl (by rw[eB,hw];show a*3+m*3<=_;omega)
 have e1:c7 ((LT.T.enc l).map AV.p) (a*3) ((jx m [.int .i64 0,.int .i64 0,.int .i64 0]).map .p)=(LT.T.enc (l.take a++bS m ⟨0,0,0⟩++l.drop (a+m))).map .p:=by
  have e2:LT.T.enc l=LT.T.enc (l.take a)++LT.T.enc ((l.drop a).take m)++LT.T.enc (l.drop (a+m)):=by
   unfold LT.enc;rw[<-vB,<-vB]
   congr 1
   rw[lj,<-List.drop_drop,oU,oU]
  have e3:jx m [.int .i64 0,.int .i64 0,.int .i64 0] =LT.T.enc (bS m (⟨0,0,0⟩:Pt)):=by unfold jx LT.enc;rw[List.flatMap_replicate];rfl
  rw[e3]
  conv=>lhs;rw[e2]
  have e4:a*3=((LT.T.enc (l.take a)).map AV.p).length:=by rw[eB,hw,ew,sC (by omega)]
  rw[d7,d7,e4,V9 (by rw[eB,eB,hw,hw,mg,ew,mh];omega)];unfold LT.enc;rw[vB,vB,d7,d7]
 refine⟨⟨[aD s],_,this,?_⟩,trivial⟩;rw[e1];exact bI.flat (σ:=σ) (rd:=[s]) (W:=[(s,some (.row ty .T (l.take a++bS m ⟨0,0,0⟩++l.drop (a+m))))]) λq hq=>by rw[bM.1 hq,hs];exact⟨rfl,rfl⟩
def bB.nilE{P:Program}{o:Oper}{E:SE}{σ:Nat->Option Ob}{n:Nat}{r:AV}{R:List Nat}{W:List (Nat×Option Ob)}
  (h:bB P o (SE.a λy=>match E y with| .nil=> .lst .I [] |v=>v) σ n r R W):bB P o E.a σ n r R W:=by
 intro C0 ρ g V w B hs hB hR hn hgn hE;refine h C0 ρ g V w B hs hB hR hn hgn λy hy=> ?_;have:=hE y hy;unfold SE.a at this|-;show aU ρ (ak C0 B w ρ g) (match E y with| .nil=>SV.lst .I [] |v=>v).av (bF V y);split
 .rename_i e;rw[e]at this;have e2:bF V y= .slice none 0 0:=this;rw[e2];exact⟨none,0,rfl,az _,λ_=>⟨rfl,rfl⟩,λad e=>nomatch e⟩
 .exact this
def Ab(P:Program)(t:TypeId)(a x:SV)(σ:Sg):SR:=match x,a with
 | .nil,.pte s lt i off=>mL (pT P t (.pte s lt i off) (.lst .I []) σ)
 |_,_=>none
def TX{P:Program}{n:Nat}{o:Oper}{E:SE}{σ:Sg}{t:TypeId}{a x:Operand}(ho:o.op= .store t a x):jF P n o E σ (Ab P t (E a) (E x) σ):=by
 intro ps r rd W h hp;unfold Ab at h;split at h
 case h_2=>cases h
 rename_i s lt i off hx ha;obtain⟨h,hr⟩:=vY h;refine⟨?_,hr⟩;have h3:=E5 (P:=P) (n:=n) (E:=λy=>match E y with| .nil=> .lst .I [] |v=>v) (σ:=σ) ho ps r rd W (by simp only[hx,ha];exact h) hp;obtain⟨r',R',W',h4,rfl,h5⟩:=zd h3;exact⟨R',W',h4.nilE,h5⟩
def Ce(X:Cx)(n:Nat)(o:Op)(E:SE)(σ:Sg):SR:=match o with
 | .call {callee:= .value f,args, .. }=>orS (mL (B5 X n σ (E f) (args.toList.map E))) (orS (B7 X n σ (E f) (args.toList.map E)) (orS (B6 X σ (E f) (args.toList.map E)) (B9 X n σ (E f) (args.toList.map E))))
 | .call {callee:= .builtin .clear,args:=⟨[x]⟩,argTypes:=⟨[t]⟩}=>BO X.P σ t (E x)
 | .makeMap t none=>smk X n σ t
 | .lookup t x i false=>CC X σ t (E x) (E i)
 | .mapUpdate t x i y=>Cc X σ t (E x) (E i) (E y)
 | .store t a x=>Ab X.P t (E a) (E x) σ
 |_=>none
def Xe{X:Cx}(hX:X.Ok){n:Nat}{o:Oper}{E:SE}{σ:Sg}:jF X.P n o E σ (Ce X n o.op E σ):=by
 generalize ho:o.op=op;unfold Ce;split
 .exact wu (Vt hX ho rfl) (wu (Vx hX ho rfl) (wu (Vw hX ho rfl) (V0 hX ho rfl)))
 .exact UZ ho rfl rfl rfl
 .exact Y3 ho
 .exact V6 hX ho
 .exact Xd hX ho
 .exact TX ho
 .intro ps r rd W h hp;cases h
def Cd(X:Cx)(raw:Bool)(n:Nat)(o:Op)(E:SE)(σ:Sg):SR:=orS (sop X raw n o E σ) (Ce X n o E σ)
def HJ{X:Cx}(hX:X.Ok){raw:Bool}{n:Nat}{o:Oper}{E:SE}{σ:Sg}(hE:∀x,(E x).ok):jF X.P n o E σ (Cd X raw n o.op E σ):=by refine wu ?_ (Xe hX);intro ps r rd W h hp;obtain⟨h1,h2⟩:=Y1 hX hE h hp;obtain⟨r',R',W',h3,rfl,h4⟩:=zd h1;grind
end
noncomputable section
def eI{P:Program}{N:Nat}{ds:List (Option Nat)}{K K':List AV->Sto->dX->Prop}(hK:∀F L log,K F L log->K' F L log):∀{l:List Oper} {i:Nat} {F:List AV} {L:Sto} {log:dX},cN P N ds l i F L log K->cN P N ds l i F L log K'
 |[],i,F,L,log,h=>by unfold cN at*;grind
 |o::rest,i,F,L,log,h=>by
  unfold cN at*;split at h
  .obtain⟨r,R,W,Rc,Wc,h1,i1,i2,h2⟩:=h;exact⟨r,R,W,Rc,Wc,h1,i1,i2,eI hK h2⟩
  .split at h
   .split at h
    .rename_i e;rw[if_pos e];obtain⟨r,R,W,Rc,Wc,h1,i1,i2,h2⟩:=h;exact⟨r,R,W,Rc,Wc,h1,i1,i2,eI hK h2⟩
    .rename_i e;rw[if_neg e];exact eI hK h
   .exact eI hK h
   .exact h
def ce.mono{P:Program}{o:Oper}{F:List AV}{L:Sto}{N:Nat}{K K':List AV->Sto->Nat->Prop}(hK:∀F L N,K F L N->K' F L N)(h:ce P o F L N K):ce P o F L N K':=
 λC0 B wI a w hS=>nA (h C0 B wI a w hS) (by grind)
def qO{P:Program}{ds:List (Option Nat)}{K K':List AV->Sto->Nat->Prop}(hK:∀F L N,K F L N->K' F L N):∀{k:Nat} {l:List Oper} {i:Nat} {F:List AV} {L:Sto} {N:Nat},kW P ds k l i F L N K->kW P ds k l i F L N K'
 |0,_,_,_,_,_,h=>eI (λF L _ h=>hK F L _ h) h
 |_+1,_,_,_,_,_,.inl h=> .inl (eI (λF L _ h=>hK F L _ h) h)
 |_+1,_,_,_,_,_,.inr ⟨pre,o,post,e,hg,h⟩=> .inr ⟨pre,o,post,e,hg,eI (λF L _ h=>h.mono λF L N h=>qO hK h) h⟩
def gw{P:Program}:∀(c:Code) {Q Q':jw} (_:∀e F L N,Q e F L N->Q' e F L N) {F:List AV} {L:Sto} {N:Nat},awp P c Q F L N->awp P c Q' F L N:=by
 intro c;induction c with
 |skip=>intro Q Q' hQ F L N h;exact hQ _ _ _ _ h
 |region id ops draw=>
  intro Q Q' hQ F L N h;rcases h with h|⟨hd,k,h3⟩|⟨hd,anc,h1,h2,h3,h4⟩
  rotate_left
  .exact .inr (.inl ⟨hd,k,qO (by grind) h3⟩)
  .exact .inr (.inr ⟨hd,anc,h1,h2,h3,eI (by grind) h4⟩)
  cases draw with
  |true=>obtain⟨anc,h1,h2,h3,h4⟩:=h;exact .inl ⟨anc,h1,h2,h3,eI (by grind) h4⟩
  |false=>obtain⟨h1,h2⟩:=h;exact .inl ⟨h1,eI (by grind) h2⟩
 |seq a b iha ihb=>
  intro Q Q' hQ F L N h;obtain⟨M,h1,h2⟩:=h;refine⟨M,iha ?_ h1,λF L N hm=> ?_⟩
  .grind
  grind
 |cond c t e iht ihe=>
  intro Q Q' hQ F L N h;obtain⟨b,hb,h1,h2⟩:=h;exact⟨b,hb,by grind,by grind⟩
 |block id c ih=>
  intro Q Q' hQ F L N h;refine ih ?_ h;grind
 |loop c ih=>
  intro Q Q' hQ F L N h;obtain⟨Inv,μ,h1,h2⟩:=h;refine⟨Inv,μ,h1,λF L N hi=>ih ?_ (h2 F L N hi)⟩;grind
 |exit id=>intro Q Q' hQ F L N h;exact hQ _ _ _ _ h
 |ret=>intro Q Q' hQ F L N h;exact hQ _ _ _ _ h
 |rangeFunc f params x y _ _=>intro Q Q' hQ F L N h;exact h.elim
 |scope c ih=>
  intro Q Q' hQ F L N h;refine ih ?_ h;grind
 |label l=>intro Q Q' hQ F L N h;exact hQ _ _ _ _ h
 |goto l=>intro Q Q' hQ F L N h;exact h.elim
 |refuse s=>intro Q Q' hQ F L N h;exact h.elim
def Frm.ok(F:Frm):Prop:=∀t,(F.at t).ok
def Yy(v:Value):(svC v).ok:=by
 unfold svC;split
 .split<;>trivial
 .split<;>trivial
 .unfold svK;split<;>trivial
def Gk{n:Nat}{F:Frm}(h:F.ok)(x:Operand):(cA n F x).ok:=by
 cases x with
 |tmp t=>
  show(match dG t n with|true=>F.at t|false=>SV.any).ok;split
  .exact h t
  .trivial
 |const v=>exact Yy v
 |func f=>trivial
 |global g=>trivial
def Frm.Hk{F:Frm}(h:F.ok){d:Nat}{v:SV}(hv:v.ok):Frm.ok ((d,v)::F):=by
 intro t;rw[Frm.cd];split
 .exact hv
 .exact h t
def dv(n:Nat)(F:Frm)(d:Option Nat)(r:SV):Frm:=match d with
 |none=>F
 |some d=>(match dG d n with|true=>(d,r)::F|false=>F)
def dc(a b:Nat):dG a b=true↔a<b:=by simp_all
def Vg{a b:Nat}(h:dG a b=false):¬a<b:=λhh=>by rw[(dc a b).2 hh]at h;cases h
def iy{n:Nat}{F:Frm}{d:Option Nat}{r:SV}:cJ (F.av n) d r.av=(dv n F d r).av n:=by
 cases d with
 |none=>rfl
 |some d=>
  unfold dv;dsimp only;split
  .rename_i h;exact Frm.pX ((dc _ _).1 h)
  .rename_i h;unfold cJ;dsimp only;rw[List.set_eq_of_length_le (by rw[Frm.eH];exact Nat.le_of_not_lt (Vg h))]
def Pre(S:Nat->Prop)(F F':Frm):Prop:=∃pre:Frm,F'=pre++F/\∀q∈pre,S q.1
def eC(L L':aJ):Prop:=∃pre:aJ,L'=pre++L
def Pre.rfl{S:Nat->Prop}{F:Frm}:Pre S F F:=⟨[],by simp,by grind⟩
def Pre.trans{S:Nat->Prop}{F G H:Frm}(h1:Pre S F G)(h2:Pre S G H):Pre S F H:=by obtain⟨p,rfl,hp⟩:=h1;obtain⟨q,rfl,hq⟩:=h2;exact⟨q++p,by simp,by grind⟩
def Pre.mono{S T:Nat->Prop}{F G:Frm}(h1:Pre S F G)(h:∀d,S d->T d):Pre T F G:=by obtain⟨p,e,hp⟩:=h1;exact⟨p,e,by grind⟩
def eC.rfl{L:aJ}:eC L L:=⟨[],by simp⟩
def eC.trans{L M O:aJ}(h1:eC L M)(h2:eC M O):eC L O:=by obtain⟨p,rfl⟩:=h1;obtain⟨q,rfl⟩:=h2;exact⟨q++p,by simp⟩
def qT{n:Nat}{F:Frm}{d:Option Nat}{r:SV}{S:Nat->Prop}(h:∀t,d=some t->S t):Pre S F (dv n F d r):=by
 cases d with
 |none=>exact Pre.rfl
 |some d=>
  unfold dv;dsimp only;split
  .exact⟨[(d,r)],by simp,by grind⟩
  .exact Pre.rfl
def nT{n:Nat}{F:Frm}{d:Option Nat}{r:SV}(h:F.ok)(hr:r.ok):(dv n F d r).ok:=by
 cases d with
 |none=>exact h
 |some d=>
  unfold dv;dsimp only;split
  .exact Frm.Hk h hr
  .exact h
def lT(X:Cx)(n:Nat)(raw:Bool)(N i:Nat)(o:Oper)(F:Frm)(L:aJ)(log:dX)(k:Frm->aJ->dX->Fm):Fm:=match Cd X raw (N+i) o.op (cA n F) L.at with
 |some (ps,r,R,W)=>needs ps (k (dv n F o.dst r) (W++L) (log++[(R.map ncl,W.map λ(q:Nat×Option SOb)=>ncl q.1)]))
 |none=> .stuck i
def kV(n:Nat)(o:Oper)(F:Frm)(L:aJ)(log:dX)(k:Frm->aJ->dX->Fm):Fm:=k (dv n F o.dst .undef) L (log++[([],[])])
def dj(X:Cx)(n:Nat)(raw:Nat->Bool)(N:Nat)(ds:List (Option Nat)):List Oper->Nat->Frm->aJ->dX->(Frm->aJ->dX->Fm)->Fm
 |[],_,F,L,log,K=>K F L log
 |o::rest,i,F,L,log,K=>match o.guard with
  |none=>lT X n (raw i) N i o F L log λF L log=>dj X n raw N ds rest (i+1) F L log K
  |some (j,want)=>(match(ds[j]?).join with
   |some d=>(match dG d n,F.at d with
    |true,.lit b=>(match b,want with
     |true,false=>kV n o F L log λF L log=>dj X n raw N ds rest (i+1) F L log K
     |false,true=>kV n o F L log λF L log=>dj X n raw N ds rest (i+1) F L log K
     |_,_=>lT X n (raw i) N i o F L log λF L log=>dj X n raw N ds rest (i+1) F L log K)
    |true,.undef=>kV n o F L log λF L log=>dj X n raw N ds rest (i+1) F L log K
    |true,.prop p _=> .both
     (.imp p (match want with
       |true=>lT X n (raw i) N i o ((d,.lit true)::F) L log λF L log=>dj X n raw N ds rest (i+1) F L log K
       |false=>kV n o ((d,.lit true)::F) L log λF L log=>dj X n raw N ds rest (i+1) F L log K))
     (.imp (¬p) (match want with
       |false=>lT X n (raw i) N i o ((d,.lit false)::F) L log λF L log=>dj X n raw N ds rest (i+1) F L log K
       |true=>kV n o ((d,.lit false)::F) L log λF L log=>dj X n raw N ds rest (i+1) F L log K))
    |true,.bool c=> .both
     (.imp (c=true) (match want with
       |true=>lT X n (raw i) N i o ((d,.lit true)::F) L log λF L log=>dj X n raw N ds rest (i+1) F L log K
       |false=>kV n o ((d,.lit true)::F) L log λF L log=>dj X n raw N ds rest (i+1) F L log K))
     (.imp (c=false) (match want with
       |false=>lT X n (raw i) N i o ((d,.lit false)::F) L log λF L log=>dj X n raw N ds rest (i+1) F L log K
       |true=>kV n o ((d,.lit false)::F) L log λF L log=>dj X n raw N ds rest (i+1) F L log K))
    |_,_=> .stuck i)
   |none=> .stuck i)
def Frm.Yr{n:Nat}{F:Frm}{d:Nat}{v:SV}(h:v.av=(F.at d).av):Frm.av n ((d,v)::F)=F.av n:=by apply lk;intro t _;rw[Frm.cd];grind
def aJ.fn(L:aJ):Sto:=Sg.a L.at
def eN(n:Nat)(S:Nat->Prop)(F:Frm)(L:aJ)(FA:List AV)(LA:Sto)(G:Frm->aJ->Prop):Prop:=∃F' L',FA=F'.av n/\LA=L'.fn/\F'.ok/\Pre S F F'/\eC L L'/\G F' L'
def eN.step{n:Nat}{S:Nat->Prop}{F F1:Frm}{L L1:aJ}{FA:List AV}{LA:Sto}{G:Frm->aJ->Prop}(h1:Pre S F F1)(h2:eC L L1)(h:eN n S F1 L1 FA LA G):eN n S F L FA LA G:=by obtain⟨F',L',a,b,c,d,e,f⟩:=h;exact⟨F',L',a,b,c,h1.trans d,h2.trans e,f⟩
def iM{X:Cx}(hX:X.Ok){n:Nat}{raw:Nat->Bool}{N:Nat}{ds:List (Option Nat)}{K:Frm->aJ->dX->Fm}:
  ∀(l:List Oper) (i:Nat) (F:Frm) (L:aJ) (log:dX),(∀o∈l,o.dst∈ds)->F.ok->(dj X n raw N ds l i F L log K).holds->
   cN X.P N ds l i (F.av n) L.fn log λFA LA log'=>eN n (λd=>some d∈ds) F L FA LA λF' L'=>(K F' L' log').holds
 |[],i,F,L,log,_,hF,h=>by
  unfold cN;exact⟨F,L,rfl,rfl,hF,Pre.rfl,eC.rfl,h⟩
 |o::rest,i,F,L,log,hd,hF,h=>by
  have hd':∀o∈rest,o.dst∈ds:=by grind
  have hod:∀t,o.dst=some t->some t∈ds:=by grind
  have run:∀F:Frm,F.ok->(lT X n (raw i) N i o F L log λF L log=>dj X n raw N ds rest (i+1) F L log K).holds->
    ∃r R W Rc Wc,bB X.P o (dC (F.av n)) L.fn (N+i) r R W/\inC R Rc/\inC (W.map (·.1)) Wc/\cN X.P N ds rest (i+1) (cJ (F.av n) o.dst r) (aX L.fn W) (log++[(Rc,Wc)]) λFA LA log'=>eN n (λd=>some d∈ds) F L FA LA λF' L'=>(K F' L' log').holds:=by
   intro F hF h;unfold lT at h;split at h
   .rename_i ps r R W hs;obtain⟨h1,h2⟩:=jj h;obtain⟨⟨R',W',h5,f1,f2,f3⟩,h4⟩:=HJ hX (Gk hF) _ _ _ _ hs h1;have e1:SE.a (cA n F)=dC (F.av n):=funext λx=>eT x;rw[e1]at h5;refine⟨r.av,R',W',_,_,h5,f1,f2,?_⟩;have e3:aX L.fn W'=aJ.fn (W++L):=by unfold aJ.fn;rw[f3,aJ.pd]
    rw[iy,e3];exact eI (λ_ _ _=>eN.step (qT hod) ⟨W,rfl⟩) (iM hX rest (i+1) _ _ _ hd' (nT hF h4) h2)
   .exact h.elim
  have skip:∀F:Frm,F.ok->(kV n o F L log λF L log=>dj X n raw N ds rest (i+1) F L log K).holds->
    cN X.P N ds rest (i+1) (cJ (F.av n) o.dst .undef) L.fn (log++[([],[])]) λFA LA log'=>eN n (λd=>some d∈ds) F L FA LA λF' L'=>(K F' L' log').holds:=by
   intro F hF h;unfold kV at h;have:=iM hX rest (i+1) _ _ _ hd' (nT (n:=n) (d:=o.dst) hF (show SV.ok .undef from trivial)) h;rw[<-iy]at this;exact eI (λ_ _ _=>eN.step (qT hod) eC.rfl) this
  unfold dj at h;unfold cN;split at h
  .grind
  .rename_i j want hg;rw[hg];dsimp only;split at h
   case h_2=>exact h.elim
   rename_i d hdj;have gd:∀F:Frm,d<n->gdA ds (F.av n) j=(match(F.at d).av with| .p (.bool b)=>some (some b)| .undef=>some none|_=>none):=by intro F hlt;unfold gdA;rw[hdj];dsimp only;rw[Frm.fi hlt];rfl
   have split1:∀(b:Bool),d<n->(F.at d).av= .p (.bool b)->(match want with
      |true=>(match b with
       |true=>lT X n (raw i) N i o ((d,.lit true)::F) L log λF L log=>dj X n raw N ds rest (i+1) F L log K
       |false=>kV n o ((d,.lit false)::F) L log λF L log=>dj X n raw N ds rest (i+1) F L log K)
      |false=>(match b with
       |true=>kV n o ((d,.lit true)::F) L log λF L log=>dj X n raw N ds rest (i+1) F L log K
       |false=>lT X n (raw i) N i o ((d,.lit false)::F) L log λF L log=>dj X n raw N ds rest (i+1) F L log K)).holds->
     (match(gdA ds (F.av n) j:Option (Option Bool))with
       |some (some b)=>if b=want then∃r R W Rc Wc,bB X.P o (dC (F.av n)) L.fn (N+i) r R W/\inC R Rc/\inC (W.map (·.1)) Wc/\cN X.P N ds rest (i+1) (cJ (F.av n) o.dst r) (aX L.fn W) (log++[(Rc,Wc)]) (λFA LA log'=>eN n (λd=>some d∈ds) F L FA LA λF' L'=>(K F' L' log').holds)
        else cN X.P N ds rest (i+1) (cJ (F.av n) o.dst .undef) L.fn (log++[([],[])]) (λFA LA log'=>eN n (λd=>some d∈ds) F L FA LA λF' L'=>(K F' L' log').holds)
       |some none=>cN X.P N ds rest (i+1) (cJ (F.av n) o.dst .undef) L.fn (log++[([],[])]) (λFA LA log'=>eN n (λd=>some d∈ds) F L FA LA λF' L'=>(K F' L' log').holds)
       |none=>False):=by
    intro b hlt hb h;rw[gd F hlt,hb];dsimp only;have e0:∀c,c=b->Frm.av n ((d,.lit c)::F)=F.av n:=λc hc=>Frm.Yr (by rw[hb,hc];rfl);have hpre:∀c,Pre (λd=>some d∈ds) F ((d,SV.lit c)::F):=λc=>⟨[(d,.lit c)],rfl,by grind⟩;have up:∀c FA LA (G:Frm->aJ->Prop),eN n (λd=>some d∈ds) ((d,SV.lit c)::F) L FA LA G->eN n (λd=>some d∈ds) F L FA LA G:=λc FA LA G=>eN.step (hpre c) eC.rfl;have hok:∀c,Frm.ok ((d,SV.lit c)::F):=λc=>Frm.Hk hF (show SV.ok (.lit c)from trivial);cases want<;>cases b<;>dsimp only at h
    .have:=run _ (hok false) h;rw[e0 false rfl]at this;obtain⟨r,R,W,Rc,Wc,h1,i1,i2,h2⟩:=this;exact⟨r,R,W,Rc,Wc,h1,i1,i2,eI (by grind) h2⟩
    .have:=skip _ (hok true) h;rw[e0 true rfl]at this;exact eI (by grind) this
    .have:=skip _ (hok false) h;rw[e0 false rfl]at this;exact eI (by grind) this
    .have:=run _ (hok true) h;rw[e0 true rfl]at this;obtain⟨r,R,W,Rc,Wc,h1,i1,i2,h2⟩:=this;exact⟨r,R,W,Rc,Wc,h1,i1,i2,eI (by grind) h2⟩
   split at h
   .rename_i b hlt hb;have hlt:=(dc _ _).1 hlt;rw[gd F hlt,hb];show(if b=want then _ else _);cases b<;>cases want<;>dsimp only at h
    .grind
    .grind
    .grind
    grind
   .rename_i hlt hb;have hlt:=(dc _ _).1 hlt;rw[gd F hlt,hb];exact skip F hF h
   .rename_i p dec hlt hb;obtain⟨h1,h2⟩:=Fm.lq h;have hlt:=(dc _ _).1 hlt;have hav:(F.at d).av= .p (.bool (@decide p dec)):=by rw[hb];rfl
    by_cases hp:p
    .refine split1 true hlt (by grind) ?_;have h1:=(h1:p->_) hp;omega
    .have h2:=(h2:¬p->_) hp;grind
   .rename_i c hlt hb;obtain⟨h1,h2⟩:=Fm.lq h;have hlt:=(dc _ _).1 hlt;have hav:(F.at d).av= .p (.bool c):=by rw[hb];rfl
    cases c with
    |true=>
     refine split1 true hlt hav ?_;have h1:=(h1:(true=true)->_) rfl;omega
    |false=>
     have h2:=(h2:(false=false)->_) rfl;grind
   .exact h.elim
end
noncomputable section
abbrev Rm:=List (Nat×Option Nat)
def ju:Rm->Nat->Option (Option Nat)
 |[],_=>none
 |(k,x)::m,s=>match ae s k with|true=>some x|false=>ju m s
def lR(f:SV->SV->Option (List Prop×Rm)):List SV->List SV->Option (List Prop×Rm)
 |[],[] =>some ([],[])
 |x::l,y::r=>(match f x y,lR f l r with
  |some (p,m),some (q,k)=>some (p++q,m++k)
  |_,_=>none)
 |_,_=>none
def Cv:SV->SV->Option (List Prop×Rm)
 | .any,_=>some ([],[])
 | .undef,.undef=>some ([],[])
 | .nil,.nil=>some ([],[])
 | .int k a,.int k' b=>(match decEq k k' with| .isTrue _=>some ([b=a],[])| .isFalse _=>none)
 | .bool a,.bool b=>some ([b=a],[])
 | .bool a,.lit b=>some ([b=a],[])
 | .bool a,.prop p d=>some ([@decide p d=a],[])
 | .lit a,.lit b=>some ([b=a],[])
 | .lit a,.bool b=>some ([b=a],[])
 | .lit a,.prop p d=>some ([@decide p d=a],[])
 | .prop p _,.prop q _=>some ([q↔p],[])
 | .prop p d,.bool b=>some ([b= @decide p d],[])
 | .prop p d,.lit b=>some ([b= @decide p d],[])
 | .str a,.str b=>some ([b=a],[])
 | .lst t l,.lst t' l'=>(match decEq t' t with| .isTrue h=>some ([(h▸l':List t.ty)=l],[])| .isFalse _=>none)
 | .lst _ l,.sl 0 [] =>some ([l=[]],[])
 | .lst t l,.sl n cs=>(match t.decs n cs with|some l'=>some ([l'=l],[])|none=>none)
 | .ptr s off,.ptr s' off'=>(match ae off off' with|true=>some ([],[(s,some s')])|false=>none)
 | .own s t n,.own s' t' n'=>(match decEq t' t with| .isTrue _=>some ([n'=n],[(s,some s')])| .isFalse _=>none)
 | .own s _ n,.ownx s' n'=>some ([n'=n],[(s,some s')])
 | .own s _ n,.nil=>some ([n=0],[(s,none)])
 | .ownx s n,.ownx s' n'=>(match ae n n' with|true=>some ([],[(s,some s')])|false=>none)
 | .owF s n,.owF s' n'=>some ([n'=n],[(s,some s')])
 | .mp s,.mp s'=>some ([],[(s,some s')])
 | .junk,.junk=>some ([],[])
 |_,_=>none
def eqv:Nat->SV->SV->Option (List Prop×Rm)
 |d+1,.agg l,.agg r=>lR (eqv d) l r
 |d+1,.tup l,.tup r=>lR (eqv d) l r
 |d+1,.fn f a b,.fn f' a' b'=>(match ae f f',lR (eqv d) a a',lR (eqv d) b b' with
  |true,some (p,m),some (q,k)=>some (p++q,m++k)
  |_,_,_=>none)
 |_,x,y=>Cv x y
def iO(m:Rf)(r:Rm):Prop:=∀q∈r,m (aD q.1)=some (q.2.map aD)
def iO.left{m:Rf}{r k:Rm}(h:iO m (r++k)):iO m r:=λq hq=>h q (by grind)
def iO.right{m:Rf}{r k:Rm}(h:iO m (r++k)):iO m k:=λq hq=>h q (by grind)
def nN{f:SV->SV->Option (List Prop×Rm)}{m:Rf}(hf:∀x y ps r,f x y=some (ps,r)->(∀p∈ps,p)->iO m r->dW m x.av y.av):
  ∀{l k:List SV} {ps:List Prop} {r:Rm},lR f l k=some (ps,r)->(∀p∈ps,p)->iO m r->dM m (avs l) (avs k)
 |[],[],ps,r,_,_,_=>by rfl
 |[],_::_,ps,r,h,_,_=>by cases h
 |_::_,[],ps,r,h,_,_=>by cases h
 |x::l,y::k,ps,r,h,hp,hm=>by
  unfold lR at h;split at h<;>cases h;rename_i p m1 q m2 h1 h2;exact⟨_,_,rfl,hf x y p m1 h1 (λa ha=>hp a (by grind)) hm.left,nN hf h2 (λa ha=>hp a (by grind)) hm.right⟩
def Gp{m:Rf}{x y:SV}{ps:List Prop}{r:Rm}(h:Cv x y=some (ps,r))(hp:∀p∈ps,p)(hm:iO m r):dW m x.av y.av:=by
 unfold Cv at h;split at h
 .trivial
 .rfl
 .rfl
 .split at h<;>cases h;rename_i e _;subst e;rw[<-hp _ (bM.2 rfl)];rfl
 .cases h;rw[<-hp _ (bM.2 rfl)];rfl
 .cases h;rw[<-hp _ (bM.2 rfl)];rfl
 .cases h;rw[<-hp _ (bM.2 rfl)];rfl
 .cases h;rw[<-hp _ (bM.2 rfl)];rfl
 .cases h;rw[<-hp _ (bM.2 rfl)];rfl
 .cases h;rw[<-hp _ (bM.2 rfl)];rfl
 .rename_i p d q e;cases h;have hh:q↔p:=hp _ (by grind);show AV.p (.bool (decide q))=AV.p (.bool (decide p));grind
 .cases h;refine dt ?_;rw[<-hp _ (bM.2 rfl)];rfl
 .cases h;refine dt ?_;rw[<-hp _ (bM.2 rfl)];rfl
 .cases h;rw[<-hp _ (bM.2 rfl)];rfl
 .rename_i t l t' l';split at h<;>cases h;rename_i e _;subst e;have:l'=l:=hp _ (by grind);subst this;exact dt rfl
 .cases h;rename_i t l;have:l=[] :=hp _ (by grind);subst this;exact dt rfl
 .rename_i t l n cs _;split at h<;>cases h;rename_i l' hl;have:l'=l:=hp _ (by grind);subst this;obtain⟨e1,e2⟩:=LT.pO hl;show(match bJ (avs cs)with|some q=>AV.p (.sl n q)|none=> .any)=_;rw[e2,cW,e1]
 .rename_i s off s' off';split at h<;>cases h;simp only[SV.av];exact⟨aD s',hm _ (bM.2 rfl),by simp_all⟩
 .rename_i s t n s' t' n';split at h<;>cases h;have:n'=n:=hp _ (by grind);simp only[SV.av];exact .inl ⟨aD s',hm _ (bM.2 rfl),by rw[this]⟩
 .cases h;rename_i s t n s' n';have:n'=n:=hp _ (by grind);simp only[SV.av];exact .inl ⟨aD s',hm _ (bM.2 rfl),by rw[this]⟩
 .cases h;rename_i s t n;have:n=0:=hp _ (by grind);exact .inr ⟨hm _ (bM.2 rfl),rfl,rfl,this⟩
 .rename_i s n s' n';split at h<;>cases h;simp only[SV.av];exact .inl ⟨aD s',hm _ (bM.2 rfl),by simp_all⟩
 .cases h;rename_i s n s' n';have:n'=n:=hp _ (by grind);simp only[SV.av];exact .inl ⟨aD s',hm _ (bM.2 rfl),by rw[this]⟩
 .cases h;rename_i s s';exact⟨aD s',hm _ (bM.2 rfl),rfl⟩
 .exact dt rfl
 .cases h
def qk{m:Rf}:∀(d:Nat) (x y:SV) (ps:List Prop) (r:Rm),eqv d x y=some (ps,r)->(∀p∈ps,p)->iO m r->dW m x.av y.av:=by
 intro d;induction d with
 |zero=>
  intro x y ps r h hp hm;refine Gp (ps:=ps) (r:=r) ?_ hp hm;exact h
 |succ d ih=>
  intro x y ps r h hp hm;unfold eqv at h;split at h
  .rename_i d' l k e;cases e;exact vh (nN ih h hp hm)
  .rename_i d' l k e;cases e;exact zI (nN ih h hp hm)
  .rename_i d' f a b f' a' b' e;cases e;split at h<;>cases h;rename_i p m1 q m2 e h1 h2;show dW m (.fn (.func f) (avs a) (avs b)) (.fn (.func f') (avs a') (avs b'));exact⟨_,_,by simp_all,nN ih h1 (λa ha=>hp a (by grind)) hm.left,nN ih h2 (λa ha=>hp a (by grind)) hm.right⟩
  .exact Gp h hp hm
mutual
def SV.sites:SV->List Nat
 | .agg l=>lC l
 | .tup l=>lC l
 | .fn _ a b=>lC a++lC b
 | .ptr s _=>[s]
 | .pte s _ _ _=>[s]
 | .own s _ _=>[s]
 | .owns s _ _ _=>[s]
 | .ownx s _=>[s]
 | .ownf s _ _ _=>[s]
 | .ptef s _ _ _ _=>[s]
 | .ptf s _=>[s]
 | .owF s _=>[s]
 | .mp s=>[s]
 |_=>[]
def lC:List SV->List Nat
 |[] =>[]
 |x::l=>x.sites++lC l
end
def ja(m:Rf)(s:Nat):Prop:=∀a,m (inn s a)=some (some (inn s a))
mutual
theorem sW{m:Rf}:∀(v:SV),(∀s∈v.sites,ja m s)->dW m v.av v.av
 | .any,_=>by trivial
 | .undef,_=>by rfl
 | .nil,_=>by rfl
 | .int _ _,_=>dt rfl
 | .bool _,_=>dt rfl
 | .lit _,_=>dt rfl
 | .prop _ _,_=>dt rfl
 | .str _,_=>dt rfl
 | .lst _ _,_=>dt rfl
 | .pe _ _ _ _,_=>dt rfl
 | .clo1 _ _ _ _,_=>dt rfl
 | .clo2 _ _ _ _,_=>dt rfl
 | .ptb _ _ _,_=>dt rfl
 | .junk,_=>dt rfl
 | .mp s,h=>by exact⟨aD s,h s (by simp[SV.sites]) 0,rfl⟩
 | .sl n cs,_=>by
   simp only[SV.av];split
   .exact dt rfl
   .trivial
 | .pro cs off,_=>by
   simp only[SV.av];split
   .exact dt rfl
   .trivial
 | .fnp f a b,_=>by
   simp only[SV.av];split
   .exact dt rfl
   .trivial
 | .agg l,h=>by exact vh (od l h)
 | .tup l,h=>by exact zI (od l h)
 | .fn f a b,h=>by
   exact⟨_,_,rfl,od a (λs hs=>h s (by simp only[SV.sites];grind)),od b (λs hs=>h s (by simp only[SV.sites];grind))⟩
 | .ptr s off,h=>by exact⟨aD s,h s (by simp[SV.sites]) 0,rfl⟩
 | .pte s t i off,h=>by exact⟨aD s,h s (by simp[SV.sites]) 0,rfl⟩
 | .own s t n,h=>by exact .inl ⟨aD s,h s (by simp[SV.sites]) 0,rfl⟩
 | .owns s t o n,h=>by exact .inl ⟨aD s,h s (by simp[SV.sites]) 0,rfl⟩
 | .ownx s n,h=>by exact .inl ⟨aD s,h s (by simp[SV.sites]) 0,rfl⟩
 | .owF s n,h=>by exact .inl ⟨aD s,h s (by simp[SV.sites]) 0,rfl⟩
 | .ownf s t a n,h=>by exact .inl ⟨inn s (a+1),h s (by simp[SV.sites]) (a+1),rfl⟩
 | .ptf s a,h=>by exact⟨aD s,h s (by simp[SV.sites]) 0,rfl⟩
 | .ptef s t a i off,h=>by exact⟨inn s (a+1),h s (by simp[SV.sites]) (a+1),rfl⟩
theorem od{m:Rf}:∀(l:List SV),(∀s∈lC l,ja m s)->dM m (avs l) (avs l)
 |[],_=>by rfl
 |x::l,h=>by
  exact⟨_,_,rfl,sW x (λs hs=>h s (by simp only[lC];grind)),od l (λs hs=>h s (by simp only[lC];grind))⟩
end
def SOb.sites:SOb->List Nat
 | .box _ cs=>lC cs
 | .arr _ _ cs=>lC cs
 | .row .. =>[]
 | .fam _ _ _ _ ov=>ov.flatMap λq=>q.2.sites
 | .mp _=>[]
 | .mf _=>[]
 | .it _ _=>[]
def vl{ov:List (Nat×SV)}{i:Nat}{v:SV}(h:ov.lookup i=some v):(i,v)∈ov:=by
 induction ov with
 |nil=>cases h
 |cons q ov ih=>
  grind
def ji{m:Rf}(o:SOb)(x:Nat)(hx:ja m x)(h:∀s∈o.sites,ja m s):js m (o.ob x) (o.ob x):=by
 cases o with
 |box ty cs=>exact⟨rfl,rfl,od cs h⟩
 |arr ty ez cs=>exact⟨rfl,rfl,od cs h⟩
 |row ty t l=>exact⟨rfl,rfl,fX m _⟩
 |mp ks=>refine⟨rfl,rfl,?_⟩;show dM m (cB (fU ks)) (cB (fU ks));rw[oq];exact fX m _
 |mf M=>
  refine⟨rfl,rfl,?_⟩;have:∀(M:List ((Nat×Nat)×List Int)) (i:Nat),dM m (cB (mfK (λi=>inn x (i+1)) i M)) (cB (mfK (λi=>inn x (i+1)) i M)):=λM=>by
   induction M with
   |nil=>intro i;rfl
   |cons q M ih=>intro i;exact⟨_,_,rfl,rfl,_,_,rfl,.inl ⟨_,hx (i+1),rfl⟩,ih (i+1)⟩
  exact this M 0
 |it cur M=>
  refine⟨rfl,rfl,?_⟩;refine⟨_,_,rfl,⟨_,hx 1,rfl⟩,_,_,rfl,?_,_,_,rfl,⟨_,hx 0,rfl⟩,?_⟩
  .cases cur with
   |none=>trivial
   |some q=>exact⟨_,.inl rfl,fX m [_,_]⟩
  .rw[wD];exact fX m _
 |fam ty ity t L ov=>
  refine⟨rfl,rfl,nI _ _ _ λi _=> ?_⟩;unfold cu;split
  .rename_i v hv;exact sW v λs hs=>h s (List.mem_flatMap.2 ⟨(i,v),vl hv,hs⟩)
  .exact .inl ⟨_,hx (i+1),rfl⟩
def rS:SOb->SOb->Option (List Prop×Rm)
 | .box ty cs,.box ty' cs'=>(match ae ty ty' with|true=>lR (eqv 3) cs cs'|false=>none)
 | .arr ty ez cs,.arr ty' ez' cs'=>(match ae ty ty',ae ez ez' with|true,true=>lR (eqv 3) cs cs'|_,_=>none)
 | .row ty t l,.row ty' t' l'=>(match ae ty ty',decEq t' t with|true,.isTrue h=>some ([(h▸l':List t.ty)=l],[])|_,_=>none)
 | .mp ks,.mp ks'=>some ([ks'=ks],[])
 | .row ty t l,.arr ty' ez cs=>(match ae ty ty',ae ez t.w,t.decs (cs.length/t.w) cs with|true,true,some l'=>some ([l'=l],[])|_,_,_=>none)
 |_,_=>none
def FT{m:Rf}{x y:SOb}{ps:List Prop}{r:Rm}(h:rS x y=some (ps,r))(hp:∀p∈ps,p)(hm:iO m r)(k k':Nat):js m (x.ob k) (y.ob k'):=by
 unfold rS at h;split at h
 .split at h
  .rename_i e;exact⟨bp e,rfl,nN (qk 3) h hp hm⟩
  .cases h
 .split at h
  .rename_i e1 e2;exact⟨bp e1,bp e2,nN (qk 3) h hp hm⟩
  .cases h
 .split at h<;>cases h;rename_i e2 e1 _;subst e2;have:=hp _ (bM.2 rfl);subst this;exact⟨bp e1,rfl,fX m _⟩
 .cases h;have:=hp _ (bM.2 rfl);subst this;refine⟨rfl,rfl,?_⟩;show dM m (cB (fU _)) (cB (fU _));rw[oq];exact fX m _
 .split at h<;>cases h;rename_i l' e1 e2 e3;have:=hp _ (bM.2 rfl);subst this;obtain⟨_,e4⟩:=LT.pO e3;refine⟨bp e1,(bp e2).symm,?_⟩;show dM m ((LT.enc _ l').map .p) (avs _);rw[e4];exact fX m _
 .cases h
end
noncomputable section
def mem(l:List Nat)(s:Nat):Bool:=match l with
 |[] =>false
 |x::l=>(match ae s x with|true=>true|false=>mem l s)
def mem_iff(s:Nat):∀l:List Nat,mem l s=true↔s∈l
 |[] =>by simp[mem]
 |x::l=>by
  unfold mem;cases h:ae s x with
  |true=>simp_all
  |false=>simp[f9 h,mem_iff s l]
def cw{α:Type}(p:α->Bool):List α->Bool
 |[] =>true
 |x::l=>(match p x with|true=>cw p l|false=>false)
def dH{α:Type}{p:α->Bool}:∀{l:List α},cw p l=true->∀x∈l,p x=true
 |[],_,x,hx=>by cases hx
 |y::l,h,x,hx=>by
  unfold cw at h;cases hy:p y with
  |false=>grind
  |true=>
   rw[hy]at h;rcases bh.1 hx with rfl|hx
   .exact hy
   .exact dH h x hx
def fY(rk:List Nat)(N0:Nat)(s:Nat):Bool:=match dG (ncl s) N0,mem rk s with
 |true,false=>true
 |_,_=>false
def iG(F:Frm)(rk:List Nat)(N0:Nat):Frm->List Nat
 |[] =>[]
 |(d,v)::r=>(match cw (fY rk N0) v.sites with
  |true=>iG F rk N0 r
  |false=>(match cw (fY rk N0) (F.at d).sites with
   |true=>iG F rk N0 r
   |false=>d::iG F rk N0 r))
def jB(F:Frm)(upd:Frm)(hav:List Nat):Frm:=upd++(hav.map λd=>(d,SV.any))++F
def gW(L:aJ)(obs:List (Nat×SOb)):aJ:=(obs.map λq=>(q.1,some q.2))++L
def uQ(obs:List (Nat×SOb)):List Nat:=obs.map λq=>q.1
def aAj(L:aJ)(keys rk:List Nat)(N0:Nat):Bool:=cw (λ(q:Nat×Option SOb)=>match mem keys q.1 with
 |true=>true
 |false=>(match L.at q.1 with
  |none=>true
  |some ob=>(match fY rk N0 q.1 with|true=>cw (fY rk N0) ob.sites|false=>false))) L
def ri(n:Nat)(F':Frm):Frm->Option (List Prop×Rm)
 |[] =>some ([],[])
 |(d,v)::r=>(match dG d n,v.ape,eqv 3 v (F'.at d),ri n F' r with
  |true,false,some (p,m),some (q,k)=>some (p++q,m++k)
  |_,_,_,_=>none)
def xT(rk:List Nat)(s o:Nat):SOb->SOb->Option (List Prop)
 | .fam ty ity t M [],.fam ty' ity' t' M' [] =>(match ae s o,mem rk s,ae ty ty',ae ity ity',decEq t' t with
   |true,false,true,true,.isTrue h=>some [(h▸M':List (List t.ty))=M]
   |_,_,_,_,_=>none)
 | .mf M,.mf M'=>(match ae s o,mem rk s with
   |true,false=>some [M'=M]
   |_,_=>none)
 | .it none M,.it none M'=>(match ae s o,mem rk s with
   |true,false=>some [M'=M]
   |_,_=>none)
 |_,_=>none
def Gj{rk:List Nat}{s o:Nat}{x y:SOb}{ps:List Prop}(h:xT rk s o x y=some ps)(hp:∀p∈ps,p):s=o/\mem rk s=false/\x=y/\x.sites=[] :=by
 unfold xT at h;split at h
 .split at h<;>cases h;rename_i e h1 h2 h3 h4 _;subst e;have:=hp _ (bM.2 rfl);subst this;rw[bp h3,bp h4];exact⟨bp h1,h2,rfl,rfl⟩
 .split at h<;>cases h;rename_i h1 h2;have:=hp _ (bM.2 rfl);subst this;exact⟨bp h1,h2,rfl,rfl⟩
 .split at h<;>cases h;rename_i h1 h2;have:=hp _ (bM.2 rfl);subst this;exact⟨bp h1,h2,rfl,rfl⟩
 .cases h
def p7(L':aJ)(rk:List Nat):List (Nat×SOb)->Rm->Option (List Prop×Rm)
 |[],mm=>some ([],mm)
 |(s,ob)::r,mm=>(match(match mem rk s with|true=>ju mm s|false=>some (some s))with
  |none=>none
  |some none=>(match ob with
   | .row _ _ l=>(match p7 L' rk r (mm++[(s,none)])with|some (q,k)=>some ((l=[])::q,k)|none=>none)
   |_=>none)
  |some (some o)=>(match L'.at o with
   |none=>none
   |some ob'=>(match rS ob ob' with
    |none=>(match xT rk s o ob ob' with
     |none=>none
     |some p=>(match p7 L' rk r (mm++[(s,some o)])with|some (q,k)=>some (p++q,k)|none=>none))
    |some (p,m2)=>(match p7 L' rk r (mm++(s,some o)::m2)with|some (q,k)=>some (p++q,k)|none=>none))))
def eqO:Option Nat->Option Nat->Bool
 |none,none=>true
 |some a,some b=>ae a b
 |_,_=>false
def Bf{a b:Option Nat}(h:eqO a b=true):a=b:=by cases a<;>cases b<;>first|rfl|(cases h;done)|(rw[bp h])
def isO:Option (Option Nat)->Option Nat->Bool
 |some a,b=>eqO a b
 |none,_=>false
def okM(rk:List Nat)(N0 N1:Nat)(mm:Rm):Bool:=cw (λ(q:Nat×Option Nat)=>match isO (ju mm q.1) q.2,mem rk q.1 with
 |true,true=>(match dG (ncl q.1) N1,q.2 with
  |true,none=>true
  |true,some o=>(match(match dG (ncl o) N0 with|false=>true|true=>mem rk o)with
   |true=>cw (λ(q2:Nat×Option Nat)=>match eqO q2.2 (some o)with|true=>ae q2.1 q.1|false=>true) mm
   |false=>false)
  |_,_=>false)
 |true,false=>(match fY rk N0 q.1 with|true=>eqO q.2 (some q.1)|false=>false)
 |_,_=>false) mm
def aAh(N0:Nat)(keys:List Nat)(pre:aJ):Bool:=cw (λ(q:Nat×Option SOb)=>match mem keys q.1 with
 |true=>true
 |false=>(match dG (ncl q.1) N0 with|true=>false|false=>true)) pre
def aBs(rk:List Nat)(N0:Nat)(mm:Rm):Nat->Option (Option Nat):=λs=>match ju mm s with
 |some x=>some x
 |none=>(match fY rk N0 s with|true=>some (some s)|false=>none)
open Classical in
def jT(mn:Nat->Option (Option Nat))(st:Nat->Bool):Rf:=λs=>if inn (nm s) (sub s)=s then(match sub s with
 |0=>(mn (nm s)).map (Option.map aD)
 |_+1=>(match st (nm s)with|true=>some (some s)|false=>none))else none
def y7(mn:Nat->Option (Option Nat))(st:Nat->Bool)(x:Nat):jT mn st (aD x)=(mn x).map (Option.map aD):=by unfold jT aD;rw[l5,l9,if_pos rfl]
def FM(mn:Nat->Option (Option Nat))(st:Nat->Bool)(x a:Nat):jT mn st (inn x (a+1))=(match st x with|true=>some (some (inn x (a+1)))|false=>none):=by unfold jT;rw[l5,l9,if_pos rfl]
def Wl(mn:Nat->Option (Option Nat))(st:Nat->Bool){s:Nat}(h:∀x a,s≠inn x a):jT mn st s=none:=by unfold jT;grind
def xP(n:Nat)(L:aJ)(N0 N1:Nat)(rk:List Nat)(upd:Frm)(obs:List (Nat×SOb))(F':Frm)(L':aJ):Option (List Prop):=
 match ri n F' upd with
 |none=>none
 |some (p,m1)=>(match p7 L' rk obs m1 with
  |none=>none
  |some (q,m2)=>(match okM rk N0 N1 m2,aAh N0 (uQ obs) (L'.take (L'.length-L.length)),aAj L (uQ obs) rk N0,iV N0 N1 with
   |true,true,true,true=>some (p++q)
   |_,_,_,_=>none))
def FJ{m:Rm}{s:Nat}{x:Option Nat}(h:ju m s=some x):(s,x)∈m:=by
 induction m with
 |nil=>cases h
 |cons q m ih=>
  obtain⟨a,b⟩:=q;unfold ju at h;split at h
  .simp_all
  grind
def Gn{n:Nat}{F':Frm}{m:Rf}:∀{upd:Frm} {ps:List Prop} {r:Rm},ri n F' upd=some (ps,r)->(∀p∈ps,p)->iO m r->∀q∈upd,dW m q.2.av (F'.at q.1).av/\q.2.ok
 |[],ps,r,_,_,_,q,hq=>by cases hq
 |(d,v)::upd,ps,r,h,hp,hm,q,hq=>by
  unfold ri at h;split at h<;>cases h;rename_i p1 m1 p2 m2 h1 h2 h3 h4;rcases bh.1 hq with rfl|hq
  .exact⟨qk 3 _ _ _ _ h3 (λa ha=>hp a (by grind)) hm.left,SV.jt h2⟩
  .exact Gn h4 (λa ha=>hp a (by grind)) hm.right q hq
def Er{x y:SOb}{q:List Prop×Rm}(h:rS x y=some q):x.flat=true:=by unfold rS at h;cases x<;>first|rfl|grind
def wG{L':aJ}{rk:List Nat}{m:Rf}:∀{obs:List (Nat×SOb)} {mm:Rm} {ps:List Prop} {r:Rm},p7 L' rk obs mm=some (ps,r)->(∀p∈ps,p)->iO m r->
  (∃k,r=mm++k)/\∀q∈obs,(q.2.flat=true/\((∃y ob,m (aD q.1)=some (some (aD y))/\L'.at y=some ob/\js m (q.2.ob q.1) (ob.ob y))\/(m (aD q.1)=some none/\(q.2.ob q.1).esz≠0/\(q.2.ob q.1).cells=[])))\/((q.1,some q.1)∈r/\mem rk q.1=false/\L'.at q.1=some q.2/\q.2.sites=[])
 |[],mm,ps,r,h,_,_=>by unfold p7 at h;simp_all
 |(s,ob)::obs,mm,ps,r,h,hp,hm=>by
  unfold p7 at h;split at h
  .cases h
  .split at h
   .rename_i ty t l;split at h<;>cases h;rename_i q k hk;obtain⟨⟨k',e⟩,h2⟩:=wG hk (by grind) hm;refine⟨by grind,λq hq=> ?_⟩;rcases bh.1 hq with rfl|hq
    .have:m (aD s)=some none:=hm (s,none) (by rw[e];simp);have hl:l=[] :=hp _ (by grind);subst hl;exact .inl ⟨rfl,.inr ⟨this,jh t.gn,rfl⟩⟩
    grind
   .cases h
  .rename_i o hi;split at h
   .cases h
   .rename_i ob' hob;split at h
    .split at h
     .cases h
     .rename_i p hfe;split at h<;>cases h;rename_i q k hk;obtain⟨⟨k',e⟩,h2⟩:=wG hk (λa ha=>hp a (by grind)) hm;refine⟨by grind,λq hq=> ?_⟩;rcases bh.1 hq with rfl|hq
      .obtain⟨f1,f2,f3,f4⟩:=Gj hfe λa ha=>hp a (by grind);grind
      grind
    .rename_i p m2 he;split at h<;>cases h;rename_i q k hk;obtain⟨⟨k',e⟩,h2⟩:=wG hk (λa ha=>hp a (by grind)) hm;refine⟨by grind,λq hq=> ?_⟩;rcases bh.1 hq with rfl|hq
     .have:m (aD s)=some (some (aD o)):=hm (s,some o) (by rw[e];simp);refine .inl ⟨Er he,.inl ⟨o,ob',this,hob,FT he (λa ha=>hp a (by grind)) ?_ _ _⟩⟩;intro q hq;exact hm q (by grind)
     grind
def wL{F:Frm}{rk:List Nat}{N0:Nat}{d:Nat}:∀{G:Frm},(∃v,(d,v)∈G/\cw (fY rk N0) v.sites=false)->d∉iG F rk N0 G->cw (fY rk N0) (F.at d).sites=true
 |[],⟨v,h,_⟩,_=>by cases h
 |(e,u)::G,⟨v,h,hv⟩,hn=>by
  unfold iG at hn;rcases bh.1 h with h|h
  .grind
  .split at hn
   .exact wL ⟨v,h,hv⟩ hn
   .split at hn
    .exact wL ⟨v,h,hv⟩ hn
    .exact wL ⟨v,h,hv⟩ (by grind)
def Zx(F:Frm)(d:Nat):(F.at d)= .undef\/(d,F.at d)∈F:=by
 induction F with
 |nil=>exact .inl rfl
 |cons q F ih=>
  rw[Frm.cd];grind
def YO{F:Frm}{rk:List Nat}{N0 d:Nat}(h:d∉iG F rk N0 F):cw (fY rk N0) (F.at d).sites=true:=by
 rcases Zx F d with e|e
 .rw[e];rfl
 .cases hb:cw (fY rk N0) (F.at d).sites with
  |true=>rfl
  |false=>rw[<-hb];exact wL ⟨_,e,hb⟩ h
def Frm.lw(A B:Frm)(d:Nat):(Frm.at (A++B) d)=if d∈A.map (·.1)then A.at d else B.at d:=by
 induction A with
 |nil=>simp
 |cons q A ih=>
  rw[ma,Frm.cd,Frm.cd,ih];grind
def KA(l:List Nat)(d:Nat):(Frm.at (l.map λd=>(d,SV.any)) d)=if d∈l then .any else .undef:=by
 induction l with
 |nil=>rfl
 |cons e l ih=>
  rw[cV,Frm.cd,ih];grind
def rU{F:Frm}{d:Nat}(h:d∈F.map (·.1)):(d,F.at d)∈F:=by
 induction F with
 |nil=>cases h
 |cons q F ih=>
  rw[Frm.cd];grind
def aJ.lw(A B:aJ)(s:Nat):(aJ.at (A++B) s)=if s∈A.map (·.1)then A.at s else B.at s:=by
 induction A with
 |nil=>simp
 |cons q A ih=>
  obtain⟨e,v⟩:=q;show(match ae s e with|true=>v|false=>aJ.at (A++B) s)=if _ then(match ae s e with|true=>v|false=>aJ.at A s)else _;cases h:ae s e with
  |true=>simp_all
  |false=>
   have:=f9 h;grind
def aJ.rU{L:aJ}{s:Nat}{ob:SOb}(h:L.at s=some ob):(s,some ob)∈L:=by
 induction L with
 |nil=>cases h
 |cons q L ih=>
  obtain⟨e,v⟩:=q;change (match ae s e with|true=>v|false=>aJ.at L s)=some ob at h;cases hb:ae s e with
  |true=>simp_all
  |false=>grind
def HE{x:Nat}:∀{obs:List (Nat×SOb)},x∈obs.map (·.1)->∃q∈obs,q.1=x/\aJ.at (obs.map λq=>(q.1,some q.2)) x=some q.2
 |[],h=>by grind
 |q::obs,h=>by
  show∃q'∈q::obs,q'.1=x/\(match ae x q.1 with|true=>some q.2|false=>aJ.at (obs.map λq=>(q.1,some q.2)) x)=some q'.2;cases hb:ae x q.1 with
  |true=>simp_all
  |false=>
   rcases bh.1 h with h|h
   .simp_all
   .obtain⟨q',h1,h2,h3⟩:=HE h;grind
def jk{m:Rf}{o':SOb}{a:Nat}{ob':Ob}(hs:o'.inner a=some ob'):js m ob' ob':=by
 cases o' with
 |fam ty ity t LL ov=>
  change (match ov.lookup a with|some _=>none|none=>(LL[a]?).map λl=>(⟨ity,t.w,(t.enc l).map .p⟩:Ob))=some ob' at hs;split at hs
  .cases hs
  .cases hL2:LL[a]? with
   |none=>grind
   |some l=>rw[hL2]at hs;cases hs;exact⟨rfl,rfl,fX _ _⟩
 |mf M=>
  change (M[a]?).map (λq=>(⟨3,1,(LT.enc .I q.2).map .p⟩:Ob))=some ob' at hs;cases hL2:M[a]? with
  |none=>rw[hL2]at hs;cases hs
  |some l=>rw[hL2]at hs;cases hs;exact⟨rfl,rfl,fX _ _⟩
 |_=>cases hs
def FH{n:Nat}{F F' upd:Frm}{L L':aJ}{N0 N1 N':Nat}{obs:List (Nat×SOb)}{hav:List Nat}{ps:List Prop}{rk:List Nat}(h:xP n L N0 N1 rk upd obs F' L'=some ps)(hp:∀p∈ps,p)
  (hF:Pre (λd=>d∈hav) F F') (hbad:∀d∈iG F rk N0 F,d∈hav) (hL:eC L L'):
  cZ (F'.av n) L'.fn N' ((jB F upd hav).av n) (gW L obs).fn N1:=by
 unfold xP at h;split at h
 .cases h
 rename_i p1 m1 h1;split at h
 .cases h
 rename_i p2 mm h2;split at h<;>cases h;rename_i h3 h4 h5 h6
 let mn:Nat->Option (Option Nat):=aBs rk N0 mm
 let m:Rf:=jT mn (fY rk N0)
 have hokM:∀s x,(s,x)∈mm->ju mm s=some x/\((mem rk s=true/\ncl s<N1/\∀o,x=some o->(ncl o<N0->mem rk o=true)/\∀s',(s',some o)∈mm->s'=s)\/(mem rk s=false/\ncl s<N0/\x=some s)):=by
  intro s x hs;have:=dH h3 (s,x) hs;dsimp only at this;split at this
  .rename_i e1 e2;refine⟨?_,.inl ⟨e2,?_⟩⟩
   .unfold isO at e1;split at e1
    .rename_i heq;rw[heq,Bf e1]
    .cases e1
   .split at this
    .simp_all
    .rename_i o e3;refine⟨(dc _ _).1 e3,λo' ho=> ?_⟩;cases ho;split at this
     .rename_i e4;refine⟨λhlt=> ?_,λs' hs'=> ?_⟩
      .rw[(dc _ _).2 hlt]at e4;exact e4
      .have:=dH this (s',some o) hs';rw[show eqO (some o) (some o)=true from Nat.beq_refl o]at this;simp_all
     .cases this
    .cases this
  .rename_i e1 e2;split at this
   .rename_i e3;refine⟨?_,.inr ⟨e2,?_,Bf this⟩⟩
    .unfold isO at e1;split at e1
     .rename_i heq;rw[heq,Bf e1]
     .cases e1
    .unfold fY at e3;split at e3
     .simp_all
     .cases e3
   .cases this
  .cases this
 have hstay:∀s,fY rk N0 s=true->mn s=some (some s)/\ncl s<N0/\mem rk s=false:=by
  intro s hs;have:ncl s<N0/\mem rk s=false:=by
   unfold fY at hs;split at hs
   .rename_i e1 e2;exact⟨(dc _ _).1 e1,e2⟩
   .cases hs
  refine⟨?_,this⟩;show(match ju mm s with|some x=>some x|none=>_)=_;cases hl:ju mm s with
  |some x=>
   rcases(hokM s x (FJ hl)).2 with⟨e,_⟩|⟨_,_,e⟩
   .grind
   .rw[e]
  |none=>grind
 have hm:∀s x,mn s=some x->(s,x)∈mm\/(fY rk N0 s=true/\x=some s):=by
  intro s x hs;change (match ju mm s with|some x=>some x|none=>(match fY rk N0 s with|true=>some (some s)|false=>none))=some x at hs;cases hl:ju mm s with
  |some y=>rw[hl]at hs;cases hs;exact .inl (FJ hl)
  |none=>
   grind
 have hag:iO m mm:=by
  intro q hq;have:=(hokM q.1 q.2 hq).1;have e:mn q.1=some q.2:=by show(match ju mm q.1 with|some x=>some x|none=>_)=_;rw[this]
  show jT mn (fY rk N0) (aD q.1)=_;rw[y7,e];rfl
 have hst:∀s,fY rk N0 s=true->ja m s:=by
  intro s hs a;cases a with
  |zero=>show jT mn _ (aD s)=_;rw[y7,(hstay s hs).1];rfl
  |succ a=>show jT mn _ (inn s (a+1))=_;rw[FM,hs]
 have hcase:∀s x,m s=some x->(∃y z,s=aD y/\mn y=some z/\x=z.map aD)\/(∃y a,s=inn y (a+1)/\fY rk N0 y=true/\x=some s):=by
  intro s x hs;rcases gR s with⟨y,rfl⟩|⟨y,a,rfl⟩|hno
  .change jT mn _ (aD y)=some x at hs;rw[y7]at hs;cases hy:mn y with
   |none=>grind
   |some z=>grind
  .change jT mn _ (inn y (a+1))=some x at hs;rw[FM]at hs;grind
  .change jT mn _ s=some x at hs;rw[Wl _ _ hno]at hs;cases hs
 have hlt:∀s x,mn s=some x->ncl s<N1:=by
  intro s x hs;rcases hm s x hs with h|⟨h,_⟩
  .rcases(hokM s x h).2 with⟨_,e,_⟩|⟨_,e,_⟩
   .exact e
   .have:=jJ h6;omega
  .have:=(hstay s h).2.1;have:=jJ h6;omega
 obtain⟨⟨k,hk⟩,hobs⟩:=wG h2 (λa ha=>hp a (by grind)) hag;have hfst:∀y,(y,some y)∈mm->mem rk y=false->fY rk N0 y=true:=by
  intro y hy hr;rcases(hokM y _ hy).2 with⟨e,_⟩|⟨_,e,_⟩
  .grind
  .unfold fY;rw[(dc _ _).2 e,hr]
 have hag1:iO m m1:=λq hq=>hag q (by grind);have hupd:=Gn h1 (λa ha=>hp a (by grind)) hag1;have h6':=jJ h6;refine tH m ?_ ?_ (by rw[Frm.eH,Frm.eH]) ?_ ?_
 .intro s x hs;rcases hcase s x hs with⟨y,z,rfl,h,_⟩|⟨y,a,rfl,h,_⟩
  .rw[show cls (aD y)=ncl y from cP y 0];grind
  .rw[cP];grind
 .intro s s' o hs hs';have inj:∀s s' o,mn s=some (some o)->mn s'=some (some o)->s=s':=by
   intro s s' o hs hs';rcases hm s (some o) hs with h|⟨h,e⟩
   .rcases(hokM s _ h).2 with⟨e1,e2,e3⟩|⟨e1,e2,e3⟩
    .grind
    .rcases hm s' (some o) hs' with h'|⟨h',e'⟩
     .grind
     grind
   .rcases hm s' (some o) hs' with h'|⟨h',e'⟩
    .grind
    grind
  rcases hcase s _ hs with⟨y,z,rfl,h,e⟩|⟨y,a,rfl,h,e⟩
  .rcases hcase s' _ hs' with⟨y',z',rfl,h',e'⟩|⟨y',a',rfl,h',e'⟩
   .cases z with
    |none=>cases e
    |some z=>
     cases z' with
     |none=>cases e'
     |some z'=>
      have e:=gA e;have e':=gA e';have:z=z':=eL (e.symm.trans e');grind
   .cases z with
    |none=>cases e
    |some z=>
     have e:=gA e;have e':=gA e';have:=(cI (e.symm.trans e')).2;omega
  .rcases hcase s' _ hs' with⟨y',z',rfl,h',e'⟩|⟨y',a',rfl,h',e'⟩
   .cases z' with
    |none=>cases e'
    |some z'=>
     have e:=gA e;have e':=gA e';have:=(cI (e'.symm.trans e)).2;omega
   grind
 .intro t ht;rw[Frm.eH]at ht;rw[Frm.fi ht,Frm.fi ht];unfold jB;rw[Frm.lw,Frm.lw];split
  .split
   .rename_i hu;exact(hupd _ (rU hu)).1
   .rw[KA];split
    .trivial
    grind
  .rename_i hin;have hh:t∉hav:=by grind
   have hgood:=YO (λhb=>hh (hbad t hb));obtain⟨pre,e,hpre⟩:=hF;have:Frm.at F' t=Frm.at F t:=by rw[e,Frm.lw,if_neg];intro h;simp only[cF]at h;obtain⟨q,hq,e⟩:=h;grind
   rw[this];exact sW _ λs hs=>hst s (dH hgood s hs)
 .intro s ob' hs;have kept:∀x o',x∉(obs.map λq=>(q.1,some q.2)).map (·.1)->(gW L obs).at x=some o'->fY rk N0 x=true/\cw (fY rk N0) o'.sites=true/\L'.at x=some o':=by
   intro x o' hnk ho;unfold gW at ho;rw[aJ.lw,if_neg hnk]at ho;have hnk':mem (uQ obs) x=false:=by
    cases hb:mem (uQ obs) x with
    |false=>rfl
    |true=>
     exfalso;have:=(mem_iff _ _).1 hb;unfold uQ at this;grind
   have:=dH h5 _ (aJ.rU ho);dsimp only at this;rw[hnk',ho]at this;dsimp only at this;split at this
   .rename_i hst;refine⟨hst,this,?_⟩;obtain⟨pre,e⟩:=hL;rw[e,aJ.lw,if_neg,ho];intro hin;have h4':=h4;rw[e]at h4';rw[show(pre++L).length-L.length=pre.length by simp,vC]at h4';simp only[cF]at hin;obtain⟨q,hq,e2⟩:=hin;have:=dH h4' q hq;rw[e2,hnk']at this;rw[(dc _ _).2 (hstay x hst).2.1]at this;cases this
   .cases this
  have told:∀x,x∈(obs.map λq=>(q.1,some q.2)).map (·.1)->∃q∈obs,q.1=x/\(gW L obs).at x=some q.2:=by
   intro x hk;have e:(gW L obs).at x=aJ.at (obs.map λq=>(q.1,some q.2)) x:=by unfold gW;rw[aJ.lw,if_pos hk]
   rw[e];exact HE (by grind)
  rcases gR s with⟨x,rfl⟩|⟨x,a,rfl⟩|hno
  .change Sg.a (gW L obs).at (aD x)=some ob' at hs;rw[Sg.bW]at hs;by_cases hk:x∈(obs.map λq=>(q.1,some q.2)).map (·.1)
   .obtain⟨q,hq,rfl,ho⟩:=told x hk;rw[ho]at hs;cases hs;rcases hobs q hq with⟨_,⟨y,ob,g1,g2,g3⟩|⟨g1,g2,g3⟩⟩|⟨g1,g2,g3,g4⟩
    .rw[g1];exact⟨ob.ob y,by show Sg.a L'.at (aD y)=_;rw[Sg.bW,g2];rfl,g3⟩
    .grind
    .have hq':=hfst q.1 g1 g2;rw[show m (aD q.1)=some (some (aD q.1))from hst q.1 hq' 0];exact⟨q.2.ob q.1,by show Sg.a L'.at (aD q.1)=_;rw[Sg.bW,g3];rfl,ji _ q.1 (hst q.1 hq') (by grind)⟩
   .cases ho:(gW L obs).at x with
    |none=>grind
    |some o'=>
     rw[ho]at hs;cases hs;obtain⟨k1,k2,k3⟩:=kept x o' hk ho;rw[show m (aD x)=some (some (aD x))from hst x k1 0];exact⟨o'.ob x,by show Sg.a L'.at (aD x)=_;rw[Sg.bW,k3];rfl,ji _ x (hst x k1) λs hs=>hst s (dH k2 s hs)⟩
  .change Sg.a (gW L obs).at (inn x (a+1))=some ob' at hs;rw[Sg.co]at hs;by_cases hk:x∈(obs.map λq=>(q.1,some q.2)).map (·.1)
   .obtain⟨q,hq,rfl,ho⟩:=told x hk;rw[ho]at hs;rcases hobs q hq with⟨hfl,_⟩|⟨g1,g2,g3,g4⟩
    .have:=SOb.vW hfl a;grind
    .have hq':=hfst q.1 g1 g2;rw[show m (inn q.1 (a+1))=some (some (inn q.1 (a+1)))from hst q.1 hq' (a+1)];exact⟨ob',by show Sg.a L'.at (inn q.1 (a+1))=_;rw[Sg.co,g3];exact hs,jk hs⟩
   .cases ho:(gW L obs).at x with
    |none=>grind
    |some o'=>
     rw[ho]at hs;obtain⟨k1,k2,k3⟩:=kept x o' hk ho;rw[show m (inn x (a+1))=some (some (inn x (a+1)))from hst x k1 (a+1)];exact⟨ob',by show Sg.a L'.at (inn x (a+1))=_;rw[Sg.co,k3];exact hs,jk hs⟩
  .change Sg.a (gW L obs).at s=some ob' at hs;rw[Sg.fp _ hno]at hs;cases hs
end
noncomputable section
def mK(N x s z:Nat):Bool:=match dG (ncl z) N,ae z s,ae z x with
 |true,false,false=>true
 |_,_,_=>false
def t8(N x s:Nat)(v:SV):Bool:=match v with
 | .owF y _=>(match dG (ncl y) N,ae y s with|true,false=>true|_,_=>false)
 |v=>cw (mK N x s) v.sites
def gG(N x s:Nat)(v:SV):Bool:=match v with
 | .agg l=>cw (t8 N x s) l
 |v=>t8 N x s v
def ia(N x s y:Nat)(ob:SOb):Bool:=match mK N x s y with
 |true=>(match ob with
  | .box _ cs=>cw (gG N x s) cs
  | .arr _ _ cs=>cw (gG N x s) cs
  | .row .. =>true
  | .mp _=>true
  | .mf _=>true
  | .it _ _=>true
  | .fam _ _ _ _ ov=>cw (λq:Nat×SV=>gG N x s q.2) ov)
 |false=>false
open Classical in
def eo(N x a s:Nat):Rf:=λt=>if cls t<N then(if t=inn x (a+1)then some (some (aD s))else if t=aD s then none else some (some t))else none
def ko{N x s z:Nat}(h:mK N x s z=true):ncl z<N/\z≠s/\z≠x:=by
 unfold mK at h;split at h
 .rename_i h1 h2 h3;exact⟨(dc _ _).1 h1,f9 h2,f9 h3⟩
 .cases h
def Fp{N x a s t:Nat}(h1:cls t<N)(h2:t≠inn x (a+1))(h3:t≠aD s):eo N x a s t=some (some t):=by unfold eo;grind
def kJ{N x a s z:Nat}(h1:ncl z<N)(h2:z≠s):eo N x a s (aD z)=some (some (aD z)):=
 Fp (by rw[show cls (aD z)=ncl z from cP z 0];exact h1) (λe=>by have:=(cI e).2;omega) (λe=>h2 (eL e))
def kk{N x a s z b:Nat}(h1:ncl z<N)(h2:z=x->b≠a):eo N x a s (inn z (b+1))=some (some (inn z (b+1))):=
 Fp (by rw[cP];exact h1) (λe=>h2 (cI e).1 (by have:=(cI e).2;omega)) (λe=>by have:=(cI e).2;omega)
def qL{N x a s z:Nat}(h:mK N x s z=true):ja (eo N x a s) z:=by
 obtain⟨h1,h2,h3⟩:=ko h;intro b;cases b with
 |zero=>exact kJ h1 h2
 |succ b=>exact kk h1 (by grind)
def El{N x a s:Nat}{v:SV}(h:t8 N x s v=true):dW (eo N x a s) v.av v.av:=by
 unfold t8 at h;split at h
 .rename_i y n;split at h
  .rename_i h1 h2;exact .inl ⟨_,kJ ((dc _ _).1 h1) (f9 h2),rfl⟩
  .cases h
 .exact sW v λz hz=>qL (dH h z hz)
def EK{N x a s:Nat}:∀{cs:List SV},(∀v∈cs,t8 N x s v=true)->dM (eo N x a s) (avs cs) (avs cs)
 |[],_=>by rfl
 |v::cs,h=>by
  exact⟨_,_,rfl,El (by grind),EK (by grind)⟩
def ow{N x a s:Nat}{v:SV}(h:gG N x s v=true):dW (eo N x a s) v.av v.av:=by
 unfold gG at h;split at h
 .exact vh (EK (dH h))
 .exact El h
def sR{N x a s:Nat}:∀{cs:List SV},(∀v∈cs,gG N x s v=true)->dM (eo N x a s) (avs cs) (avs cs)
 |[],_=>by rfl
 |v::cs,h=>by
  exact⟨_,_,rfl,ow (by grind),sR (by grind)⟩
def nZ(F:Frm)(t:Nat):∀hav:List Nat,Frm.at ((hav.map λd=>(d,SV.any))++F) t=SV.any\/(t∉hav/\Frm.at ((hav.map λd=>(d,SV.any))++F) t=F.at t)
 |[] =>by grind
 |d::hav=>by
  rw[cV,ma,Frm.cd];by_cases h:t=d
  .grind
  .rw[if_neg h];rcases nZ F t hav with h1|⟨h1,h2⟩
   .exact .inl h1
   grind
def vN{a i:Nat}(h:i≠a):∀ov:List (Nat×SV),(ov.filter λq=> !(ae q.1 a)).lookup i=ov.lookup i
 |[] =>rfl
 |q::ov=>by
  rw[u9,dJ];cases hq:ae q.1 a with
  |true=>
   have:=bp hq;rw[if_neg (by simp),vN h ov,beq_eq_false_iff_ne.2 (by omega)]
  |false=>
   rw[if_pos (by simp),dJ,vN h ov]
def vM{a:Nat}:∀ov:List (Nat×SV),(ov.filter λq=> !(ae q.1 a)).lookup a=none
 |[] =>rfl
 |q::ov=>by
  rw[u9];cases hq:ae q.1 a with
  |true=>exact vM ov
  |false=>rw[if_pos (by simp),dJ,beq_eq_false_iff_ne.2 (λe=>f9 hq e.symm)];exact vM ov
def UL{n N0 N x a s k:Nat}{F:Frm}{L:aJ}{ty ity:TypeId}{lt:LT}{M:List (List lt.ty)}{l:List lt.ty}{ov:List (Nat×SV)}{hav:List Nat}
  (hx:L.at x=some (.fam ty ity lt M ((a,.own s lt k)::ov))) (hs:L.at s=some (.row ity lt l)) (ha:a<M.length) (hk:k=l.length) (hxN:ncl x<N)
  (hov:∀q∈ov,q.1≠a->gG N x s q.2=true) (hF:∀t,t<n->t∈hav\/gG N x s (F.at t)=true) (hL:∀y ob,L.at y=some ob->y=x\/y=s\/ia N x s y ob=true):
  cZ (F.av n) L.fn N0 (Frm.av n ((hav.map λd=>(d,SV.any))++F)) (aJ.fn ((x,some (.fam ty ity lt (M.set a l) (ov.filter λq=> !(ae q.1 a))))::(s,none)::L)) N:=by
 have hxs:x≠s:=λe=>by grind
 refine tH (eo N x a s) ?_ ?_ (by rw[Frm.eH,Frm.eH]) ?_ ?_
 .intro t y ht;unfold eo at ht;grind
 .intro t t' o ht ht';unfold eo at ht ht';grind
 .intro t ht;rw[Frm.eH]at ht;rw[Frm.fi ht,Frm.fi ht];rcases nZ F t hav with h|⟨h1,h2⟩
  .rw[h];trivial
  .rw[h2];exact ow (by grind)
 .intro t ob' ht;have hat:∀y,aJ.at ((x,some (.fam ty ity lt (M.set a l) (ov.filter λq=> !(ae q.1 a))))::(s,none)::L) y=if y=x then some (.fam ty ity lt (M.set a l) (ov.filter λq=> !(ae q.1 a)))else if y=s then none else L.at y:=by
   intro y;show(match ae y x with|true=>_|false=>(match ae y s with|true=>_|false=>_))=_;cases h1:ae y x with
   |true=>simp_all
   |false=>
    rw[if_neg (f9 h1)];cases h2:ae y s with
    |true=>simp_all
    |false=>rw[if_neg (f9 h2)]
  have hset:∀i,i≠a->(M.set a l).getD i [] =M.getD i [] :=by grind
  have hseta:(M.set a l).getD a [] =l:=by rw[bq,List.getElem?_set_self ha];rfl
  have hcons:∀i,i≠a->cL i ((a,SV.own s lt k)::ov)=ov.lookup i:=by grind
  rcases gR t with⟨y,rfl⟩|⟨y,b,rfl⟩|hno
  .change Sg.a _ (aD y)=some ob' at ht;rw[Sg.bW,hat y]at ht;by_cases hyx:y=x
   .subst hyx;rw[if_pos rfl]at ht;have ht:=gA ht;rw[kJ hxN hxs];refine⟨_,by show Sg.a L.at (aD y)=_;rw[Sg.bW,hx];rfl,?_⟩;rw[<-ht];refine⟨rfl,rfl,?_⟩;show dM _ ((bO (M.set a l).length).map (cu y (M.set a l) (ov.filter λq=> !(ae q.1 a)))) ((bO M.length).map (cu y M ((a,.own s lt k)::ov)));rw[fA];refine nI _ _ _ λi _=> ?_;unfold cu;by_cases hi:i=a
    .subst hi;rw[vM,dJ,beq_iff_eq.2 rfl,hseta];show dW _ (.own (inn y (i+1)) 0 l.length) (.own (aD s) 0 k);refine .inl ⟨aD s,?_,by rw[hk]⟩;unfold eo;rw[if_pos (by rw[cP];exact hxN),if_pos rfl]
    .rw[vN hi,hcons i hi,hset i hi];cases ho:ov.lookup i with
     |some v=>exact ow (hov (i,v) (vl ho) hi)
     |none=>
      exact .inl ⟨_,kk hxN λ_=>hi,rfl⟩
   .rw[if_neg hyx]at ht;by_cases hys:y=s
    .grind
    .rw[if_neg hys]at ht;cases ho:L.at y with
     |none=>grind
     |some ob=>
      rw[ho]at ht;have ht:=gA ht;have hk':=((hL y ob ho).resolve_left hyx).resolve_left hys;unfold ia at hk';split at hk'
      case h_2=>cases hk'
      rename_i hz;rw[kJ (ko hz).1 hys];refine⟨_,by show Sg.a L.at (aD y)=_;rw[Sg.bW,ho];rfl,?_⟩;rw[<-ht];split at hk'
      .exact⟨rfl,rfl,sR (dH hk')⟩
      .exact⟨rfl,rfl,sR (dH hk')⟩
      .exact⟨rfl,rfl,fX _ _⟩
      .refine⟨rfl,rfl,?_⟩;show dM _ (cB (fU _)) (cB (fU _));rw[oq];exact fX _ _
      .exact ji (.mf _) y (qL hz) (λs hs=>(dg hs).elim)
      .exact ji (.it _ _) y (qL hz) (λs hs=>(dg hs).elim)
      .refine⟨rfl,rfl,nI _ _ _ λi _=> ?_⟩;unfold cu;split
       .rename_i v hv;exact ow (dH hk' (i,v) (vl hv))
       .exact .inl ⟨_,kk (ko hz).1 (by grind),rfl⟩
  .change Sg.a _ (inn y (b+1))=some ob' at ht;rw[Sg.co,hat y]at ht;by_cases hyx:y=x
   .subst hyx;rw[if_pos rfl]at ht;change (match cL b (ov.filter λq=> !(ae q.1 a))with|some _=>none|none=>((M.set a l)[b]?).map λl=>(⟨ity,lt.w,(lt.enc l).map .p⟩:Ob))=some ob' at ht;by_cases hb:b=a
    .subst hb;rw[vM,List.getElem?_set_self ha]at ht;have ht:=gA ht;have hm:eo N y b s (inn y (b+1))=some (some (aD s)):=by unfold eo;rw[if_pos (by rw[cP];exact hxN),if_pos rfl]
     rw[hm];refine⟨_,by show Sg.a L.at (aD s)=_;rw[Sg.bW,hs];rfl,?_⟩;rw[<-ht];exact⟨rfl,rfl,fX _ _⟩
    .rw[vN hb,List.getElem?_set_ne (Ne.symm hb)]at ht;rw[kk hxN λ_=>hb];refine⟨ob',?_,?_⟩
     .show Sg.a L.at (inn y (b+1))=_;rw[Sg.co,hx];show(match cL b ((a,SV.own s lt k)::ov)with|some _=>none|none=>(M[b]?).map λl=>(⟨ity,lt.w,(lt.enc l).map .p⟩:Ob))=_;grind
     .split at ht
      .cases ht
      .cases hM:M[b]? with
       |none=>grind
       |some l'=>
        rw[hM]at ht;rw[<-gA ht];exact⟨rfl,rfl,fX _ _⟩
   .rw[if_neg hyx]at ht;by_cases hys:y=s
    .grind
    .rw[if_neg hys]at ht;cases ho:L.at y with
     |none=>grind
     |some ob=>
      have hk':=((hL y ob ho).resolve_left hyx).resolve_left hys;unfold ia at hk';split at hk'
      case h_2=>cases hk'
      rename_i hz;rw[kk (ko hz).1 (by grind)];rw[ho]at ht;refine⟨ob',by show Sg.a L.at (inn y (b+1))=_;rw[Sg.co,ho];exact ht,?_⟩;exact jk (o':=ob) ht
  .change Sg.a _ t=some ob' at ht;rw[Sg.fp _ hno]at ht;cases ht
def EM{a:Nat}:∀{ov:List (Nat×SV)},(∀p∈jC ov a,p)->(ov.filter λq=> !(ae q.1 a))=ov
 |[],_=>rfl
 |q::ov,h=>by
  have h1:a≠q.1:=h _ eG;have h2:ae q.1 a=false:=by
   cases hb:ae q.1 a with
   |true=>simp_all
   |false=>rfl
  rw[u9,if_pos (by rw[h2];rfl),EM λp hp=>h p (dK _ hp)]
def rn(N x s:Nat)(F:Frm):Frm->List Nat
 |[] =>[]
 |(d,_)::r=>match gG N x s (F.at d)with
  |true=>rn N x s F r
  |false=>d::rn N x s F r
def AQ{N x s t:Nat}{F:Frm}:∀{G:Frm},t∈G.map (·.1)->t∈rn N x s F G\/gG N x s (F.at t)=true
 |[],h=>by grind
 |(d,v)::G,h=>by
  unfold rn;cases hk:gG N x s (F.at d)with
  |true=>
   rcases bh.1 h with h|h
   .grind
   .exact AQ h
  |false=>
   rcases bh.1 h with h|h
   .grind
   .rcases AQ (G:=G) h with h|h
    .exact .inl (dK _ h)
    grind
def J5{t:Nat}:∀{G:Frm},t∉G.map (·.1)->G.at t=Frm.at [] t
 |[],_=>rfl
 |(d,v)::G,h=>by
  rw[Frm.cd,if_neg (by grind),J5 (by grind)]
def tJ(N x:Nat)(F:Frm)(L:aJ):Option (List Prop×Frm×aJ):=match L.at x with
 |some (.fam ty ity lt M ((a,.own s lt' k)::ov))=>(match L.at s with
  |some (.row ity' lt2 l)=>(match decEq lt' lt,decEq lt2 lt,ae ity' ity,dG (ncl x) N,cw (λq:Nat×SV=>gG N x s q.2) ov,cw (λq:Nat×Option SOb=>match ae q.1 x,ae q.1 s,L.at q.1 with|false,false,some ob=>ia N x s q.1 ob|_,_,_=>true) L with
   | .isTrue _,.isTrue h,true,true,true,true=>some ((a<M.length)::(k=l.length)::jC ov a,((rn N x s F F).map λd=>(d,SV.any))++F,(x,some (.fam ty ity lt (M.set a (h▸l:List lt.ty)) ov))::(s,none)::L)
   |_,_,_,_,_,_=>none)
  |_=>none)
 |_=>none
def J6{y:Nat}{ob:SOb}:∀{L:aJ},L.at y=some ob->∃q∈L,q.1=y
 |[],h=>by cases h
 |(k,o)::L,h=>by
  cases hb:ae y k with
  |true=>simp_all
  |false=>
   have:aJ.at L y=some ob:=by change (match ae y k with|true=>o|false=>aJ.at L y)=some ob at h;rw[hb]at h;exact h
   obtain⟨q,h1,h2⟩:=J6 this;grind
def Sn{n N0 N x:Nat}{F F':Frm}{L L':aJ}{ps:List Prop}(h:tJ N x F L=some (ps,F',L'))(hp:∀p∈ps,p):cZ (F.av n) L.fn N0 (F'.av n) L'.fn N:=by
 unfold tJ at h;split at h
 case h_2=>cases h
 rename_i ty ity lt M a s lt' k ov hx;split at h
 case h_2=>cases h
 rename_i ity' lt2 l hs;split at h
 case h_2=>cases h
 rename_i e1 e2 _ _ hi hN hov hL;subst e1;subst e2;cases h;have hi:=bp hi;subst hi;have hne:∀p∈jC ov a,p:=by grind
 have:=UL (n:=n) (N0:=N0) (N:=N) (F:=F) (hav:=rn N x s F F) hx hs (hp _ (by grind)) (hp _ (by grind)) ((dc _ _).1 hN) (λq hq _=>dH hov q hq) (λt _=> ?_) (λy ob ho=> ?_)
 .rw[EM hne]at this;exact this
 .by_cases hm:t∈F.map (·.1)
  .exact AQ hm
  .right;rw[J5 hm];rfl
 .obtain⟨q,hq,rfl⟩:=J6 ho;have:=dH hL q hq;split at this
  .grind
  .by_cases hx':q.1=x
   .omega
   .by_cases hs':q.1=s
    .omega
    .have b1:ae q.1 x=false:=by
      cases hb:ae q.1 x with
      |true=>exact absurd (bp hb) hx'
      |false=>rfl
     have b2:ae q.1 s=false:=by
      cases hb:ae q.1 s with
      |true=>exact absurd (bp hb) hs'
      |false=>rfl
     grind
def pf(N:Nat):Nat->List Nat->Frm->aJ->List Prop×Frm×aJ
 |0,_,F,L=>([],F,L)
 |_+1,[],F,L=>([],F,L)
 |f+1,x::xs,F,L=>match tJ N x F L with
  |some (ps,F',L')=>(match pf N f (x::xs) F' L' with|(qs,r)=>(ps++qs,r))
  |none=>pf N f xs F L
def yx{n N:Nat}:∀{f:Nat} {xs:List Nat} {F F':Frm} {L L':aJ} {ps:List Prop},pf N f xs F L=(ps,F',L')->(∀p∈ps,p)->∀N0,(ps=[]/\F'=F/\L'=L)\/cZ (F.av n) L.fn N0 (F'.av n) L'.fn N
 |0,xs,F,F',L,L',ps,h,_,_=>by cases h;grind
 |f+1,[],F,F',L,L',ps,h,_,_=>by cases h;grind
 |f+1,x::xs,F,F',L,L',ps,h,hp,N0=>by
  unfold pf at h;split at h
  .rename_i p1 F1 L1 h1;split at h;rename_i qs r h2;cases h;have w1:=Sn (n:=n) (N0:=N0) h1 λp hq=>hp p (by grind);rcases yx (n:=n) h2 (λp hq=>hp p (by grind)) N with⟨_,rfl,rfl⟩|w2
   .exact .inr w1
   .exact .inr λC0 B wI a w hst=>w2 C0 B wI a w (w1 C0 B wI a w hst)
  .exact yx h hp N0
def S8{N x:Nat}{F F':Frm}{L L':aJ}{ps:List Prop}(h:tJ N x F L=some (ps,F',L')):(∃p,F'=p++F)/\∃q,L'=q++L:=by
 unfold tJ at h;split at h
 case h_2=>cases h
 split at h
 case h_2=>cases h
 split at h
 case h_2=>cases h
 cases h;exact⟨⟨_,rfl⟩,⟨[(_,_),(_,_)],rfl⟩⟩
def zC{N:Nat}:∀{f:Nat} {xs:List Nat} {F F':Frm} {L L':aJ} {ps:List Prop},pf N f xs F L=(ps,F',L')->(∃p,F'=p++F)/\∃q,L'=q++L
 |0,xs,F,F',L,L',ps,h=>by cases h;simp_all
 |f+1,[],F,F',L,L',ps,h=>by cases h;simp_all
 |f+1,x::xs,F,F',L,L',ps,h=>by
  unfold pf at h;split at h
  .rename_i p1 F1 L1 h1;split at h;rename_i qs r h2;obtain⟨⟨p,e1⟩,⟨q,e2⟩⟩:=S8 h1;obtain⟨⟨p',e3⟩,⟨q',e4⟩⟩:=zC h2;grind
  .exact zC h
def Bb:aJ->List Nat
 |[] =>[]
 |(k,some (.fam ..))::L=>k::Bb L
 |_::L=>Bb L
end
end Go.Proofs.YtdnhebjljnfjaaaGreat
