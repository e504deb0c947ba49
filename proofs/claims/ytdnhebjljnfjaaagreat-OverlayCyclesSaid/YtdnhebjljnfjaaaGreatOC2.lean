/- Part 2 of what the statement stands on -/
import Derived.Test.YtdnhebjljnfjaaaGreatOC1
import Derived.MapKept
import Derived.Maps.RangeRun
import Derived.IntWalk
set_option linter.all false
set_option maxRecDepth 100000
set_option maxHeartbeats 8000000
open Go.Value renaming int->cw,agg->uW
open Go.Op renaming equal->uK,operands->b8,equalIn->jV,maxDepth->CY
open List renaming map_cons->cO,cons.injEq->mG,all_eq_true->dY,getElem_of_mem->iA,mem_map->cC,pairwise_cons->ju,lookup->cH,getElem?_eq_getElem->c8,map_append->dQ,mem_append->d7,getElem?_eq_some_iff->nj,ext_getElem?->i7,getElem?_set->gh,getElem?_map->dH,getElem?_eq_none->d8,mem_append_left->fu,mem_append_right->ff,length_eq_zero_iff->iZ,nodup_cons->jy,filter_cons->uS,mem_of_getElem?->pM,mem_singleton->bO,flatMap_cons->pN,length_append->dj,length_cons->hZ,flatMap_append->uU,length_take->fS,take_left->uV,take_append_drop->lK,take_of_length_le->ib,drop_eq_nil_of_le->QZ,range->bN,length_map->dt,map_drop->uX,map_take->rI,getElem?_range->iK,getD_eq_getElem?_getD->b9,lookup_cons->dD,map_map->gS,mem_cons_self->eC,mem_cons_of_mem->dR,ext_getElem->Cn,append_assoc->jz,set_append_right->Co,replicate->bT,mem_cons->bh,length_replicate->mH,map_congr_left->mI,replicate_succ->nc,length->fe,length_drop->Cp,take_length->iM,drop_zero->mJ,getElem_map->uY,not_mem_nil->dP,nil_append->pK,append_nil->jW,map_nil->lI,isEmpty_iff->Cr,length_set->fB,cons_append->mF
open Prod renaming mk.injEq->pI
open Go.Sem renaming run_bind->bk,run_pure->cG,run->eJ
open Go.Result renaming andThen_ok->bq,andThen->pL
open Go.World renaming block_lt_of_cell?->ft,cell?_of_block->gQ,setRow->uO
open Nat renaming decEq->ia,lt_or_ge->jT,zero_add->gR,le_refl->bD,le_trans->cZ,add_mul->lJ,min_eq_left->rH,mul_le_mul_right->uP,mod_eq_of_lt->mC,beq->af,ne_of_beq_eq_false->fw,blt->dB,ble->iL,mod_lt->fJ,le_of_ble_eq_true->jA,eq_of_beq_eq_true->bm,add_assoc->na,ne_of_gt->j4,add_zero->rF
open Option renaming some.injEq->fL,bind_eq_some_iff->jw,map_eq_some_iff->iJ,map_some->dV,bind_some->kV,some.inj->fx
open Array renaming getElem?_setIfInBounds->pH,map->nf,toList_inj->kW,toList_filter->Cm
open Go.Call renaming operands->fq
open Go.Deferred renaming ofValue->ng
open Go.Act renaming put->kU
open Bool renaming not_true->xW,false_eq_true->nY,and_eq_true->cB
open Go.Proofs.Tryz renaming prog->aH
open Go.IntKind renaming i64->dm
open Int renaming toNat_natCast->kX,le_refl->Cq
open Go.RowKit
open Go.Proofs.YtdnhebjljnfjaaaGreat.Geo
open Go.Proofs.YtdnhebjljnfjaaaGreat.Geo renaming nth->aB0
namespace Go.Proofs.YtdnhebjljnfjaaaGreat
section
def agI(xs:List Int):Value:= .agg (xs.map (cw .i64)).toArray
structure MKey(P:Program)(k:TypeId)(m:Nat):Prop where
 check:∀(w:World) (em:Bool) (xs:List Int),xs.length=m->(Instr.checkKey em 10000 k (agI xs)).run P w= .ok () w
 eq:∀(w:World) (xs ys:List Int),xs.length=m->ys.length=m->(uK k (agI xs) (agI ys)).run P w= .ok (xs==ys) w
 now:∃d,P.underlying k=some d/\∀a b:Array Value,Instr.sameNow d (.agg a) (.agg b)=none
variable {P:Program}
def gq(es:List MapEntry)(ks:List (List Int×Value)):Prop:=es.map (λe=>(e.key,e.val))=ks.map λq=>(agI q.1,q.2)
def Fr{k:TypeId}{m:Nat}(K:MKey P k m)(w:World)(xs:List Int)(hx:xs.length=m):∀(es:List MapEntry) (ks:List (List Int×Value)) (i:Nat),gq es ks->(∀q∈ks,q.1.length=m)->
  ((Instr.findAsking k (agI xs) es i).run P w= .ok none w/\∀q∈ks,q.1≠xs)\/∃j v,(Instr.findAsking k (agI xs) es i).run P w= .ok (some (i+j,v)) w/\ks[j]? =some (xs,v)
 |[],ks,i,h,_=>by
  have:ks=[] :=by simpa using h.symm
  subst this;exact .inl ⟨rfl,by grind⟩
 |e::es,ks,i,h,hl=>by
  cases ks with
  |nil=>unfold gq at h;simp at h
  |cons q ks=>
   unfold gq at h;simp only[cO,mG,pI]at h;obtain⟨⟨h1,h2⟩,h3⟩:=h;unfold Instr.findAsking;simp only[bk,h1,K.eq w xs q.1 hx (by grind),bq];by_cases hq:xs=q.1
   .right;refine⟨0,q.2,?_,by rw[hq];rfl⟩;simp_all
   .rcases Fr K w xs hx es ks (i+1) h3 (by grind)with⟨h4,h5⟩|⟨j,v,h4,h5⟩
    .grind
    .exact .inr ⟨j+1,v,by grind,h5⟩
def Fq{k:TypeId}{m:Nat}(K:MKey P k m)(w:World)(xs:List Int)(hx:xs.length=m)(es:List MapEntry)(ks:List (List Int×Value))(h:gq es ks)(hl:∀q∈ks,q.1.length=m):
  ((Instr.findKey k (agI xs) es).run P w= .ok none w/\∀q∈ks,q.1≠xs)\/∃j v,(Instr.findKey k (agI xs) es).run P w= .ok (some (j,v)) w/\ks[j]? =some (xs,v):=by
 obtain⟨d,hd,hn⟩:=K.now;unfold Instr.findKey;simp only[bk,run_underlying hd,bq];cases es with
 |nil=>
  left;have:ks=[] :=by simpa using h.symm
  subst this;exact⟨rfl,by grind⟩
 |cons e es=>
  have h1:Instr.findNow d (agI xs) (e::es) 0=none:=by
   unfold Instr.findNow;cases ks with
   |nil=>unfold gq at h;simp at h
   |cons q ks=>
    unfold gq at h;simp only[cO,mG,pI]at h;rw[h.1.1];unfold agI;rw[hn]
  rw[h1];simpa using Fr K w xs hx (e::es) ks 0 h hl
def RP(xs:List Int):Instr.sameBits 10000 (agI xs) (agI xs)=true:=by unfold agI Instr.sameBits;simp only[beq_self_eq_true,Bool.true_and,dY];rintro⟨x,y⟩ h;obtain⟨i,hi,e⟩:=iA h;simp only[List.getElem_zip,pI]at e;obtain⟨rfl,rfl⟩:=e;simp[Instr.sameBits]
def T3(xs:List Int)(w:World):(Instr.keyThatStays (agI xs) (agI xs)).run P w= .ok (agI xs) w:=by unfold Instr.keyThatStays;rw[if_pos (RP xs)];rfl
def bu(ks:List (List Int×AV)):List AV:=ks.flatMap λq=>[.p (.agg (eL q.1)),q.2]
def Fh{C:bH}:∀{xs:List Int} {vs:List Value},bL C (eL xs) vs->vs=xs.map (cw .i64)
 |[],vs,h=>by exact h
 |x::xs,vs,h=>by
  unfold eL at h;obtain⟨v,r,rfl,h1,h2⟩:=h;rw[h1,Fh (xs:=xs) h2];rfl
def AD{ρ:Ren}{C:bH}{xs:List Int}{v:Value}(h:aR ρ C (.p (.agg (eL xs))) v):v=agI xs:=by obtain⟨vs,rfl,h1,_⟩:=h;rw[Fh h1];rfl
def Vf{ρ:Ren}{C:bH}(xs:List Int):aR ρ C (.p (.agg (eL xs))) (agI xs):=by
 refine⟨_,rfl,?_,λu hu=> ?_⟩
 .induction xs with
  |nil=>rfl
  |cons x xs ih=>exact⟨_,_,rfl,by rfl,ih⟩
 .obtain⟨x,_,rfl⟩:=cC.1 hu;rfl
def zN{ρ:Ren}{C:bH}:∀{ks:List (List Int×AV)} {es:List MapEntry},ap ρ C (bu ks) (es.flatMap λe=>[e.key,e.val])->
  ∃kv:List (List Int×Value),gq es kv/\kv.length=ks.length/\∀(j:Nat) q,ks[j]? =some q->∃v,kv[j]? =some (q.1,v)/\aR ρ C q.2 v
 |[],es,h=>by
  unfold bu at h;unfold ap at h;cases es with
  |nil=>exact⟨[],rfl,rfl,by grind⟩
  |cons e es=>simp at h
 |q::ks,es,h=>by
  unfold bu at h;cases es with
  |nil=>unfold ap at h;grind
  |cons e es=>
   obtain⟨v,r,h1,h2,h3⟩:=h;cases h1;obtain⟨v,r,h1,h4,h5⟩:=h3;cases h1;obtain⟨kv,g1,g2,g3⟩:=zN (ks:=ks) (es:=es) h5;refine⟨(q.1,e.val)::kv,?_,by simp[g2],?_⟩
   .unfold gq at*;simp only[cO,g1,AD h2]
   grind
def Gz{ρ:Ren}{C:bH}:∀{ks:List (List Int×AV)} {es:List MapEntry} {kv:List (List Int×Value)},gq es kv->kv.length=ks.length->(∀(j:Nat) q,ks[j]? =some q->∃v,kv[j]? =some (q.1,v)/\aR ρ C q.2 v)->
  ap ρ C (bu ks) (es.flatMap λe=>[e.key,e.val])
 |[],es,kv,h,hl,_=>by
  have:kv=[] :=by grind
  subst this;unfold gq at h;have:es=[] :=by simpa using h
  subst this;rfl
 |q::ks,es,kv,h,hl,hk=>by
  cases kv with
  |nil=>simp at hl
  |cons p kv=>
   cases es with
   |nil=>unfold gq at h;simp at h
   |cons e es=>
    unfold gq at h;simp only[cO,mG,pI]at h;obtain⟨⟨h1,h2⟩,h3⟩:=h;obtain⟨v,h4,h5⟩:=hk 0 q rfl;simp at h4;subst h4;refine⟨_,_,rfl,by rw[h1];exact Vf q.1,?_⟩;exact⟨_,_,rfl,by grind,Gz (ks:=ks) (kv:=kv) h3 (by grind) λj q' hj=>by simpa using hk (j+1) q' (by grind)⟩
def jH:List (List Int×AV)->List Int->AV->AV
 |[],_,z=>z
 |q::ks,xs,z=>if q.1=xs then q.2 else jH ks xs z
def fk:List (List Int×AV)->List Int->AV->List (List Int×AV)
 |[],xs,v=>[(xs,v)]
 |q::ks,xs,v=>if q.1=xs then(xs,v)::ks else q::fk ks xs v
def mB(ks:List (List Int×AV)):Prop:=ks.Pairwise λp q=>p.1≠q.1
def yg:∀{ks:List (List Int×AV)} {xs:List Int} {z:AV},(∀q∈ks,q.1≠xs)->jH ks xs z=z
 |[],_,_,_=>rfl
 |q::ks,xs,z,h=>by unfold jH;rw[if_neg (by grind)];exact yg (by grind)
def vQ:∀{ks:List (List Int×AV)} {xs:List Int} {v:AV},(∀q∈ks,q.1≠xs)->fk ks xs v=ks++[(xs,v)]
 |[],_,_,_=>rfl
 |q::ks,xs,z,h=>by unfold fk;rw[if_neg (by grind),vQ (by grind)];rfl
def Fe:∀{ks:List (List Int×AV)} {xs:List Int} {v z:AV} {j:Nat},mB ks->ks[j]? =some (xs,v)->jH ks xs z=v
 |[],_,_,_,_,_,h=>by simp at h
 |q::ks,xs,v,z,0,_,h=>by simp at h;unfold jH;grind
 |q::ks,xs,v,z,j+1,hd,h=>by
  unfold mB at hd;rw[ju]at hd;unfold jH;rw[if_neg (by grind)];exact Fe hd.2 h
def Gf:∀{ks:List (List Int×AV)} {xs:List Int} {u v:AV} {j:Nat},mB ks->ks[j]? =some (xs,u)->fk ks xs v=ks.set j (xs,v)
 |[],_,_,_,_,_,h=>by simp at h
 |q::ks,xs,u,v,0,_,h=>by simp at h;unfold fk;grind
 |q::ks,xs,u,v,j+1,hd,h=>by
  unfold mB at hd;rw[ju]at hd;unfold fk;rw[if_neg (by grind),Gf hd.2 h];rfl
variable {o:Oper} {E:Operand->AV} {σ:Nat->Option Ob} {n:Nat}
def Db{t:TypeId}(ho:o.op= .makeMap t none):bB P o E σ n (.mp (sit n 0)) [] [(sit n 0,some ⟨1,0,[]⟩)] :=by
 intro C0 ρ g V w B hs hB _ hn hgn hE;have hcl:∀s,cls s≠n->s≠sit n 0:=λs h e=>h (by rw[e];exact fF n 0);generalize sit n 0=m at*;have hrun:(execOp (bG V) o).run P w= .ok (.value (.map (some w.heap.size))) (w.alloc (.map #[] 0)):=by unfold execOp;rw[ho];rfl
 unfold cR;rw[hrun];have hblk:(w.alloc (.map #[] 0)).heap[w.heap.size]? =some (.map #[] 0):=heap_alloc_new w _
 let ρ':Ren:=λs=>if s=m then some (none,w.heap.size)else ρ s
 have hext:∀s q,ρ s=some q->ρ' s=some q:=by intro s q hq;show(if s=m then _ else _)=_;rw[if_neg (by grind)];exact hq
 have hold:∀b,b<w.heap.size->(w.alloc (.map #[] 0)).heap[b]? =w.heap[b]? :=λb hb=>Below.heap_alloc w _ b hb;have hlk:∀s,s≠m->[(m,some (⟨1,0,[]⟩:Ob))].lookup s=none:=by intro s hs;simp[cH,beq_eq_false_iff_ne.2 hs]
 have hup:∀s,s≠m->aY g [(m,some ⟨1,0,[]⟩)] s=g s:=by intro s hs;unfold aY;rw[hlk s hs]
 have hmono:∀b o' x,ak C0 B w ρ g b o' x->ak C0 B (w.alloc (.map #[] 0)) ρ' (aY g [(m,some ⟨1,0,[]⟩)]) b o' x:=by
  intro b o' x ⟨e1,e2,e0⟩;have hb:b<w.heap.size:=ft w ⟨b,o',none⟩ e1;refine⟨(gQ (hold b hb)).trans e1,?_,e0⟩;intro s c' e3;by_cases e:s=m
  .grind
  .grind
 refine⟨ρ',by grind,hmono,?_,by unfold aR;grind,(Below.refl B w).alloc hB _⟩;refine hs.stepG ?_ hext hmono ?_ (by grind) ?_
 .grind
 .intro s ob' b c' _ e2 e3;obtain⟨_,arr,e4⟩:=hs.at e2 e3;exact hold b e4.lt
 .intro s ob' e;have e1:s=m:=by
   rcases ia s m with h|h
   .grind
   .exact h
  subst e1;have e2:ob'=⟨1,0,[]⟩:=by simp[cH]at e;exact e.symm
  subst e2;refine⟨none,w.heap.size,by simp[ρ'],.inr (.inl ⟨rfl,rfl,.inr (.inl ⟨rfl,hB, #[],0,hblk,by simp,by simp,by rfl⟩),?_⟩)⟩;intro s' o' c' hne e3 e4 e5 hT;rw[hup s' hne]at e3;simp only[ρ',if_neg hne]at e5;obtain⟨q2,c3,k1,⟨_,⟨k2,_⟩|⟨_,k2⟩⟩|⟨b,arr,k2,_⟩⟩:=hs.ob s' o' e3
  .exact k2 e4
  .rw[e5]at k1;rcases hT with⟨_,hT2,hT3⟩|⟨hT,_⟩
   .rcases k2 with⟨k3,_⟩|⟨_,_,es,clock,k3,_⟩|⟨_,_,vs,⟨r,since,seen,c0,es,clock,cur,_,_,k3,_⟩,_⟩
    .exact hT2 k3
    .have:=iq (w:=w) ⟨_,k3,by simp⟩;grind
    .have:=iq (w:=w) ⟨_,k3,by simp⟩;grind
   .cases hT
  grind
def zL{C0:bH}{B:Nat}{ρ:Ren}{g:Nat->Option Ob}{w:World}{s c:Nat}{cells:List AV}(hs:StR C0 ρ g w B)(hg:g s=some ⟨1,0,cells⟩)(hρ:ρ s=some (none,c)):
  B<=c/\∃es clock,w.heap[c]? =some (Obj.map es clock)/\((es.toList.map (·.born)).Nodup/\∀x∈es.toList,x.born<clock)/\ap ρ (ak C0 B w ρ g) cells (es.toList.flatMap λe=>[e.key,e.val]):=by
 obtain⟨q2,c3,k1,⟨_,⟨k2,_⟩|⟨_,k2⟩⟩|⟨b,arr,k2,_⟩⟩:=hs.ob s _ hg
 .grind
 .rw[hρ]at k1;rcases k2 with⟨k3,_⟩|⟨_,k3,es,clock,k4,k6,k7,k5⟩|⟨k3,_⟩
  .cases k3
  .cases k1;exact⟨k3,es,clock,k4,⟨k6,k7⟩,k5⟩
  .cases k3
 grind
def Dx{t k e:TypeId}{x i:Operand}{m s:Nat}{ks:List (List Int×AV)}{xs:List Int}{z:AV}{zv:Value}(ho:o.op= .lookup t x i false)(ht:P.underlying t=some (.map k e))(K:MKey P k m)(hz:∀w,(zeroValue e).run P w= .ok zv w)(hzr:∀ρ C,aR ρ C z zv)
  (hx:E x= .mp s) (hi:E i= .p (.agg (eL xs))) (hxs:xs.length=m) (hob:σ s=some ⟨1,0,bu ks⟩) (hks:∀q∈ks,q.1.length=m) (hd:mB ks):bB P o E σ n (jH ks xs z) [s] [] :=by
 refine bB.pure λC0 ρ g V w B hs hR hE=> ?_;have hgs:g s=some ⟨1,0,bu ks⟩:=by grind
 have hvx:=hE x (by rw[ho];simp[b8]);have hvi:=hE i (by rw[ho];simp[b8]);rw[hx]at hvx;rw[hi]at hvi;obtain⟨c,hρ,hvx⟩:=hvx;obtain⟨_,es,clock,hb,_,hrep⟩:=zL hs hgs hρ;obtain⟨kv,g1,g2,g3⟩:=zN hrep;have hkl:∀q∈kv,q.1.length=m:=by
  intro q hq;obtain⟨j,hj,e1⟩:=iA hq;have hj':j<ks.length:=by omega
  obtain⟨v,h1,_⟩:=g3 j ks[j] (by grind);rw[c8 hj,e1]at h1;cases h1;grind
 have hrun:∃v,(Instr.lookup t (.map (some c)) (agI xs) false).run P w= .ok v w/\aR ρ (ak C0 B w ρ g) (jH ks xs z) v:=by
  rcases Fq K w xs hxs es.toList kv g1 hkl with⟨h1,h2⟩|⟨j,v,h1,h2⟩
  .refine⟨zv,by simp[Instr.lookup,run_underlying ht,MapKept.run_getObj_map hb,K.check w _ xs hxs,h1,hz,pL],?_⟩;rw[yg]
   .exact hzr _ _
   .intro q hq e;obtain⟨j,hj,e1⟩:=iA hq;obtain⟨v,h3,_⟩:=g3 j q (by grind);grind
  .refine⟨v,by simp[Instr.lookup,run_underlying ht,MapKept.run_getObj_map hb,K.check w _ xs hxs,h1,pL],?_⟩;have hj:j<ks.length:=by rw[<-g2];grind
   obtain⟨q,hq⟩:∃q,ks[j]? =some q:=⟨_,c8 hj⟩;obtain⟨u,h3,h4⟩:=g3 j q hq;rw[h2]at h3;simp only[fL,pI]at h3;obtain⟨e1,rfl⟩:=h3;rw[Fe (v:=q.2) hd (by rw[hq,e1])];exact h4
 obtain⟨v,h1,h2⟩:=hrun;unfold cR execOp;rw[ho];simp only[hvx,AD hvi,bk,h1,bq,cG];grind
def gq.get{es:List MapEntry}{kv:List (List Int×Value)}(h:gq es kv){j:Nat}{q:List Int×Value}(hq:kv[j]? =some q):∃e,es[j]? =some e/\e.key=agI q.1/\e.val=q.2:=by have:=congrArg (λl=>l[j]?) h;grind
def DG{t k e:TypeId}{x i y:Operand}{m s:Nat}{ks:List (List Int×AV)}{xs:List Int}(ho:o.op= .mapUpdate t x i y)(ht:P.underlying t=some (.map k e))(K:MKey P k m)
  (hx:E x= .mp s) (hi:E i= .p (.agg (eL xs))) (hxs:xs.length=m) (hob:σ s=some ⟨1,0,bu ks⟩) (hks:∀q∈ks,q.1.length=m) (hd:mB ks):
  bB P o E σ n .undef [s] [(s,some ⟨1,0,bu (fk ks xs (E y))⟩)] :=by
 intro C0 ρ g V w B hs hB hR hn hgn hE;have hgs:g s=some ⟨1,0,bu ks⟩:=by grind
 have hvx:=hE x (by rw[ho];simp[b8]);have hvi:=hE i (by rw[ho];simp[b8]);have hvy:=hE y (by rw[ho];simp[b8]);rw[hx]at hvx;rw[hi]at hvi;obtain⟨c,hρ,hvx⟩:=hvx;obtain⟨hBc,es,clock,hb,hborn,hrep⟩:=zL hs hgs hρ;obtain⟨kv,g1,g2,g3⟩:=zN hrep;have hkl:∀q∈kv,q.1.length=m:=by
  intro q hq;obtain⟨j,hj,e1⟩:=iA hq;have hj':j<ks.length:=by omega
  obtain⟨v,h1,_⟩:=g3 j ks[j] (by grind);rw[c8 hj,e1]at h1;cases h1;grind
 generalize hV:bG V y=vy at*;have hrun:∃(es':Array MapEntry) (clock':Nat),(Instr.mapUpdate t (.map (some c)) (agI xs) vy).run P w= .ok () {w with heap:=w.heap.setIfInBounds c (.map es' clock')}/\((es'.toList.map (·.born)).Nodup/\∀x∈es'.toList,x.born<clock')/\
   ∃kv',gq es'.toList kv'/\kv'.length=(fk ks xs (E y)).length/\∀(ρ':Ren) (C':bH),(∀s q,ρ s=some q->ρ' s=some q)->(∀b o x,ak C0 B w ρ g b o x->C' b o x)->∀(j:Nat) q,(fk ks xs (E y))[j]? =some q->∃v,kv'[j]? =some (q.1,v)/\aR ρ' C' q.2 v:=by
  rcases Fq K w xs hxs es.toList kv g1 hkl with⟨h1,h2⟩|⟨j,v,h1,h2⟩
  .refine⟨es.push ⟨agI xs,vy,clock⟩,clock+1,?_,⟨?_,?_⟩,kv++[(xs,vy)],?_,?_,?_⟩
   rotate_left
   .rw[Array.toList_push,dQ];refine List.nodup_append.2 ⟨hborn.1,by simp,?_⟩;intro x hx y hy e;obtain⟨z,hz,rfl⟩:=cC.1 hx;have:=hborn.2 z hz;simp at hy;omega
   .intro x hx;rw[Array.toList_push]at hx;rcases d7.1 hx with hx|hx
    .have:=hborn.2 x hx;omega
    .simp at hx;subst hx;exact Nat.lt_succ_self _
   rotate_right
   .simp[Instr.mapUpdate,run_underlying ht,MapKept.run_getObj_map hb,K.check w _ xs hxs,h1,MapKept.run_setObj_map _ hb,pL]
   .unfold gq at*;grind
   .rw[vQ]
    .simp[g2]
    .intro q hq e;obtain⟨j,hj,e1⟩:=iA hq;obtain⟨v,h3,_⟩:=g3 j q (by grind);grind
   .intro ρ' C' hρ' hC' j q hq;rw[vQ]at hq
    .rcases jT j ks.length with hj|hj
     .rw[List.getElem?_append_left hj]at hq;obtain⟨v,h3,h4⟩:=g3 j q hq;exact⟨v,by grind,aR.mono hρ' hC' _ _ h4⟩
     .rw[List.getElem?_append_right hj]at hq;have hj2:j-ks.length=0:=by have:=(nj.1 hq).1;simp at this;omega
      rw[hj2]at hq;simp at hq;subst hq;exact⟨vy,by grind,aR.mono hρ' hC' _ _ hvy⟩
    .intro q hq e;obtain⟨j,hj,e1⟩:=iA hq;obtain⟨v,h3,_⟩:=g3 j q (by grind);grind
  .obtain⟨e0,h5,h6,h7⟩:=g1.get h2;have hj:j<ks.length:=by rw[<-g2];grind
   obtain⟨q0,hq0⟩:∃q,ks[j]? =some q:=⟨_,c8 hj⟩;have hput:fk ks xs (E y)=ks.set j (xs,E y):=Gf (u:=q0.2) hd (by grind);have hes:es[j]? =some e0:=by simpa using h5
   have hmod:(es.modify j (λe=>{e with key:=agI xs,val:=vy})).toList=es.toList.set j {e0 with key:=agI xs,val:=vy}:=by
    apply i7;intro i;rw[gh];by_cases hij:j=i
    .grind
    .grind
   have hmb:(es.modify j (λe=>{e with key:=agI xs,val:=vy})).toList.map (·.born)=es.toList.map (·.born):=by
    rw[hmod,List.map_set];apply i7;intro i;rw[gh];split
    .rename_i hij;subst hij;split
     .rw[dH,h5];rfl
     .rename_i hl;rw[d8 (by omega)]
    .rfl
   refine⟨es.modify j (λe=>{e with key:=agI xs,val:=vy}),clock,?_,⟨by rw[hmb];exact hborn.1,λx hx=> ?_⟩,kv.set j (xs,vy),?_,?_,?_⟩
   rotate_left
   .have:x.born∈es.toList.map (·.born):=by rw[<-hmb];exact cC.2 ⟨x,hx,rfl⟩
    obtain⟨y,hy,e⟩:=cC.1 this;rw[<-e];exact hborn.2 y hy
   rotate_right
   .simp[Instr.mapUpdate,run_underlying ht,MapKept.run_getObj_map hb,K.check w _ xs hxs,h1,hes,h6,T3,MapKept.run_setObj_map _ hb,pL]
   .unfold gq at*;have e1:(es.modify j (λe=>{e with key:=agI xs,val:=vy})).toList=es.toList.set j {e0 with key:=agI xs,val:=vy}:=by
     apply i7;intro i;rw[gh];by_cases hij:j=i
     .grind
     .grind
    simp_all
   .grind
   .intro ρ' C' hρ' hC' i q hq;rw[hput,gh]at hq;split at hq
    .rename_i e1;cases hq;exact⟨vy,by grind,aR.mono hρ' hC' _ _ hvy⟩
    .obtain⟨v,h3,h4⟩:=g3 i q hq;exact⟨v,by grind,aR.mono hρ' hC' _ _ h4⟩
 obtain⟨es',clock',hr,hborn',kv',f1,f2,f3⟩:=hrun;have hclt:=iq (w:=w) ⟨_,hb,by simp⟩;unfold cR execOp;rw[ho];simp only[hvx,AD hvi,hV,bk,hr,bq,cG];have hold:∀b,b≠c->({w with heap:=w.heap.setIfInBounds c (.map es' clock')}:World).heap[b]? =w.heap[b]? :=by intro b hbc;show(w.heap.setIfInBounds c _)[b]? =_;rw[pH,if_neg (by grind)]
 have hnb:({w with heap:=w.heap.setIfInBounds c (.map es' clock')}:World).heap[c]? =some (Obj.map es' clock'):=by show(w.heap.setIfInBounds c _)[c]? =_;rw[pH,if_pos rfl,if_pos hclt]
 have hsize:({w with heap:=w.heap.setIfInBounds c (.map es' clock')}:World).heap.size=w.heap.size:=by simp
 have hos:({w with heap:=w.heap.setIfInBounds c (.map es' clock')}:World).os=w.os/\({w with heap:=w.heap.setIfInBounds c (.map es' clock')}:World).tape=w.tape/\({w with heap:=w.heap.setIfInBounds c (.map es' clock')}:World).output=w.output:=by grind
 generalize ({w with heap:=w.heap.setIfInBounds c (.map es' clock')}:World)=w' at*;have hlk:∀s',s'≠s->[(s,some (⟨1,0,bu (fk ks xs (E y))⟩:Ob))].lookup s'=none:=by intro s' hs';simp[cH,beq_eq_false_iff_ne.2 hs']
 have hup:∀s',s'≠s->aY g [(s,some ⟨1,0,bu (fk ks xs (E y))⟩)] s'=g s':=by intro s' hs';unfold aY;rw[hlk s' hs']
 have hmono:∀b' o' x',ak C0 B w ρ g b' o' x'->ak C0 B w' ρ (aY g [(s,some ⟨1,0,bu (fk ks xs (E y))⟩)]) b' o' x':=by
  intro b' o' x' ⟨e1,e2,e0⟩;have hne:b'≠c:=by intro e3;subst e3;unfold World.cell? at e1;simp[hb]at e1
  refine⟨(gQ (hold b' hne)).trans e1,?_,e0⟩;intro s' c' e3;by_cases e:s'=s
  .grind
  .grind
 refine⟨ρ,λ_ _=>rfl,hmono,?_,by rfl,⟨hos.1,hos.2.1,hos.2.2,by omega,by grind⟩⟩;refine hs.stepG (by grind) (λ_ _ h=>h) hmono ?_ ?_ ?_
 .intro s' o' b' c' e1 e2 e3;refine hold b' λe=> ?_;obtain⟨_,arr,e4⟩:=hs.at e2 e3;exact lc (w:=w) ⟨_,hb,by simp⟩ e4.blk e.symm
 .intro s' o' c' k e1 e2 e3 e4 e5 _ hk;refine hold k λe=> ?_;subst e;rcases hk with rfl|⟨_,_,_,hk⟩
  .have:=hs.mpi s' s o' _ k k e2 hgs e3 rfl e5 hρ (.inl ⟨e4,by simp,rfl⟩);grind
  .rw[hb]at hk;cases hk
 .intro s' o' e;have e1:s'=s:=by
   rcases ia s' s with h|h
   .grind
   .exact h
  subst e1;have e2:o'=⟨1,0,bu (fk ks xs (E y))⟩:=by simp[cH]at e;exact e.symm
  subst e2;refine⟨none,c,hρ,.inr (.inl ⟨rfl,rfl,.inr (.inl ⟨rfl,hBc,es',clock',hnb,hborn'.1,hborn'.2,Gz f1 f2 (f3 ρ _ (λ_ _ h=>h) hmono)⟩),?_⟩)⟩;intro s2 o2 c2 hne e3 e4 e5 hT;rw[hup s2 hne]at e3;exact hne (hs.mpi s' s2 _ o2 c c2 hgs e3 rfl e4 hρ e5 (by
   rcases hT with⟨_,h2,h3⟩|⟨h1,_⟩
   .exact .inl ⟨by simp,h2,h3⟩
   .cases h1)).symm
end
section
def fQ:Nat->(Nat->Option Ob)->AV->Option PV
 |_,_,.p x=>some x
 |_,_,.nil=>some (.sl 0 [])
 |_,_,.own .. =>some .junk
 |_,_,.any=>some .junk
 |0,_,.ptr .. =>some .junk
 |d+1,σ,.ptr s off=>(σ s).bind λob=>(cJ (fQ d σ) ob.cells).map λl=> .pro l off
 |d+1,σ,.agg l=>(cJ (fQ d σ) l).map .agg
 |d+1,σ,.fn f a b=>(cJ (fQ d σ) a).bind λx=>(cJ (fQ d σ) b).map λy=> .fn f x y
 |_,_,_=>none
def eO:Nat->(Nat->Option Ob)->AV->List Nat
 |0,_,_=>[]
 |d+1,σ,.ptr s _=>s::(match σ s with|some ob=>bE (eO d σ) ob.cells|none=>[])
 |d+1,σ,.agg l=>bE (eO d σ) l
 |d+1,σ,.fn _ a b=>bE (eO d σ) a++bE (eO d σ) b
 |_,_,_=>[]
def TL{C0:bH}{ρ:Ren}{g σ:Nat->Option Ob}{w:World}{B s0 b0:Nat}(hs:StR C0 ρ g w B)(hA0:∀b o v,ak C0 B w ρ g b o v->b≠b0)(hB0:∀s ob b c,s≠s0->g s=some ob->ρ s=some (some b,c)->b≠b0):
  ∀(d:Nat) (x:AV) (y:PV) (v:Value),fQ d σ x=some y->(∀s∈eO d σ x,s≠s0/\g s=σ s)->aR ρ (ak C0 B w ρ g) x v->a8 (λb o u=>w.cell? ⟨b,o,none⟩=some u/\b≠b0) y v:=by
 have hfull:∀b o v,ak C0 B w ρ g b o v->w.cell? ⟨b,o,none⟩=some v/\b≠b0:=λb o v h=>⟨h.1,hA0 b o v h⟩;intro d;induction d with
 |zero=>
  intro x y v h hr hx;unfold fQ at h;split at h<;>first|(cases h;done)|skip
  .cases h;exact a8.mono hfull _ v hx
  .cases h;unfold aR at hx;unfold a8;grind
  .cases h;trivial
  .cases h;trivial
  .cases h;trivial
  all_goals (rename_i e;cases e)
 |succ d ih=>
  have ihL:∀(l:List AV) (m:List PV) (vs:List Value),cJ (fQ d σ) l=some m->(∀s∈bE (eO d σ) l,s≠s0/\g s=σ s)->ap ρ (ak C0 B w ρ g) l vs->bL (λb o u=>w.cell? ⟨b,o,none⟩=some u/\b≠b0) m vs:=by
   intro l m vs h hr hv;obtain⟨h1,h2⟩:=jD h;refine bL.of _ _ (by rw[<-h1];exact hv.length) λi y hi=> ?_;have hlt:i<l.length:=by rw[h1];grind
   obtain⟨y',h3,h4⟩:=h2 i l[i] (by grind);rw[hi]at h3;cases h3;obtain⟨v,h5,h6⟩:=hv.get _ _ i l[i] (by grind);exact⟨v,h5,ih _ _ v h4 (λs hs'=>hr s (jY (by grind) hs')) h6⟩
  intro x y v h hr hx;unfold fQ at h;split at h<;>first|(cases h;done)|skip
  .cases h;exact a8.mono hfull _ v hx
  .cases h;unfold aR at hx;unfold a8;grind
  .cases h;trivial
  .cases h;trivial
  .omega
  .rename_i σ _ _ _ d' s off e;cases e;simp only[jw,iJ]at h;obtain⟨ob,h1,l,h2,rfl⟩:=h;obtain⟨hne,hg⟩:=hr s (by simp[eO]);have hg:g s=some ob:=hg.trans h1;have hr2:∀s'∈bE (eO d σ) ob.cells,s'≠s0/\g s'=σ s':=λs' hs'=>hr s' (by simp only[eO,h1];grind);obtain⟨b,c,hq,hv⟩:=hx;refine⟨b,0,by grind,?_⟩;obtain⟨hBb,arr,hO⟩:=hs.at hg hq;obtain⟨g1,g2⟩:=jD h2;refine cc.of _ _ _ λi y hi=> ?_;have hlt:i<ob.cells.length:=by rw[g1];grind
   obtain⟨y',h5,h6⟩:=g2 i ob.cells[i] (by grind);rw[hi]at h5;cases h5;obtain⟨v,k1,k2,k3⟩:=hO.cells i ob.cells[i] (by grind);refine⟨v,⟨by rw[gR,hO.cell];exact k1,λe=> ?_⟩,k2,ih _ _ v h6 (λs hs'=>hr2 s (jY (by grind) hs')) k3⟩;exact hB0 s _ b c hne hg hq e
  .rename_i d' l e;cases e;simp only[iJ]at h;obtain⟨m,h2,rfl⟩:=h;obtain⟨vs,h3,h4,h5⟩:=hx;exact⟨vs,h3,ihL l m vs h2 (λs hs'=>hr s hs') h4,h5⟩
  .rename_i d' f a b e;cases e;simp only[jw,iJ]at h;obtain⟨x1,h1,x2,h2,rfl⟩:=h;obtain⟨vs1,vs2,h3,h4,h5⟩:=hx;exact⟨vs1,vs2,h3,ihL a x1 vs1 h1 (λs hs'=>hr s (fu _ hs')) h4,ihL b x2 vs2 h2 (λs hs'=>hr s (ff _ hs')) h5⟩
def yL{C0:bH}{ρ:Ren}{g σ:Nat->Option Ob}{w:World}{B s0 b0 d:Nat}(hs:StR C0 ρ g w B)(hA0:∀b o v,ak C0 B w ρ g b o v->b≠b0)(hB0:∀s ob b c,s≠s0->g s=some ob->ρ s=some (some b,c)->b≠b0):
  ∀{l:List AV} {m:List PV} {vs:List Value},cJ (fQ d σ) l=some m->(∀s∈bE (eO d σ) l,s≠s0/\g s=σ s)->ap ρ (ak C0 B w ρ g) l vs->bL (λb o u=>w.cell? ⟨b,o,none⟩=some u/\b≠b0) m vs:=by
 intro l m vs h hr hv;obtain⟨h1,h2⟩:=jD h;refine bL.of _ _ (by rw[<-h1];exact hv.length) λi y hi=> ?_;have hlt:i<l.length:=by rw[h1];grind
 obtain⟨y',h3,h4⟩:=h2 i l[i] (by grind);rw[hi]at h3;cases h3;obtain⟨v,h5,h6⟩:=hv.get _ _ i l[i] (by grind);exact⟨v,h5,TL hs hA0 hB0 d _ _ v h4 (λs hs'=>hr s (jY (by grind) hs')) h6⟩
def LG{C0:bH}{ρ:Ren}{g:Nat->Option Ob}{w:World}{B s0 b0 c0:Nat}{o0:Ob}(hg0:g s0=some o0)(hρ0:ρ s0=some (some b0,c0)):∀b o v,ak C0 B w ρ g b o v->b≠b0:=λb o v h e=>by subst e;have:=h.2.1 s0 c0 hρ0;grind
def LF{C0:bH}{ρ:Ren}{g:Nat->Option Ob}{w:World}{B s0 b0 c0:Nat}{o0:Ob}(hs:StR C0 ρ g w B)(hg0:g s0=some o0)(hρ0:ρ s0=some (some b0,c0)):∀s ob b c,s≠s0->g s=some ob->ρ s=some (some b,c)->b≠b0:=λs ob b c hne hg hq e=>by subst e;exact hne (hs.inj s s0 _ _ b c c0 hg hg0 hq hρ0)
variable {P:Program}
def flat1(x:PV):Bool:=match x with
 | .int .. | .bool _| .str _=>true
 |_=>false
def rh{C C':bH}{x:PV}{v:Value}(hf:flat1 x=true)(h:a8 C x v):a8 C' x v:=by cases x<;>first|(cases hf;done)|(unfold a8 at*;exact h)
def QU(P:Program)(f:FuncId)(n:Nat)(A:List PV)(ty esz:Nat)(cells cells':List PV)(m:Nat):Prop:=gA P f=true/\cells'.length<=cells.length/\m<=n/\cells'.all flat1=true/\
 ∀(C:bH) (w:World) (b c:Nat) (arr:Array Value) (vs:List Value),(∀b' o v,C b' o v->w.cell? ⟨b',o,none⟩=some v/\b'≠b)->Lent C w b c ty esz cells arr->n<=c->bL C A vs->
  Calls P f (.slice (some ⟨b,0,none⟩) n c::vs).toArray w λe w'=>∃arr',e= .returned (.slice (some ⟨b,0,none⟩) m c)/\w'.heap[b]? =some (.cells arr' ty (0,0))/\arr'.size=arr.size/\
   (∀(i:Nat) x,cells'[i]? =some x->∃v,arr'[i]? =some v/\v.oneCell'=true/\a8 C x v)/\w.grownBy w' (some b)
variable {o:Oper} {E:Operand->AV} {σ:Nat->Option Ob} {n:Nat}
def El{c:Call}{f:Operand}{fid:FuncId}{s k m ty esz:Nat}{rest:List AV}{A cells cells':List PV}(ho:o.op= .call c)(hc:c.callee= .value f)(hfv:E f= .p (.fn (.func fid) [] []))
  (hargs:c.args.toList.map E= .own s 0 k::rest) (hob:σ s=some ⟨ty,esz,cells.map .p⟩) (he:esz≠0) (hk:0<k) (hA:cJ (fQ 3 σ) rest=some A) (hns:s∉bE (eO 3 σ) rest) (hS:QU P fid k A ty esz cells cells' m):
  bB P o E σ n (.own (sit n 0) 0 m) (s::bE (eO 3 σ) rest) [(s,none),(sit n 0,some ⟨ty,esz,cells'.map .p⟩)] :=by
 have hfm:f∈o.op.operands.toList:=by rw[ho];simp[b8,fq,hc]
 have ham:∀x∈c.args.toList,x∈o.op.operands.toList:=by intro x hx;rw[ho];simp[b8,fq];exact .inr (by grind)
 obtain⟨hok,hlen,hmk,hfl,hcall⟩:=hS;intro C0 ρ g V w B hs hB hR hn hgn hE;have hn:=hn _ (fF n 0);have hgn:=hgn _ (fF n 0);have hcl:∀s,cls s≠n->s≠sit n 0:=λs h e=>h (by rw[e];exact fF n 0);have hl:∀l:List Operand,(∀x∈l,x∈o.op.operands.toList)->ap ρ (ak C0 B w ρ g) (l.map E) (l.map (bG V)):=by
  intro l;induction l with
  |nil=>intro _;rfl
  |cons x l ih=>
   unfold ap;grind
 have hall:=hl _ ham;rw[hargs]at hall;unfold ap at hall;obtain⟨v,us,hvs,hv,hus⟩:=hall;have hvf:bG V f= .func (.func fid) #[] #[] :=by have:=hE f hfm;rw[hfv]at this;unfold aR a8 at this;obtain⟨v1,v2,h1,h2,h3⟩:=this;unfold bL at h2 h3;rw[h1,h2,h3]
 have hrun:(execOp (bG V) o).run P w= .ok (.enter fid (v::us).toArray) w:=by
  unfold execOp;rw[ho];have e2: #[] ++nf (bG V) c.args++ #[] =(v::us).toArray:=by rw[<-hvs];apply kW.1;simp
  simp only[resolve,hc,hvf,ng,bk,cG,bq,invoke,j6 hok,e2]
 have hgs:g s=some ⟨ty,esz,cells.map .p⟩:=by grind
 unfold aR at hv;obtain⟨q,cap,hρ,⟨_,_,hk0,_⟩|⟨b,o',c',rfl,rfl,h5,h6,h7⟩⟩:=hv
 .omega
 obtain⟨rfl,rfl⟩:=h7 rfl;obtain⟨hBb,arr,hO⟩:=hs.at hgs hρ;have hL:Lent (λb' o u=>w.cell? ⟨b',o,none⟩=some u/\b'≠b) w b c' ty esz cells arr:=by refine⟨hO.blk,λh=>by omega,λh=>by simpa using hO.row h,λi x hi=> ?_⟩;obtain⟨u,h1,h2,h3⟩:=hO.cells i (.p x) (by grind);unfold aR at h3;exact⟨u,h1,h2,a8.mono (λb' o v h=>⟨h.1,λe=>by subst e;have:=h.2.1 s c' hρ;grind⟩) x u h3⟩
 have hcN:cells.length<=arr.size:=by simpa using(hO.row he).2.1
 unfold cR;rw[hrun];dsimp only;refine(hcall _ w b c' arr us (by grind) hL h5 (yL hs (LG hgs hρ) (LF hs hgs hρ) hA (by grind) hus)).mono ?_;rintro e w' ⟨arr',rfl,hblk,hsz,hcells,hG⟩;generalize hnS:sit n 0=nS at*;have hsn:s≠nS:=λe=>by grind
 let ρ':Ren:=λt=>if t=nS then some (some b,c')else ρ t
 have hρn:ρ' nS=some (some b,c'):=if_pos rfl;have hρs:∀t,t≠nS->ρ' t=ρ t:=by grind
 have hext:∀t q,ρ t=some q->ρ' t=some q:=by grind
 have hlk:∀t,t≠s->t≠nS->[(s,none),(nS,some (⟨ty,esz,cells'.map .p⟩:Ob))].lookup t=none:=by intro t h1 h2;simp[cH,beq_eq_false_iff_ne.2 h1,beq_eq_false_iff_ne.2 h2]
 have hup:∀t,t≠s->t≠nS->aY g [(s,none),(nS,some ⟨ty,esz,cells'.map .p⟩)] t=g t:=by intro t h1 h2;unfold aY;rw[hlk t h1 h2]
 have hups:aY g [(s,none),(nS,some ⟨ty,esz,cells'.map .p⟩)] s=none:=by unfold aY;simp[cH]
 have hold:∀k,k<w.heap.size->k≠b->w'.heap[k]? =w.heap[k]? :=λk h1 h2=>hG.block k h1 (by grind);have hmono:∀b' o' x,ak C0 B w ρ g b' o' x->ak C0 B w' ρ' (aY g [(s,none),(nS,some ⟨ty,esz,cells'.map .p⟩)]) b' o' x:=by
  intro b' o' x ⟨e1,e2,e0⟩;have hne:b'≠b:=λe=>by grind
  refine⟨(gQ (hold b' (ft w ⟨b',o',none⟩ e1) hne)).trans e1,?_,e0⟩;intro t c2 e3;by_cases h1:t=nS
  .grind
  .grind
 refine⟨_,rfl,ρ',by grind,hmono,?_,by unfold aR;grind,⟨hG.os,hG.tape,hG.output,hG.size,by grind⟩⟩;refine hs.step (by grind) hext hmono ?_ ?_ λk es clock hk=>hold k (iq hk) (lc hk hO.blk)
 .intro t ob b' c2 e1 e2 e3;obtain⟨_,arr2,e4⟩:=hs.at e2 e3;refine hold b' e4.lt λe=> ?_;subst e;have:=hs.inj t s ob _ b' c2 c' e2 hgs e3 hρ;grind
 .intro t ob e1;have e2:t=nS:=by
   rcases ia t nS with h1|h1
   .grind
   .exact h1
  subst e2;have e3:ob=⟨ty,esz,cells'.map .p⟩:=by simp[cH,beq_eq_false_iff_ne.2 (Ne.symm hsn)]at e1;exact e1.symm
  subst e3;obtain⟨r1,r2,r3⟩:=hO.row he;refine⟨some b,c',hρn,.inr ⟨b,arr',rfl,hBb,⟨hblk,by grind,by grind,λi x hi=> ?_⟩,?_⟩⟩
  .rw[dH]at hi;cases hc2:cells'[i]? with
   |none=>grind
   |some y=>
    rw[hc2]at hi;simp only[dV,fL]at hi;subst hi;obtain⟨u,h1,h2,h3⟩:=hcells i y hc2;exact⟨u,h1,h2,by exact rh (by grind) h3⟩
  .intro t' ob' c2 hne hg' hr';rw[hρs t' hne]at hr';by_cases h2:t'=s
   .grind
   .rw[hup t' h2 hne]at hg';exact h2 (hs.inj t' s ob' _ b c2 c' hg' hgs hr' hρ)
def Ej{c:Call}{f:Operand}{fid:FuncId}{s k ty esz:Nat}{rest:List AV}{A cells cells':List PV}(ho:o.op= .call c)(hc:c.callee= .value f)(hfv:E f= .p (.fn (.func fid) [] []))
  (hargs:c.args.toList.map E= .own s 0 k::rest) (hob:σ s=some ⟨ty,esz,cells.map .p⟩) (he:esz≠0) (hA:cJ (fQ 3 σ) rest=some A) (hns:s∉bE (eO 3 σ) rest) (hfl:cells'.all flat1=true) (hS:nX P fid (some k) A ty esz cells cells'):
  bB P o E σ n .undef (s::bE (eO 3 σ) rest) [(s,some ⟨ty,esz,cells'.map .p⟩)] :=by
 have hfm:f∈o.op.operands.toList:=by rw[ho];simp[b8,fq,hc]
 have ham:∀x∈c.args.toList,x∈o.op.operands.toList:=by intro x hx;rw[ho];simp[b8,fq];exact .inr (by grind)
 obtain⟨hok,hlen,hcall,hnil⟩:=hS;intro C0 ρ g V w B hs hB hR hn hgn hE;have hl:∀l:List Operand,(∀x∈l,x∈o.op.operands.toList)->ap ρ (ak C0 B w ρ g) (l.map E) (l.map (bG V)):=by
  intro l;induction l with
  |nil=>intro _;rfl
  |cons x l ih=>
   unfold ap;grind
 have hall:=hl _ ham;rw[hargs]at hall;obtain⟨v,us,hvs,hv,hus⟩:=hall;have hvf:bG V f= .func (.func fid) #[] #[] :=by have:=hE f hfm;rw[hfv]at this;unfold aR a8 at this;obtain⟨v1,v2,h1,h2,h3⟩:=this;unfold bL at h2 h3;rw[h1,h2,h3]
 have hrun:(execOp (bG V) o).run P w= .ok (.enter fid (v::us).toArray) w:=by
  unfold execOp;rw[ho];have e2: #[] ++nf (bG V) c.args++ #[] =(v::us).toArray:=by rw[<-hvs];apply kW.1;simp
  simp only[resolve,hc,hvf,ng,bk,cG,bq,invoke,j6 hok,e2]
 have hgs:g s=some ⟨ty,esz,cells.map .p⟩:=by grind
 have hlk:∀t,t≠s->[(s,some (⟨ty,esz,cells'.map .p⟩:Ob))].lookup t=none:=by intro t h1;simp[cH,beq_eq_false_iff_ne.2 h1]
 have hup:∀t,t≠s->aY g [(s,some ⟨ty,esz,cells'.map .p⟩)] t=g t:=by intro t h1;unfold aY;rw[hlk t h1]
 obtain⟨q,cap,hρ,⟨rfl,rfl,hk0,_⟩|⟨b,o',c',rfl,rfl,h5,h6,h7⟩⟩:=hv
 .have hcn:cells=[]/\cap=0:=by
   obtain⟨q2,c2,h1,⟨_,h2|h2⟩|⟨b,arr,h2,_⟩⟩:=hs.ob s _ hgs
   .have h3:cells.map AV.p=[] :=h2.2.1;rw[hρ]at h1;cases h1;exact⟨by simpa using h3,h2.2.2⟩
   .exact absurd h2.1 he
   .subst h2;rw[hρ]at h1;cases h1
  obtain⟨rfl,rfl⟩:=hcn;have hcn':cells'=[] :=iZ.1 hlen;subst hcn';unfold cR;rw[hrun];refine(hnil (by rw[hk0]) (λb' o u=>w.cell? ⟨b',o,none⟩=some u/\b'≠w.heap.size) w us (λb' o u h=>h.1) (yL (s0:=s) (b0:=w.heap.size) hs (λb o v h e=>by
   have:=ft w ⟨b,o,none⟩ h.1;dsimp only at this;omega) (λt ob b c _ hg hq e=>by
   obtain⟨_,arr,hO⟩:=hs.at hg hq;have:=hO.lt;omega) hA (by grind) hus)).mono ?_
  rintro e w' ⟨rfl,hb⟩;have hold:∀k,k<w.heap.size->w'.heap[k]? =w.heap[k]? :=λk hk=>hb.block k hk;have hmono:∀b' o' x,ak C0 B w ρ g b' o' x->ak C0 B w' ρ (aY g [(s,some ⟨ty,esz,(([] :List PV)).map .p⟩)]) b' o' x:=by
   intro b' o' x ⟨e1,e2,e0⟩;refine⟨(gQ (hold b' (ft w ⟨b',o',none⟩ e1))).trans e1,?_,e0⟩;intro t c2 e3;by_cases e:t=s
   .subst e;rw[hρ]at e3;cases e3
   .rw[hup t e];exact e2 t c2 e3
  refine⟨_,rfl,ρ,λ_ _=>rfl,hmono,?_,by rfl,hb.mono hB⟩;refine hs.step (by grind) (λ_ _ h=>h) hmono (λt ob b c _ hg hq=>by obtain⟨_,arr,hO⟩:=hs.at hg hq;exact hold b hO.lt) ?_ λk es clock hk=>hold k (iq hk)
  intro t ob e1;have e2:t=s:=by
   rcases ia t s with h1|h1
   .rw[hlk t h1]at e1;cases e1
   .exact h1
  subst e2;have e3:ob=⟨ty,esz,(([] :List PV)).map .p⟩:=by simp[cH]at e1;exact e1.symm
  subst e3;exact⟨none,0,hρ,.inl ⟨rfl,he,rfl,rfl⟩⟩
 obtain⟨rfl,rfl⟩:=h7 rfl;obtain⟨hBb,arr,hO⟩:=hs.at hgs hρ;have hL:Lent (λb' o u=>w.cell? ⟨b',o,none⟩=some u/\b'≠b) w b c' ty esz cells arr:=by refine⟨hO.blk,λh=>by omega,λh=>by simpa using hO.row h,λi x hi=> ?_⟩;obtain⟨u,h1,h2,h3⟩:=hO.cells i (.p x) (by grind);unfold aR at h3;exact⟨u,h1,h2,a8.mono (λb' o v h=>⟨h.1,λe=>by subst e;have:=h.2.1 s c' hρ;grind⟩) x u h3⟩
 unfold cR;rw[hrun];refine(hcall _ w b c' arr us (by grind) hL (by grind) (yL hs (LG hgs hρ) (LF hs hgs hρ) hA (by grind) hus)).mono ?_;rintro e w' ⟨arr',rfl,hL',hG⟩;have hold:∀k,k<w.heap.size->k≠b->w'.heap[k]? =w.heap[k]? :=λk h1 h2=>hG.block k h1 (by grind);have hmono:∀b' o' x,ak C0 B w ρ g b' o' x->ak C0 B w' ρ (aY g [(s,some ⟨ty,esz,cells'.map .p⟩)]) b' o' x:=by
  intro b' o' x ⟨e1,e2,e0⟩;have hne:b'≠b:=λe=>by grind
  refine⟨(gQ (hold b' (ft w ⟨b',o',none⟩ e1) hne)).trans e1,?_,e0⟩;intro t c2 e3;by_cases h2:t=s
  .grind
  .grind
 refine⟨_,rfl,ρ,λ_ _=>rfl,hmono,?_,by rfl,⟨hG.os,hG.tape,hG.output,hG.size,by grind⟩⟩;refine hs.step (by grind) (λ_ _ h=>h) hmono ?_ ?_ λk es clock hk=>hold k (iq hk) (lc hk hO.blk)
 .intro t ob b' c2 e1 e2 e3;obtain⟨_,arr2,e4⟩:=hs.at e2 e3;refine hold b' e4.lt λe=> ?_;subst e;have:=hs.inj t s ob _ b' c2 c' e2 hgs e3 hρ;grind
 .intro t ob e1;have e2:t=s:=by
   rcases ia t s with h1|h1
   .grind
   .exact h1
  subst e2;have e3:ob=⟨ty,esz,cells'.map .p⟩:=by simp[cH]at e1;exact e1.symm
  subst e3;refine⟨some b,c',hρ,.inr ⟨b,arr',rfl,hBb,⟨hL'.blk,by grind,λh=>by simpa using hL'.row h,λi x hi=> ?_⟩,?_⟩⟩
  .rw[dH]at hi;cases hc2:cells'[i]? with
   |none=>grind
   |some y=>
    rw[hc2]at hi;simp only[dV,fL]at hi;subst hi;obtain⟨u,h1,h2,h3⟩:=hL'.cells i y hc2;exact⟨u,h1,h2,by exact rh (by grind) h3⟩
  .intro t' ob' c2 hne hg' hr';rw[hup t' hne]at hg';exact hne (hs.inj t' t ob' _ b c2 c' hg' hgs hr' hρ)
end
def St.putP{C0:bH}{B:Nat}{wI:World}{F:List AV}{L:Sto}{N:Nat}{a:Act}{w:World}{d:Option Nat}{r:AV}{v:Value}(h:St C0 B wI F L N a w)(hr:∀ρ,StR C0 ρ L w B->aR ρ (ak C0 B w ρ L) r v):St C0 B wI (cF F d r) L N (a.put d v) w:=by
 obtain⟨⟨ρ,s1,s2,s3⟩,s4,s5,s6,s7⟩:=h;refine⟨⟨ρ,s1,s2,λt=> ?_⟩,s4,by cases d<;>exact s5,by rw[kY];cases d<;>simpa[kU]using s6,s7⟩;rw[mP,ru,s6];by_cases e:d=some t/\t<F.length
 .rw[if_pos e,if_pos e];exact hr ρ s1
 .rw[if_neg e,if_neg e];exact s3 t
def VS{P:Program}{o:Oper}{F:List AV}{L:Sto}{N m:Nat}{cs:List PV}{t t':TypeId}{x y:Operand}{K:List AV->Sto->Nat->Prop}(ho:o.op= .binOp .eql t x y t')(ht:(bp P t).isSome=true)(hx:c6 F x= .p (.sl m cs))(hy:c6 F y= .nil)
  (h1:m=0->cs=[]->K (cF F o.dst (.p (.bool true))) L N) (h0:K (cF F o.dst (.p (.bool false))) L N):cX P o F L N K:=by
 obtain⟨e,hu⟩:∃e,P.underlying t=some (.slice e):=by unfold bp at ht;grind
 intro C0 B wI a w hS;obtain⟨⟨ρ,s1,s2,s3⟩,s4,s5,s6,s7⟩:=id hS;have k1:=mS (x:=x) (F:=F) (V:=λs=>a.tmps.getD s undef) (ρ:=ρ) (C:=ak C0 B w ρ L) (λt _=>s3 t);have k2:=mS (x:=y) (F:=F) (V:=λs=>a.tmps.getD s undef) (ρ:=ρ) (C:=ak C0 B w ρ L) (λt _=>s3 t);rw[hx]at k1;rw[hy]at k2;obtain⟨ad,c,k1,kn,k3,_⟩:=k1;unfold aR at k2;cases ad with
 |none=>
  obtain⟨rfl,rfl⟩:=k3 rfl;have hm:m=0:=by omega
  have h4:(jV (9999+1) t (.slice none m 0) (.slice none 0 0)).run P w= .ok true w:=by generalize 9999=D;simp only[jV,bk,run_underlying hu,bq,cG];rfl
  have h5:(binOp .eql t (.slice none m 0) (.slice none 0 0)).run P w= .ok (.bool true) w:=by simp only[binOp,uK,CY,bk,h4,bq];rfl
  have hrun:(execOp (bG λs=>a.tmps.getD s undef) o).run P w= .ok (.value (.bool true)) w:=by unfold execOp;rw[ho];simp only[k1,k2,eqGuard,xW,nY,↓reduceIte,bk,h5,bq,cG];try rfl
  unfold cR;rw[hrun];exact⟨_,_,_,h1 hm rfl,hS.putP λ_ _=>by rfl⟩
 |some ad=>
  have h4:(jV (9999+1) t (.slice (some ad) m c) (.slice none 0 0)).run P w= .ok false w:=by generalize 9999=D;simp only[jV,bk,run_underlying hu,bq,cG]
  have h5:(binOp .eql t (.slice (some ad) m c) (.slice none 0 0)).run P w= .ok (.bool false) w:=by simp only[binOp,uK,CY,bk,h4,bq];rfl
  have hrun:(execOp (bG λs=>a.tmps.getD s undef) o).run P w= .ok (.value (.bool false)) w:=by unfold execOp;rw[ho];simp only[k1,k2,eqGuard,xW,nY,↓reduceIte,bk,h5,bq,cG];try rfl
  unfold cR;rw[hrun];exact⟨_,_,_,h0,hS.putP λ_ _=>by rfl⟩
section
open Go.ChangeMaps (setBlock)
def Fa{ρ:Ren}{C:bH}:∀{ks:List (List Int×AV)} {l:List MapEntry},ap ρ C (bu ks) (l.flatMap λe=>[e.key,e.val])->
  ks.length=l.length/\∀(i:Nat) q e,ks[i]? =some q->l[i]? =some e->aR ρ C (.p (.agg (eL q.1))) e.key/\aR ρ C q.2 e.val
 |[],[],_=>⟨rfl,by simp⟩
 |[],e::l,h=>by unfold bu ap at h;simp at h
 |q::ks,[],h=>by unfold bu at h;unfold ap at h;grind
 |q::ks,e::l,h=>by
  unfold bu at h;obtain⟨v,r,h1,h2,h3⟩:=h;cases h1;obtain⟨v,r,h1,h4,h5⟩:=h3;cases h1;obtain⟨g1,g2⟩:=Fa (ks:=ks) (l:=l) h5;refine⟨by simp[g1],λi q' e' h6 h7=> ?_⟩;cases i with
  |zero=>simp at h6 h7;subst h6;subst h7;exact⟨h2,h4⟩
  |succ i=>exact g2 i q' e' (by simpa using h6) (by simpa using h7)
def Dw{ρ:Ren}{C:bH}:∀{ks:List (List Int×AV)} {l:List MapEntry} {i:Nat},ap ρ C (bu ks) (l.flatMap λe=>[e.key,e.val])->ap ρ C (bu (ks.eraseIdx i)) ((l.eraseIdx i).flatMap λe=>[e.key,e.val])
 |[],[],_,h=>by simpa using h
 |[],e::l,_,h=>by unfold bu ap at h;simp at h
 |q::ks,[],_,h=>by unfold bu at h;unfold ap at h;grind
 |q::ks,e::l,i,h=>by
  unfold bu at h;obtain⟨v,r,h1,h2,h3⟩:=h;cases h1;obtain⟨v,r,h1,h4,h5⟩:=h3;cases h1;cases i with
  |zero=>exact h5
  |succ i=>exact⟨_,_,rfl,h2,_,_,rfl,h4,Dw (ks:=ks) (l:=l) (i:=i) h5⟩
def DM:∀{l:List MapEntry} {i:Nat} {e:MapEntry},(l.map (·.born)).Nodup->l[i]? =some e->l.filter (λx=> !(x.born==e.born))=l.eraseIdx i
 |[],_,_,_,h=>by simp at h
 |x::l,0,e,hn,h=>by
  simp at h;subst h;rw[cO,jy]at hn;rw[uS,if_neg (by simp),List.eraseIdx_cons_zero,List.filter_eq_self];intro y hy;simp only[Bool.not_eq_true',beq_eq_false_iff_ne];exact λe=>hn.1 (cC.2 ⟨y,hy,e⟩)
 |x::l,i+1,e,hn,h=>by
  rw[cO,jy]at hn;have h:l[i]? =some e:=by simpa using h
  have hne:¬x.born=e.born:=λe2=>hn.1 (cC.2 ⟨e,pM h,e2.symm⟩);rw[uS,if_pos (by simp[hne]),List.eraseIdx_cons_succ,DM hn.2 h]
def T2{es:Array MapEntry}{seen:Array Nat}{i:Nat}{e:MapEntry}(hn:(es.toList.map (·.born)).Nodup)(h:(es.filter λe=> !seen.contains e.born).toList[i]? =some e):
  (es.filter λx=> !(seen.push e.born).contains x.born).toList=(es.filter λe=> !seen.contains e.born).toList.eraseIdx i:=by
 rw[<-DM (e:=e) _ h]
 .rw[Cm,Cm,List.filter_filter];refine List.filter_congr λx _=> ?_;rw[Array.contains_push];cases seen.contains x.born<;>cases x.born==e.born<;>rfl
 .rw[Cm];exact hn.sublist (List.Sublist.map _ (List.filter_sublist ..))
def itC(s p:Nat)(cur:AV)(ks:List (List Int×AV)):Ob:=⟨2,0,.ptr p 0::cur:: .mp s::bu ks⟩
variable {P:Program}
def G5{C0:bH}{B:Nat}{ρ:Ren}{g:Nat->Option Ob}{w:World}{s p:Nat}{cur:AV}{ks:List (List Int×AV)}(hs:StR C0 ρ g w B)(hg:g s=some (itC s p cur ks)):
  ∃c,ρ s=some (none,c)/\B<=c/\∃r since seen c0 es clock cv,B<=r/\w.heap[r]? =some (.mapIter (some c) since seen c0)/\w.heap[c]? =some (.map es clock)/\(∀x∈es.toList,x.born<since)/\(since<=c0/\since<=clock)/\(es.toList.map (·.born)).Nodup/\
   ((∃e∈es.toList,∃sn:Array Nat,seen=sn.push e.born/\c0=clock/\cv= .tuple #[e.key,e.val])\/cv=Go.undef)/\aR ρ (ak C0 B w ρ g) (.ptr p 0) (.pointer (some ⟨r,0,none⟩))/\aR ρ (ak C0 B w ρ g) cur cv/\
   ap ρ (ak C0 B w ρ g) (bu ks) ((es.filter λe=> !seen.contains e.born).toList.flatMap λe=>[e.key,e.val]):=by
 obtain⟨q,c,h1,⟨rfl,⟨h2,_⟩|⟨_,h2⟩⟩|⟨b,arr,rfl,h2,h3⟩⟩:=hs.ob s _ hg
 .exact absurd rfl h2
 .rcases h2 with⟨h2,_⟩|⟨h2,_⟩|⟨_,hB,vs,⟨r,since,seen,c0,es,clock,cv,k1,k2,k3,k4,k5,k6,k7,rfl⟩,h2⟩
  .cases h2
  .cases h2
  .obtain⟨v,t,e1,m1,h2⟩:=h2;cases e1;obtain⟨v,t,e1,m2,h2⟩:=h2;cases e1;obtain⟨v,t,e1,m3,h2⟩:=h2;cases e1;exact⟨c,h1,hB,r,since,seen,c0,es,clock,cv,k1,k2,k3,k4,k5,k6,k7,m1,m2,h2⟩
 .obtain⟨v,_,_,c',m,_⟩:=h3.cells 2 (.mp s) rfl;rw[h1]at m;cases m
section
variable {o:Oper} {E:Operand->AV} {σ:Nat->Option Ob} {n:Nat}
def Te{t k e:TypeId}{x:Operand}{s:Nat}{ks:List (List Int×AV)}(ho:o.op= .range t x)(ht:P.underlying t=some (.map k e))(hx:E x= .mp s)(hob:σ s=some ⟨1,0,bu ks⟩):
  bB P o E σ n (.ptr (sit n 0) 0) [s] [(s,some (itC s (sit n 0) .any ks))] :=by
 intro C0 ρ g V w B hs hB hR hn hgn hE;have hcl:∀s,cls s≠n->s≠sit n 0:=λs h e=>h (by rw[e];exact fF n 0);have hm0:cls (sit n 0)=n:=fF n 0;generalize sit n 0=m at*;have hgs:g s=some ⟨1,0,bu ks⟩:=by rw[hR s (bO.2 rfl),hob]
 have hvx:=hE x (by rw[ho];simp[b8]);rw[hx]at hvx;obtain⟨c,hρ,hvx⟩:=hvx;obtain⟨hBc,es,clock,hb,⟨hnd,hborn⟩,hrep⟩:=zL hs hgs hρ;have hclt:=iq (w:=w) ⟨_,hb,by simp⟩;have hsm:s≠m:=λe=>by rw[e,hn m hm0]at hρ;cases hρ
 have hrun:(execOp (bG V) o).run P w= .ok (.value (.pointer (some ⟨w.heap.size,0,none⟩))) (w.alloc (.mapIter (some c) clock #[] clock)):=by unfold execOp;rw[ho];simp only[hvx,Instr.range,bk,run_underlying ht,bq,MapKept.run_getObj_map hb,cG];rfl
 unfold cR;rw[hrun];have hnb:(w.alloc (.mapIter (some c) clock #[] clock)).heap[w.heap.size]? =some (.mapIter (some c) clock #[] clock):=heap_alloc_new w _;have hold:∀b,b<w.heap.size->(w.alloc (.mapIter (some c) clock #[] clock)).heap[b]? =w.heap[b]? :=λb hb=>Below.heap_alloc w _ b hb;have hbel:=(Below.refl B w).alloc hB (.mapIter (some c) clock #[] clock);generalize w.alloc (.mapIter (some c) clock #[] clock)=w' at*
 let ρ':Ren:=λs=>if s=m then some (some w.heap.size,0)else ρ s
 have hρ':∀s,s≠m->ρ' s=ρ s:=λs h=>if_neg h;have hext:∀s q,ρ s=some q->ρ' s=some q:=by intro s q hq;rw[hρ' s (λe=>by rw[e,hn m hm0]at hq;cases hq)];exact hq
 have hup:∀s',s'≠s->aY g [(s,some (itC s m .any ks))] s'=g s':=by intro s' hs';unfold aY;simp[cH,beq_eq_false_iff_ne.2 hs']
 have hmono:∀b o' x,ak C0 B w ρ g b o' x->ak C0 B w' ρ' (aY g [(s,some (itC s m .any ks))]) b o' x:=by
  intro b o' x ⟨e1,e2,e0⟩;have hb:b<w.heap.size:=ft w ⟨b,o',none⟩ e1;refine⟨(gQ (hold b hb)).trans e1,?_,e0⟩;intro s' c' e3;by_cases e:s'=m
  .subst e;have e3:ρ' s'=some (some b,c'):=e3;rw[show ρ' s'=some (some w.heap.size,0)from if_pos rfl]at e3;cases e3;omega
  .rw[hρ' s' e]at e3;have hne:s'≠s:=λe4=>by rw[e4,hρ]at e3;cases e3
   rw[hup s' hne];exact e2 s' c' e3
 refine⟨ρ',λs h=>hρ' s (hcl s h),hmono,?_,⟨_,_,if_pos rfl,rfl⟩,hbel⟩;refine hs.stepG (λs' ob _ hg'=>hρ' s' λe=>by rw[e,hgn m hm0]at hg';cases hg') hext hmono ?_ ?_ ?_
 .intro s' ob' b c' _ e2 e3;obtain⟨_,arr,e4⟩:=hs.at e2 e3;exact hold b e4.lt
 .intro s' ob' c' k _ _ _ _ _ hk _;exact hold k (iq hk)
 .intro s' ob' e;have e1:s'=s:=by
   rcases ia s' s with h|h
   .simp[cH,beq_eq_false_iff_ne.2 h]at e
   .exact h
  subst e1;have e2:ob'=itC s' m .any ks:=by simp[cH]at e;exact e.symm
  subst e2;refine⟨none,c,hext _ _ hρ,.inr (.inl ⟨rfl,rfl,.inr (.inr ⟨rfl,hBc,_,⟨w.heap.size,clock, #[],clock,es,clock,Go.undef,hB,hnb,(hold c hclt).trans hb,hborn,⟨bD _,bD _⟩,hnd,.inr rfl,rfl⟩,?_⟩),?_⟩)⟩
  .refine⟨_,_,rfl,⟨_,_,if_pos rfl,rfl⟩,_,_,rfl,by unfold aR;trivial,_,_,rfl,⟨c,hext _ _ hρ,rfl⟩,?_⟩;have e3:(es.filter λe=> !(#[] :Array Nat).contains e.born)=es:=by simp
   rw[e3];exact ap.mono hext hmono _ _ hrep
  .intro s2 o2 c2 hne e3 e4 e5 hT;rw[hup s2 hne]at e3;have hne2:s2≠m:=λe=>by rw[e,hgn m hm0]at e3;cases e3
   rw[hρ' s2 hne2]at e5;refine hne (hs.mpi s' s2 _ o2 c c2 hgs e3 rfl e4 hρ e5 ?_).symm;rcases hT with⟨_,h2,h3⟩|⟨h1,_⟩
   .exact .inl ⟨by simp,h2,h3⟩
   .cases h1
def UE{x:Operand}{s p:Nat}{a b:AV}{ks:List (List Int×AV)}(ho:o.op= .entry x)(hx:E x= .ptr p 0)(hob:σ s=some (itC s p (.tup [a,b]) ks)):bB P o E σ n (.tup [a,b]) [s] [] :=by
 refine bB.pure λC0 ρ g V w B hs hR hE=> ?_;have hgs:g s=some (itC s p (.tup [a,b]) ks):=by rw[hR s (bO.2 rfl),hob]
 have hvx:=hE x (by rw[ho];simp[b8]);rw[hx]at hvx;obtain⟨c,_,_,r,since,seen,c0,es,clock,cv,_,h1,h2,_,_,h3,h4,h5,h6,_⟩:=G5 hs hgs;obtain⟨b1,c1,k1,k2⟩:=hvx;obtain⟨b2,c2,k3,k4⟩:=h5;rw[k1]at k3;cases k3;cases k4;rcases h4 with⟨e,he,sn,rfl,rfl,rfl⟩|rfl
 .have hrun:=run_entry_at (P:=P) w r c since sn es c0 e h1 h2 he h3;have hx:(execOp (bG V) o).run P w= .ok (.value (.tuple #[e.key,e.val])) w:=by unfold execOp;rw[ho];simp only[k2,bk,hrun,bq,cG]
  unfold cR;rw[hx];exact⟨rfl,h6⟩
 .obtain⟨vs,e,v,r,e2,_⟩:=h6;subst e2;cases e
end
def To{o:Oper}{F:List AV}{L:Sto}{N s p:Nat}{x:Operand}{cur:AV}{ks:List (List Int×AV)}{K:List AV->Sto->Nat->Prop}(ho:o.op= .next x false)(hx:c6 F x= .ptr p 0)(hob:L s=some (itC s p cur ks))
  (h0:ks=[]->K (cF F o.dst (.tup [.p (.bool false)])) L N)
  (h1:∀(i:Nat) (q:List Int×AV),ks[i]? =some q->K (cF F o.dst (.tup [.p (.bool true),.p (.agg (eL q.1)),q.2])) (aY L [(s,some (itC s p (.tup [.p (.agg (eL q.1)),q.2]) (ks.eraseIdx i)))]) N):cX P o F L N K:=by
 intro C0 B wI a w hS;obtain⟨⟨ρ,s1,s2,s3⟩,s4,s5,s6,s7⟩:=id hS;have k1:=mS (x:=x) (F:=F) (V:=λs=>a.tmps.getD s undef) (ρ:=ρ) (C:=ak C0 B w ρ L) (λt _=>s3 t);rw[hx]at k1;obtain⟨c,hρ,hBc,r,since,seen,c0,es,clock,cv,hBr,g1,g2,g3,g4,g5,g6,g7,g8,g9⟩:=G5 s1 hob;obtain⟨b,c1,k1,k2⟩:=k1;obtain⟨b2,c2,k3,k4⟩:=id g7;rw[k1]at k3;cases k3;cases k4;obtain⟨hlen,hget⟩:=Fa g9;rcases run_next_at (P:=P) w o.type r c since c0 seen es clock g1 g2 g3 g4.1 with⟨hsz,hrun⟩|⟨e,he,w1,hw1,hrun⟩
 .have hx:(execOp (bG λs=>a.tmps.getD s undef) o).run P w= .ok (.value (.tuple #[.bool false])) w:=by unfold execOp;rw[ho];simp only[k2,bk,hrun,bq,cG]
  unfold cR;rw[hx];refine⟨_,_,_,h0 ?_,hS.putP λ_ _=>⟨[.bool false],rfl,_,_,rfl,by rfl,by rfl⟩⟩;refine iZ.1 ?_;rw[hlen];exact hsz
 .obtain⟨i,hi,e1⟩:=iA he;have hli:(es.filter λe=> !seen.contains e.born).toList[i]? =some e:=by rw[<-e1];exact c8 hi
  obtain⟨q,hq⟩:∃q,ks[i]? =some q:=⟨_,c8 (by rw[hlen];exact hi)⟩;obtain⟨m1,m2⟩:=hget i q e hq hli;have hx:(execOp (bG λs=>a.tmps.getD s undef) o).run P w= .ok (.value (.tuple #[.bool true,e.key,e.val])) (setBlock w1 r (.mapIter (some c) since (seen.push e.born) clock)):=by unfold execOp;rw[ho];simp only[k2,bk,hrun,bq,cG]
  unfold cR;rw[hx];have hrlt:=iq (w:=w) ⟨_,g1,by simp⟩;have hheap:w1.heap=w.heap/\w1.os=w.os/\w1.tape=w.tape/\w1.output=w.output:=by rcases hw1 with rfl|rfl<;>exact⟨rfl,rfl,rfl,rfl⟩
  have hold:∀b,b≠r->(setBlock w1 r (.mapIter (some c) since (seen.push e.born) clock)).heap[b]? =w.heap[b]? :=by intro b hb;show(w1.heap.setIfInBounds r _)[b]? =_;rw[pH,if_neg (λe=>hb e.symm),hheap.1]
  have hnew:(setBlock w1 r (.mapIter (some c) since (seen.push e.born) clock)).heap[r]? =some (.mapIter (some c) since (seen.push e.born) clock):=by show(w1.heap.setIfInBounds r _)[r]? =_;rw[pH,if_pos rfl,if_pos (by rw[hheap.1];exact hrlt)]
  have hbel:Below B w (setBlock w1 r (.mapIter (some c) since (seen.push e.born) clock)):=by refine⟨hheap.2.1,hheap.2.2.1,hheap.2.2.2,?_,λk hk=>hold k (by omega)⟩;show w.heap.size<=(w1.heap.setIfInBounds r _).size;rw[Array.size_setIfInBounds,hheap.1];exact bD _
  generalize setBlock w1 r (.mapIter (some c) since (seen.push e.born) clock)=w' at*;have hcr:c≠r:=λe=>by rw[e,g1]at g2;cases g2
  have hup:∀s' (ob:Ob),s'≠s->aY L [(s,some ob)] s'=L s':=by intro s' ob hs';unfold aY;simp[cH,beq_eq_false_iff_ne.2 hs']
  have hmono:∀(ob:Ob) b o' x,ak C0 B w ρ L b o' x->ak C0 B w' ρ (aY L [(s,some ob)]) b o' x:=by
   intro ob b o' x ⟨e1,e2,e0⟩;have hne:b≠r:=by intro e3;subst e3;unfold World.cell? at e1;simp[g1]at e1
   refine⟨(gQ (hold b hne)).trans e1,?_,e0⟩;intro s' c' e3;rw[hup s' ob λe4=>by rw[e4,hρ]at e3;cases e3];exact e2 s' c' e3
  refine⟨_,_,_,h1 i q hq,⟨ρ,?_,s2,λt=> ?_⟩,cZ s4 hbel.size,by cases o.dst<;>exact s5,by rw[kY];cases o.dst<;>simpa[kU]using s6,s7.trans hbel⟩
  .refine s1.stepG (λ_ _ _ _=>rfl) (λ_ _ h=>h) (hmono _) ?_ ?_ ?_
   .intro s' ob' b c' _ e2 e3;obtain⟨_,arr,e4⟩:=s1.at e2 e3;exact hold b λe=>by subst e;exact lc (w:=w) ⟨_,g1,by simp⟩ e4.blk rfl
   .intro s' ob' c' k hW e2 e3 e4 e5 _ hk;refine hold k λe=> ?_;subst e;rcases hk with rfl|⟨_,_,_,hk⟩
    .obtain⟨q2,c3,f1,⟨_,⟨f2,_⟩|⟨_,f2⟩⟩|⟨b,arr,f2,_⟩⟩:=s1.ob s' ob' e2
     .exact f2 e3
     .rw[e5]at f1;cases f1;rcases f2 with⟨f3,_⟩|⟨_,_,es2,clock2,f3,_⟩|⟨_,_,vs,⟨r2,since2,seen2,c02,es2,clock2,cur2,_,_,f3,_⟩,_⟩
      .exact e4 f3
      .rw[g1]at f3;cases f3
      .rw[g1]at f3;cases f3
     .rw[e5]at f1;cases f1;cases f2
    .rw[g1]at hk;cases hk;have:=s1.mpi s' s ob' _ c c e2 hob e3 rfl e5 hρ (.inl ⟨e4,by unfold itC;simp,rfl⟩);subst this;simp[cH]at hW
   .intro s' ob' e2;have e3:s'=s:=by
     rcases ia s' s with h|h
     .simp[cH,beq_eq_false_iff_ne.2 h]at e2
     .exact h
    subst e3;simp[cH]at e2;subst e2;have hee:e∈es.toList:=by have:=pM hli;rw[Cm]at this;exact(List.mem_filter.1 this).1
    refine⟨none,c,hρ,.inr (.inl ⟨rfl,rfl,.inr (.inr ⟨rfl,hBc,_,⟨r,since,seen.push e.born,clock,es,clock,.tuple #[e.key,e.val],hBr,hnew,(hold c hcr).trans g2,g3,⟨g4.2,g4.2⟩,g5,.inl ⟨e,hee,seen,rfl,rfl,rfl⟩,rfl⟩,?_⟩),?_⟩)⟩
    .refine⟨_,_,rfl,aR.mono (λ_ _ h=>h) (hmono _) _ _ g7,_,_,rfl,⟨[e.key,e.val],rfl,_,_,rfl,aR.mono (λ_ _ h=>h) (hmono _) _ _ m1,_,_,rfl,aR.mono (λ_ _ h=>h) (hmono _) _ _ m2,by rfl⟩,_,_,rfl,⟨c,hρ,rfl⟩,?_⟩;rw[T2 g5 hli];exact Dw (ap.mono (λ_ _ h=>h) (hmono _) _ _ g9)
    .intro s2' o2 c2 hne e3 e4 e5 hT;rw[hup s2' _ hne]at e3;refine hne (s1.mpi s' s2' _ o2 c c2 hob e3 rfl e4 hρ e5 ?_).symm;rcases hT with⟨_,h2,h3⟩|⟨h1,_⟩
     .exact .inl ⟨by unfold itC;simp,h2,h3⟩
     .cases h1
  .rw[mP,ru,s6];by_cases e4:o.dst=some t/\t<F.length
   .rw[if_pos e4,if_pos e4];exact⟨[.bool true,e.key,e.val],rfl,_,_,rfl,by rfl,_,_,rfl,aR.mono (λ_ _ h=>h) (hmono _) _ _ m1,_,_,rfl,aR.mono (λ_ _ h=>h) (hmono _) _ _ m2,by rfl⟩
   .rw[if_neg e4,if_neg e4];exact aR.mono (λ_ _ h=>h) (hmono _) _ _ (s3 t)
end
def bi(x y:Int):Int:=if x<y then-1 else if y<x then 1 else 0
def Zi(ax ay bx b_y:Int)(w:World):eJ aH (binOp .eql 53 (.agg #[.int .i64 ax,.int .i64 ay]) (.agg #[.int .i64 bx,.int .i64 b_y])) w= .ok (.bool (ax==bx&&ay==b_y)) w:=by
 have u3:=Tryz.underlying3;have a3:=Tryz.isAgg3;have z3:=Tryz.sizeOf3;have hS:aH.underlying 53=some (.struct (aH.fieldsOf 53)):=by kernel_rfl
 have hp:aH.stoodInHeld 53=false:=by kernel_rfl
 rw[run_eql_struct,show(10000:Nat)=9999+1 from rfl,run_equalIn_agg w 9999 53 _ _ hS hp];simp only[Program.fieldsOf,Tryz.underlying53]
 go_simp
 grind
def gz(r:List V):List PV:=r.flatMap λv=>[.int .i64 v.x,.int .i64 v.y]
def qQ(r:List V):PV:= .sl r.length (gz r)
def Ak(l:List bF):PV:= .sl l.length (l.map qQ)
def sr(s:Shape):PV:= .agg [qQ s.outer,Ak s.holes]
def iy{α:Type}(m:Nat)(enc:List α->List PV)(e:α->List PV):Prop:=∀l,enc l=l.flatMap e/\∀x,(e x).length=m
section
variable {α:Type} {m:Nat} {enc:List α->List PV} {e:α->List PV}
def iy.length(h:iy m enc e)(l:List α):(enc l).length=l.length*m:=by
 rw[(h l).1];induction l with
 |nil=>simp
 |cons x l ih=>simp only[pN,dj,ih,(h []).2 x,hZ,lJ];omega
def iy.append(h:iy m enc e)(l k:List α):enc (l++k)=enc l++enc k:=by rw[(h _).1,(h l).1,(h k).1,uU]
def iy.at(h:iy m enc e)(l:List α)(i:Nat)(hi:i<l.length):((enc l).drop (i*m)).take m=e l[i] :=by
 have h1:l=l.take i++l[i] ::l.drop (i+1):=by rw[List.getElem_cons_drop];simp
 have h2:enc l=enc (l.take i)++(e l[i] ++enc (l.drop (i+1))):=by
  conv=>lhs;rw[h1]
  rw[h.append,(h (l[i] ::_)).1,pN,<-(h _).1]
 have h3:=h.length (l.take i);rw[fS,rH (by omega)]at h3;rw[h2,<-h3,List.drop_left,<-(h []).2 l[i],uV]
def iy.take(h:iy m enc e)(l:List α)(k:Nat):(enc l).take (k*m)=enc (l.take k):=by
 by_cases hk:k<=l.length
 .have h3:=h.length (l.take k);rw[fS,rH hk]at h3
  conv=>lhs;rw[<-lK k l,h.append,<-h3,uV]
 .rw[ib (by rw[h.length];exact uP _ (by omega)),ib (by omega)]
def iy.drop(h:iy m enc e)(l:List α)(k:Nat):(enc l).drop (k*m)=enc (l.drop k):=by
 by_cases hk:k<=l.length
 .have h3:=h.length (l.take k);rw[fS,rH hk]at h3
  conv=>lhs;rw[<-lK k l,h.append,<-h3,List.drop_left]
 .have e1:l.drop k=[] :=QZ (by omega);rw[e1,QZ (by rw[h.length];exact uP _ (by omega)),(h []).1];rfl
end
def wM:iy 2 gz λv=>[.int .i64 v.x,.int .i64 v.y] :=λ_=>⟨rfl,λ_=>rfl⟩
def nth_eq{v:List V}{i:Nat}(h:i<v.length):aB0 v i=v[i] :=by unfold aB0;grind
def XX{v:List V}{i:Nat}(h:i<v.length):((gz v).drop (i*2)).take 2=[.int .i64 (aB0 v i).x,.int .i64 (aB0 v i).y] :=by rw[nth_eq h];exact wM.at v i h
def Fy:og aH 53 2:=by
 intro xs ys x y w hx hy;match xs,ys,hx,hy with
 |[a,b],[c,d],_,_=>
  have h1:=Zi a b c d w;refine⟨?_,?_⟩
  .simp[eqGuard,h1]
  .simp[eqGuard];rw[run_neq_struct];rw[run_eql_struct]at h1;revert h1;generalize eJ aH (jV 10000 53 (uW #[cw dm a,cw dm b]) (uW #[cw dm c,cw dm d])) w=R;intro h1;cases R with
   |ok q w'=>
    obtain⟨rfl,rfl⟩:=h1;simp[pL];grind
   |_=>simp_all
def aO(l:List S)(i:Nat):S:=l.getD i default
def OX(l:List (Nat×Nat))(i:Nat):Nat×Nat:=l.getD i default
def aK(l:List Int)(i:Nat):Int:=l.getD i 0
def cN(l:List Bool)(i:Nat):Bool:=l.getD i false
def cE{α:Type}{l:List α}{i:Nat}{d:α}(h:i<l.length):l.getD i d=l[i] :=by grind
def mq{l:List S}{i:Nat}(h:i<l.length):aO l i=l[i] :=cE h
def sR{l:List bF}{i:Nat}(h:i<l.length):aa l i=l[i] :=cE h
def Ww{l:List (Nat×Nat)}{i:Nat}(h:i<l.length):OX l i=l[i] :=cE h
def vS{l:List S}{i:Nat}(h:i<l.length):aO l i∈l:=by rw[mq h];grind
section
variable {α:Type} {m:Nat} {enc:List α->List PV} {e:α->List PV}
def iy.sub(h:iy m enc e)(l:List α){k:Nat}(hk:k<l.length)(j n:Nat)(hj:j+n<=m):((enc l).drop (k*m+j)).take n=((e l[k]).drop j).take n:=by
 have h1:=h.at l k hk;have h2:(((enc l).drop (k*m)).drop j).take n=((((enc l).drop (k*m)).take m).drop j).take n:=by
  rw[List.drop_take,List.take_take]
  congr 1;omega
 simp_all
end
section
variable {α:Type} {m:Nat} {enc:List α->List PV} {e:α->List PV}
end
def BI:(∀a b:Bool,((a&&b)=true)=(a=true/\b=true))/\(∀a b:Bool,((a||b)=true)=(a=true\/b=true))/\(∀a b:Bool,((a&&b)=false)=(a=false\/b=false))/\(∀a b:Bool,((a||b)=false)=(a=false/\b=false))/\(∀b:Bool,((!b)=true)=(b=false))/\(∀b:Bool,((!b)=false)=(b=true))/\(∀(p:Prop) [Decidable p],(decide p=true)=p)/\(∀(p:Prop) [Decidable p],(decide p=false)=¬p)/\(∀{α:Type} [BEq α] [LawfulBEq α] (a b:α),((a==b)=true)=(a=b))/\(∀{α:Type} [BEq α] [LawfulBEq α] (a b:α),((a==b)=false)=(a≠b))/\(∀{α:Type} [BEq α] [LawfulBEq α] (a b:α),((a !=b)=true)=(a≠b))/\(∀{α:Type} [BEq α] [LawfulBEq α] (a b:α),((a !=b)=false)=(a=b)):=
 ⟨by simp,by simp,by simp,by simp,by simp,by simp,by grind,by grind,λa b=>by simp,λa b=>by simp,λa b=>by simp,λa b=>by simp⟩
namespace Geo
structure Ed where
 fr:Int
 to:Int
 lf:Int
 rt:Int
 src:List Int
deriving DecidableEq,Inhabited,Repr
structure Pl where
 sg:List S
 vs:List Pt
 es:List Ed
 fs:List (List (List Int))
deriving DecidableEq,Inhabited
end Geo
noncomputable section
inductive Fm:Type 1
 |tt
 |stuck (n:Nat)
 |need (p:Prop) (f:Fm)
 |imp (p:Prop) (f:Fm)
 |both (f g:Fm)
 |all (X:Type) (f:X->Fm)
 |ex (X:Type) (f:X->Fm)
def Fm.isTT:Fm->Bool
 | .tt=>true
 |_=>false
def Fm.holds:Fm->Prop
 | .tt=>True
 | .stuck _=>False
 | .need p f=>(match f.isTT with|true=>p|false=>p/\f.holds)
 | .imp p f=>p->f.holds
 | .both f g=>(match f.isTT,g.isTT with|true,_=>g.holds|false,true=>f.holds|false,false=>f.holds/\g.holds)
 | .all X f=>∀x:X,(f x).holds
 | .ex X f=>∃x:X,(f x).holds
def Fm.BE{f:Fm}(h:f.isTT=true):f.holds:=by cases f<;>first|trivial|cases h
def Fm.Sd{p:Prop}{f:Fm}(h:(Fm.need p f).holds):p/\f.holds:=by
 unfold Fm.holds at h;split at h
 .rename_i e;exact⟨h,Fm.BE e⟩
 .exact h
def Fm.lM{f g:Fm}(h:(Fm.both f g).holds):f.holds/\g.holds:=by
 unfold Fm.holds at h;split at h
 .rename_i e;exact⟨Fm.BE e,h⟩
 .rename_i e;exact⟨h,Fm.BE e⟩
 .exact h
def needs:List Prop->Fm->Fm
 |[],f=>f
 |p::l,f=> .need p (needs l f)
def j8:∀{l:List Prop} {f:Fm},(needs l f).holds->(∀p∈l,p)/\f.holds
 |[],f,h=>⟨by grind,h⟩
 |q::l,f,h=>by
  obtain⟨h1,h2⟩:=Fm.Sd h;obtain⟨h3,h4⟩:=j8 h2;grind
def kS:List Prop->Prop
 |[] =>True
 |[p] =>p
 |p::l=>p/\kS l
def fN:∀{l:List Prop},kS l↔∀p∈l,p
 |[] =>⟨by grind,λ_=>trivial⟩
 |[p] =>⟨λh q hq=>(by rw[bO.1 hq];exact h),λh=>h p (by grind)⟩
 |p::q::l=>by
  show p/\kS (q::l)↔_;rw[fN];exact⟨by grind,λh=>⟨h p (by grind),by grind⟩⟩
def CC(l:List Prop)(f:Fm):Fm:=match l with
 |[] =>f
 |p::l=> .imp (kS (p::l)) f
def D6{l:List Prop}{f:Fm}(h:(CC l f).holds)(hl:∀p∈l,p):f.holds:=by
 cases l with
 |nil=>exact h
 |cons p l=>exact(h:kS (p::l)->_) (fN.2 hl)
inductive LT where
 |V|S|R|I|B|P|Q|T|U|E|F
deriving DecidableEq
@[reducible] def LT.ty : LT → Type
  | .V => Geo.V
  | .S => Geo.S
  | .R => bF
  | .I => Int
  | .B => Bool
  | .P => Nat × Nat
  | .Q => List Int
  | .T => Pt
  | .U => List Pt
  | .E => Ed
  | .F => List (List Int)
def LT.w:LT->Nat
 | .V=>2
 | .S=>4
 | .R=>1
 | .I=>1
 | .B=>1
 | .P=>2
 | .Q=>1
 | .T=>3
 | .U=>1
 | .E=>5
 | .F=>1
def nW(l:List Int):List PV:=l.flatMap λn=>[.int .i64 n]
def aJ(l:List (List Int))(i:Nat):List Int:=l.getD i []
def Ol(l:List Pt):List PV:=l.flatMap λp=>[.int .i64 p.x,.int .i64 p.y,.int .i64 p.den]
def Om(l:List (List Int)):List PV:=l.flatMap λr=>[.sl r.length (nW r)]
def aP(l:List Pt)(i:Nat):Pt:=l.getD i ⟨0,0,1⟩
def pA(l:List (List Pt))(i:Nat):List Pt:=l.getD i []
def aX(l:List Ed)(i:Nat):Ed:=l.getD i ⟨0,0,0,0,[]⟩
def ag(l:List (List (List Int)))(i:Nat):List (List Int):=l.getD i []
def LT.rowP:(t:LT)->t.ty->List PV
 | .V=>λv=>[.int .i64 v.x,.int .i64 v.y]
 | .S=>λs=>[.int .i64 s.a.x,.int .i64 s.a.y,.int .i64 s.b.x,.int .i64 s.b.y]
 | .R=>λr=>[.sl r.length (gz r)]
 | .I=>λn=>[.int .i64 n]
 | .B=>λb=>[.bool b]
 | .P=>λp=>[.int .i64 p.1,.int .i64 p.2]
 | .Q=>λr=>[.sl r.length (nW r)]
 | .T=>λp=>[.int .i64 p.x,.int .i64 p.y,.int .i64 p.den]
 | .U=>λr=>[.sl r.length (Ol r)]
 | .E=>λe=>[.int .i64 e.fr,.int .i64 e.to,.int .i64 e.lf,.int .i64 e.rt,.sl e.src.length (nW e.src)]
 | .F=>λr=>[.sl r.length (Om r)]
def LT.enc(t:LT)(l:List t.ty):List PV:=l.flatMap t.rowP
def LT.wide(t:LT):iy t.w t.enc t.rowP:=λ_=>⟨rfl,λx=>by cases t<;>rfl⟩
def LT.gn(t:LT):0<t.w:=by cases t<;>decide
def LT.nth:(t:LT)->List t.ty->Nat->t.ty
 | .V=>aB0
 | .S=>aO
 | .R=>aa
 | .I=>aK
 | .B=>cN
 | .P=>OX
 | .Q=>aJ
 | .T=>aP
 | .U=>pA
 | .E=>aX
 | .F=>ag
def LT.nth_eq(t:LT)(l:List t.ty){i:Nat}(h:i<l.length):t.nth l i=l[i] :=by
 cases t
 .exact Go.Proofs.YtdnhebjljnfjaaaGreat.nth_eq h
 .exact mq h
 .exact sR h
 .exact cE h
 .exact cE h
 .exact Ww h
 .exact cE h
 .exact cE h
 .exact cE h
 .exact cE h
 .exact cE h
inductive SV where
 |any|undef|nil
 |int (k:IntKind) (n:Int)
 |bool (b:Bool)
 |lit (b:Bool)
 |prop (p:Prop) (d:Decidable p)
 |str (s:ByteArray)
 |agg (l:List SV)
 |tup (l:List SV)
 |lst (t:LT) (l:List t.ty)
 |sl (n:Nat) (cells:List SV)
 |pe (t:LT) (l:List t.ty) (i off:Nat)
 |pro (cells:List SV) (off:Nat)
 |fn (f:Nat) (first caps:List SV)
 |fnp (f:Nat) (first caps:List SV)
 |clo1 (pv:PV) (t:LT) (q:t.ty->Bool) (dom:t.ty->Prop)
 |clo2 (pv:PV) (t:LT) (q:t.ty->t.ty->Int) (dom:t.ty->t.ty->Prop)
 |ptr (s off:Nat)
 |pte (s:Nat) (t:LT) (i off:Nat)
 |own (s:Nat) (t:LT) (n:Nat)
 |owns (s:Nat) (t:LT) (o n:Nat)
 |ownx (s n:Nat)
 |ptb (F:Nat->Bool) (n off:Nat)
 |ownf (x:Nat) (t:LT) (a n:Nat)
 |ptef (x:Nat) (t:LT) (a i off:Nat)
 |ptf (x a:Nat)
 |owF (x n:Nat)
 |junk
 |mp (s:Nat)
def NM:Nat:=1000000
def ncl(x:Nat):Nat:=x % NM
def idx(s:Nat):Nat:=(s/2^cls s-1)/2
def AE(n i:Nat):idx (sit n i)=i:=by unfold idx;rw[fF];unfold sit;rw[Nat.mul_div_cancel_left _ (by grind)];omega
def GY(n i:Nat):0<sit n i:=Nat.mul_pos (by grind) (by omega)
structure Sites where
 inn:Nat->Nat->Nat
 nm:Nat->Nat
 sub:Nat->Nat
 h1:∀x a,nm (inn x a)=x
 h2:∀x a,sub (inn x a)=a
 h3:∀x a,cls (inn x a)=ncl x
 h4:∀x,x<NM->inn x 0=sit x 0
theorem SQ:Nonempty Sites:=⟨⟨λx a=>sit (x % NM) (sit (x/NM) a-1),λs=>cls (idx s+1)*NM+cls s,λs=>idx (idx s+1),
 λx a=>by rw[AE,fF,Nat.sub_add_cancel (GY _ _),fF];exact Nat.div_add_mod' x NM,
 λx a=>by rw[AE,Nat.sub_add_cancel (GY _ _),AE],
 λx a=>fF _ _,
 λx h=>by rw[mC h,Nat.div_eq_of_lt h];rfl⟩⟩
def sites:Sites:=Classical.choice SQ
def inn(x a:Nat):Nat:=sites.inn x a
def aD(x:Nat):Nat:=inn x 0
def nm(s:Nat):Nat:=sites.nm s
def sub(s:Nat):Nat:=sites.sub s
def la(x a:Nat):nm (inn x a)=x:=sites.h1 x a
def lR(x a:Nat):sub (inn x a)=a:=sites.h2 x a
def cL(x a:Nat):cls (inn x a)=ncl x:=sites.h3 x a
def cI{x y a b:Nat}(h:inn x a=inn y b):x=y/\a=b:=⟨by rw[<-la x a,h,la],by rw[<-lR x a,h,lR]⟩
def eD{x y:Nat}(h:aD x=aD y):x=y:=(cI h).1
def ur{x:Nat}(h:x<NM):aD x=sit x 0:=sites.h4 x h
def wq(n:Nat)(F:Nat->Bool):List PV:=(bN n).map λk=> .bool (F k)
def Uk(F:Nat->Bool){n k:Nat}(h:k<n):(wq n F)[k]? =some (.bool (F k)):=by unfold wq;grind
def iE(l:List AV):AV:=match bK l with|some q=> .p (.tup q)|none=> .tup l
mutual
def SV.av:SV->AV
 | .any=> .any
 | .undef=> .undef
 | .nil=> .nil
 | .int k n=> .p (.int k n)
 | .bool b=> .p (.bool b)
 | .lit b=> .p (.bool b)
 | .prop p d=> .p (.bool (@decide p d))
 | .str s=> .p (.str s)
 | .agg l=>dn (avs l)
 | .tup l=>iE (avs l)
 | .lst t l=> .p (.sl l.length (t.enc l))
 | .sl n cs=>(match bK (avs cs)with|some q=> .p (.sl n q)|none=> .any)
 | .pe t l i off=> .p (.pro (t.enc l) (i*t.w+off))
 | .pro cs off=>(match bK (avs cs)with|some q=> .p (.pro q off)|none=> .any)
 | .fn f a b=> .fn (.func f) (avs a) (avs b)
 | .fnp f a b=>(match bK (avs a),bK (avs b)with|some x,some y=> .p (.fn (.func f) x y)|_,_=> .any)
 | .clo1 pv _ _ _=> .p pv
 | .clo2 pv _ _ _=> .p pv
 | .ptr s off=> .ptr (aD s) off
 | .pte s t i off=> .ptr (aD s) (i*t.w+off)
 | .own s _ n=> .own (aD s) 0 n
 | .owns s t o n=> .own (aD s) (o*t.w) n
 | .ownx s n=> .own (aD s) 0 n
 | .ptb F n off=> .p (.pro (wq n F) off)
 | .ownf x _ a n=> .own (inn x (a+1)) 0 n
 | .ptef x t a i off=> .ptr (inn x (a+1)) (i*t.w+off)
 | .ptf x a=> .ptr (aD x) a
 | .owF x n=> .own (aD x) 0 n
 | .junk=> .p .junk
 | .mp s=> .mp (aD s)
def avs:List SV->List AV
 |[] =>[]
 |x::l=>x.av::avs l
end
def fy:∀l:List SV,avs l=l.map SV.av
 |[] =>rfl
 |x::l=>by rw[avs,fy l];rfl
def fT(l:List SV):(avs l).length=l.length:=by rw[fy,dt]
def lN(l m:List SV):avs (l++m)=avs l++avs m:=by rw[fy,fy,fy,dQ]
def vf(l:List SV)(k:Nat):avs (l.drop k)=(avs l).drop k:=by rw[fy,fy,uX]
def sH(l:List SV)(k:Nat):avs (l.take k)=(avs l).take k:=by rw[fy,fy,rI]
def qB(l:List SV)(k:Nat):(avs l)[k]? =(l[k]?).map SV.av:=by rw[fy,dH]
def vw(l:List SV)(k:Nat)(x:SV):avs (l.set k x)=(avs l).set k x.av:=by rw[fy,fy,List.map_set]
def LT.row:(t:LT)->t.ty->List SV
 | .V=>λv=>[.int .i64 v.x,.int .i64 v.y]
 | .S=>λs=>[.int .i64 s.a.x,.int .i64 s.a.y,.int .i64 s.b.x,.int .i64 s.b.y]
 | .R=>λr=>[.lst .V r]
 | .I=>λn=>[.int .i64 n]
 | .B=>λb=>[.bool b]
 | .P=>λp=>[.int .i64 p.1,.int .i64 p.2]
 | .Q=>λr=>[.lst .I r]
 | .T=>λp=>[.int .i64 p.x,.int .i64 p.y,.int .i64 p.den]
 | .U=>λr=>[.lst .T r]
 | .E=>λe=>[.int .i64 e.fr,.int .i64 e.to,.int .i64 e.lf,.int .i64 e.rt,.lst .I e.src]
 | .F=>λr=>[.lst .Q r]
def LT.wA(t:LT)(x:t.ty):avs (t.row x)=(t.rowP x).map .p:=by cases t<;>rfl
def LT.dec:(t:LT)->List SV->Option t.ty
 | .V,[.int .i64 x,.int .i64 y] =>some ⟨x,y⟩
 | .S,[.int .i64 a,.int .i64 b,.int .i64 c,.int .i64 d] =>some ⟨⟨a,b⟩,⟨c,d⟩⟩
 | .R,[.lst .V r] =>some r
 | .R,[.nil] =>none
 | .I,[.int .i64 n] =>some n
 | .Q,[.lst .I r] =>some r
 | .T,[.int .i64 x,.int .i64 y,.int .i64 d] =>some ⟨x,y,d⟩
 | .U,[.lst .T r] =>some r
 | .E,[.int .i64 a,.int .i64 b,.int .i64 c,.int .i64 d,.lst .I r] =>some ⟨a,b,c,d,r⟩
 | .F,[.lst .Q r] =>some r
 | .B,[.bool b] =>some b
 | .B,[.lit b] =>some b
 | .B,[.prop p d] =>some (@decide p d)
 | .P,[.int .i64 (.ofNat a),.int .i64 (.ofNat b)] =>some (a,b)
 |_,_=>none
def LT.tK{t:LT}{cs:List SV}{x:t.ty}(h:t.dec cs=some x):avs cs=(t.rowP x).map .p:=by unfold LT.dec at h;split at h<;>first|(cases h;done)|(cases h;rfl)
def LT.decs(t:LT):Nat->List SV->Option (List t.ty)
 |0,[] =>some []
 |0,_=>none
 |n+1,cs=>match t.dec (cs.take t.w),t.decs n (cs.drop t.w)with
  |some x,some l=>some (x::l)
  |_,_=>none
def LT.oT{t:LT}:∀{n:Nat} {cs:List SV} {l:List t.ty},t.decs n cs=some l->l.length=n/\avs cs=(t.enc l).map .p
 |0,[],l,h=>by simp only[LT.decs,fL]at h;subst h;exact⟨rfl,rfl⟩
 |0,_::_,l,h=>by simp[LT.decs]at h
 |n+1,cs,l,h=>by
  unfold LT.decs at h;split at h
  .rename_i x l' h1 h2;cases h;obtain⟨h3,h4⟩:=LT.oT h2;have h5:=LT.tK h1;refine⟨by simp[h3],?_⟩;have h6:avs cs=avs (cs.take t.w)++avs (cs.drop t.w):=by rw[<-lN,lK]
   rw[h6,h5,h4];simp only[LT.enc,pN,dQ]
  .cases h
def cQ:∀l:List PV,bK (l.map .p)=some l
 |[] =>rfl
 |x::l=>by simp only[cO,bK,cQ l,dV]
def nv(l:List PV):dn (l.map .p)= .p (.agg l):=by unfold dn;rw[cQ]
def LT.sub(t:LT)(l:List t.ty){i:Nat}(h:i<l.length)(off m:Nat)(hm:off+m<=t.w):
  ((t.enc l).drop (i*t.w+off)).take m=((t.rowP (t.nth l i)).drop off).take m:=by
 rw[LT.nth_eq t l h];exact t.wide.sub l h off m hm
def LT.get(t:LT)(l:List t.ty){i:Nat}(h:i<l.length)(off:Nat)(hm:off<t.w):
  (t.enc l)[i*t.w+off]? =(t.rowP (t.nth l i))[off]? :=by
 have h1:=congrArg (λl=>l[0]?) (LT.sub t l h off 1 (by omega));grind
def svK:Value->SV
 | .int k n=> .int k n
 | .bool b=> .lit b
 | .string s=> .str s
 | .slice none 0 0=> .nil
 |_=> .any
def IE(v:Value):(svK v).av=iR v:=by unfold svK;split<;>simp only[SV.av,iR]
def zk:∀vs:List Value,avs (vs.map svK)=vs.map iR
 |[] =>rfl
 |v::vs=>by simp only[cO,avs,IE,zk vs]
def svC:Value->SV
 | .agg cs=>if cs.toList.all (·.oneCell')=true then .agg (cs.toList.map svK)else .any
 | .tuple vs=>if vs.toList=[]then .undef else .any
 |v=>svK v
def Xw(v:Value):(svC v).av=oP v:=by
 unfold svC;split
 .split<;>rename_i h<;>simp only[oP,SV.av,zk,h] <;>rfl
 .split<;>rename_i h<;>simp only[oP,SV.av,h,if_true,if_false]
 .rw[IE];unfold oP;grind
abbrev Frm:=List (Nat×SV)
def Frm.at:Frm->Nat->SV
 |[],_=> .undef
 |(d,v)::F,t=>match af t d with|true=>v|false=>Frm.at F t
def Frm.cW(d:Nat)(v:SV)(F:Frm)(t:Nat):Frm.at ((d,v)::F) t=if t=d then v else Frm.at F t:=by
 conv=>lhs;unfold Frm.at
 split
 .simp_all
 .rename_i h;rw[if_neg (fw h)]
def Frm.av(n:Nat)(F:Frm):List AV:=(bN n).map λt=>(F.at t).av
def Frm.dv(n:Nat)(F:Frm):(F.av n).length=n:=by simp[Frm.av]
def Frm.fU{n:Nat}{F:Frm}{t:Nat}(h:t<n):(F.av n).getD t .any=(F.at t).av:=by unfold Frm.av;grind
def Frm.od{n:Nat}{F:Frm}{d:Nat}{v:SV}(h:d<n):cF (F.av n) (some d) v.av=Frm.av n ((d,v)::F):=by
 unfold cF;apply i7;intro i;rw[gh];by_cases hi:i<n
 .by_cases e:d=i
  .subst e;rw[if_pos rfl,if_pos (by rw[Frm.dv];exact h)];unfold Frm.av;rw[dH,iK h,dV,Frm.cW,if_pos rfl]
  .rw[if_neg e];unfold Frm.av;rw[dH,dH,iK hi,dV,dV,Frm.cW,if_neg (by grind)]
 .have h1:(Frm.av n ((d,v)::F))[i]? =none:=d8 (by rw[Frm.dv];omega);have h2:(F.av n)[i]? =none:=d8 (by rw[Frm.dv];omega);grind
def br(n:Nat)(F:Frm):Operand->SV
 | .tmp t=>(match dB t n with|true=>F.at t|false=> .any)
 | .const v=>svC v
 | .func f=> .fnp f [] []
 | .global _=> .any
def eG{n:Nat}{F:Frm}(x:Operand):(br n F x).av=c6 (F.av n) x:=by
 cases x with
 |tmp t=>
  show(match dB t n with|true=>F.at t|false=>SV.any).av=(F.av n).getD t .any;cases h:dB t n with
  |true=>rw[Frm.fU (by simp_all)]
  |false=>
   have h2:¬(t+1<=n):=λhh=>by have:=Nat.ble_eq_true_of_le hh;rw[show dB t n=iL (t+1) n from rfl]at h;grind
   rw[b9,d8 (by rw[Frm.dv];grind)];rfl
 |const v=>exact Xw v
 |func f=>rfl
 |global g=>rfl
inductive SOb where
 |box (ty:TypeId) (cells:List SV)
 |row (ty:TypeId) (t:LT) (l:List t.ty)
 |arr (ty esz:Nat) (cells:List SV)
 |fam (ty ity:TypeId) (t:LT) (L:List (List t.ty)) (ov:List (Nat×SV))
 |mp (ks:List (Nat×Nat))
 |mf (M:List ((Nat×Nat)×List Int))
 |it (cur:Option ((Nat×Nat)×List Int)) (M:List ((Nat×Nat)×List Int))
def mfK(f:Nat->Nat):Nat->List ((Nat×Nat)×List Int)->List (List Int×AV)
 |_,[] =>[]
 |i,q::M=>([(q.1.1:Int),(q.1.2:Int)],.own (f i) 0 q.2.length)::mfK f (i+1) M
def itE(q:(Nat×Nat)×List Int):List Int×PV:=([(q.1.1:Int),(q.1.2:Int)],.sl q.2.length (LT.enc .I q.2))
def itK(M:List ((Nat×Nat)×List Int)):List (List Int×AV):=M.map λq=>((itE q).1,.p (itE q).2)
def itQ:Option ((Nat×Nat)×List Int)->AV
 |none=> .any
 |some q=> .tup [.p (.agg (eL (itE q).1)),.p (itE q).2]
def vV:∀M:List ((Nat×Nat)×List Int),bu (itK M)=(M.flatMap λq=>[PV.agg (eL (itE q).1),(itE q).2]).map .p
 |[] =>rfl
 |q::M=>by
  have:=vV M;unfold bu itK at*;grind
def cj(x:Nat){α:Type}(L:List (List α))(ov:List (Nat×SV))(i:Nat):AV:=match ov.lookup i with
 |some v=>v.av
 |none=> .own (inn x (i+1)) 0 (L.getD i []).length
def fH(ks:List (Nat×Nat)):List (List Int×AV):=ks.map λk=>([(k.1:Int),(k.2:Int)],.p (.bool true))
def n8:∀ks:List (Nat×Nat),bu (fH ks)=(ks.flatMap λk=>[PV.agg (eL [(k.1:Int),(k.2:Int)]),.bool true]).map .p
 |[] =>rfl
 |k::ks=>by
  have:=n8 ks;unfold bu fH at*;grind
def SOb.ob(x:Nat):SOb->Ob
 | .box ty cs=>⟨ty,0,avs cs⟩
 | .row ty t l=>⟨ty,t.w,(t.enc l).map .p⟩
 | .arr ty esz cs=>⟨ty,esz,avs cs⟩
 | .fam ty _ _ L ov=>⟨ty,1,(bN L.length).map (cj x L ov)⟩
 | .mp ks=>⟨1,0,bu (fH ks)⟩
 | .mf M=>⟨1,0,bu (mfK (λi=>inn x (i+1)) 0 M)⟩
 | .it cur M=>itC (aD x) (inn x 1) (itQ cur) (itK M)
def SOb.inner(a:Nat):SOb->Option Ob
 | .fam _ ity t L ov=>(match ov.lookup a with|some _=>none|none=>(L[a]?).map λl=>⟨ity,t.w,(t.enc l).map .p⟩)
 | .mf M=>(M[a]?).map λq=>⟨3,1,(LT.enc .I q.2).map .p⟩
 |_=>none
def SOb.flat:SOb->Bool
 | .fam .. =>false
 | .mf _=>false
 |_=>true
def SOb.yT{ob:SOb}(h:ob.flat=true)(a:Nat):ob.inner a=none:=by cases ob<;>first|rfl|cases h
abbrev aM:=List (Nat×Option SOb)
def aM.at:aM->Nat->Option SOb
 |[],_=>none
 |(k,x)::L,s=>match af s k with|true=>x|false=>aM.at L s
abbrev Sg:=Nat->Option SOb
open Classical in
def Sg.a(σ:Sg):Sto:=λs=>if inn (nm s) (sub s)=s then(match sub s with
 |0=>(σ (nm s)).map (SOb.ob (nm s))
 |a+1=>(σ (nm s)).bind (SOb.inner a))else none
def Sg.bZ(σ:Sg)(x:Nat):σ.a (aD x)=(σ x).map (SOb.ob x):=by unfold Sg.a aD;rw[lR,la,if_pos rfl]
def Sg.cq(σ:Sg)(x a:Nat):σ.a (inn x (a+1))=(σ x).bind (SOb.inner a):=by unfold Sg.a;rw[lR,la,if_pos rfl]
def Sg.fp(σ:Sg){s:Nat}(h:∀x a,s≠inn x a):σ.a s=none:=by unfold Sg.a;grind
def gT(s:Nat):(∃x,s=aD x)\/(∃x a,s=inn x (a+1))\/∀x a,s≠inn x a:=by
 by_cases h:∃x a,s=inn x a
 .obtain⟨x,a,rfl⟩:=h;cases a with
  |zero=>exact .inl ⟨x,rfl⟩
  |succ a=>grind
 grind
def aM.up(W:aM)(σ:Sg):Sg:=λs=>match W.lookup s with|some x=>x|none=>σ s
def aM.oh(W L:aM):W.up L.at=(W++L).at:=by
 funext s
 unfold aM.up;induction W with
 |nil=>rfl
 |cons q W ih=>
  obtain⟨k,x⟩:=q;show _=(match af s k with|true=>x|false=>aM.at (W++L) s);rw[dD];cases h:af s k with
  |true=>simp_all
  |false=>rw[beq_eq_false_iff_ne.2 (fw h)];exact ih
def bJ(σ:Sg)(rd:List Nat)(W:aM)(R':List Nat)(W':List (Nat×Option Ob)):Prop:=
 inC R' (rd.map ncl)/\inC (W'.map (·.1)) (W.map λq=>ncl q.1)/\aY σ.a W'=(W.up σ).a
def bJ.read(σ:Sg)(rd:List Nat):bJ σ rd [] (rd.map aD) [] :=by refine⟨λs hs=> ?_,λs hs=>by grind,rfl⟩;obtain⟨x,hx,rfl⟩:=cC.1 hs;rw[show cls (aD x)=ncl x from cL x 0];grind
def frs(σ:Sg)(n:Nat):Bool:=match dB n NM,σ n with
 |true,none=>true
 |_,_=>false
def gU{σ:Sg}{n:Nat}(h:frs σ n=true):aD n=sit n 0/\σ n=none:=by
 unfold frs at h;split at h
 .rename_i h1 h2;exact⟨ur (by simp_all),h2⟩
 .cases h
def ly:Option SOb->Bool
 |some ob=>ob.flat
 |none=>true
def aM.sto(W:aM):List (Nat×Option Ob):=W.map λq=>(aD q.1,q.2.map (SOb.ob q.1))
def Se(W:aM)(x:Nat):W.sto.lookup (aD x)=(W.lookup x).map λo=>o.map (SOb.ob x):=by
 induction W with
 |nil=>rfl
 |cons q W ih=>
  obtain⟨k,o⟩:=q;show((aD k,o.map (SOb.ob k))::aM.sto W).lookup (aD x)=_;rw[dD,dD];by_cases h:x=k
  .subst h;simp
  .rw[beq_eq_false_iff_ne.2 h,beq_eq_false_iff_ne.2 λe=>h (eD e)];exact ih
def Dp{W:aM}{s:Nat}(h:∀x,s≠aD x):W.sto.lookup s=none:=by
 induction W with
 |nil=>rfl
 |cons q W ih=>
  show((aD q.1,q.2.map (SOb.ob q.1))::aM.sto W).lookup s=_;grind
def bJ.flat{σ:Sg}{rd:List Nat}{W:aM}(h:∀q∈W,ly (σ q.1)=true/\ly q.2=true):bJ σ rd W (rd.map aD) W.sto:=by
 refine⟨(bJ.read σ rd).1,λs hs=> ?_,?_⟩
 .unfold aM.sto at hs;rw[gS]at hs;obtain⟨q,hq,rfl⟩:=cC.1 hs;show cls (aD q.1)∈_;rw[show cls (aD q.1)=ncl q.1 from cL q.1 0];grind
 .funext s
  unfold aY;rcases gT s with⟨x,rfl⟩|⟨x,a,rfl⟩|hno
  .rw[Se,Sg.bZ,Sg.bZ];unfold aM.up;grind
  .rw[Dp λy e=>by have:=(cI e).2;omega,Sg.cq,Sg.cq];unfold aM.up;cases hl:W.lookup x with
   |none=>rfl
   |some o=>
    have hm:(x,o)∈W:=by
     clear h;induction W with
     |nil=>cases hl
     |cons q W ih=>
      grind
    obtain⟨h1,h2⟩:=h _ hm;have nofam:∀p:Option SOb,ly p=true->p.bind (SOb.inner a)=none:=λp hp=>by
     cases p with
     |none=>rfl
     |some ob=>exact SOb.yT hp a
    grind
  .rw[Dp λy e=>hno y 0 e,Sg.fp σ hno,Sg.fp _ hno]
end
noncomputable section
def aG(x:Int):Prop:= -9223372036854775808<=x/\x<=9223372036854775807
def ED{x:Int}(h:aG x):dm.wrap x=x:=by unfold aG at h;exact IntWalk.i64_in _ (by omega)
def ix(a:Int)(n:Nat):Prop:=0<=a/\a<(n:Int)
def tG{k n:Nat}(h:k<n):ix k n:=⟨by omega,by omega⟩
def eu{k n:Nat}(h:0<n):ix (((k % n:Nat):Int)) n:=tG (fJ _ h)
abbrev SR:=Option (List Prop×SV×List Nat×aM)
abbrev SE:=Operand->SV
def SE.a(E:SE):Operand->AV:=λx=>(E x).av
def nN(P:Program)(n:Nat)(o:Oper)(E:SE)(σ:Sg)(R:SR):Prop:=
 ∀ps r rd W,R=some (ps,r,rd,W)->(∀p∈ps,p)->AOp P n o E.a σ.a λr' R' W'=>r'=r.av/\bJ σ rd W R' W'
def SV.ok:SV->Prop
 | .pe _ l i _=>i<l.length
 |_=>True
def SV.ape:SV->Bool
 | .pe .. =>true
 |_=>false
def SV.jh{v:SV}(h:v.ape=false):v.ok:=by cases v<;>first|trivial|cases h
def tM(x:SV):Option (List SV):=match x with
 | .agg l=>some l
 | .tup _=>none
 | .any=>none
 | .undef=>none
 | .sl n cs=>(match bK (avs cs)with|some _=>some [.sl n cs] |none=>none)
 | .pro cs o=>(match bK (avs cs)with|some _=>some [.pro cs o] |none=>none)
 | .fnp f a b=>(match bK (avs a),bK (avs b)with|some _,some _=>some [.fnp f a b] |_,_=>none)
 | .clo1 .. =>none
 | .clo2 .. =>none
 | .junk=>none
 |x=>some [x]
def Rh(l:List AV):jG (dn l)=some l:=by
 unfold dn;cases h:bK l with
 |some q=>rw[show jG (.p (.agg q))=some (q.map .p)from rfl,<-fD h]
 |none=>rfl
def yx{x:SV}{l:List SV}(h:tM x=some l):jG x.av=some (avs l):=by
 cases x<;>simp only[tM,reduceCtorEq,fL]at h<;>first|(subst h;rfl)|skip
 .subst h;exact Rh _
 .rename_i n cs;cases hq:bK (avs cs)with
  |none=>grind
  |some q=>rw[hq]at h;cases h;simp only[avs,SV.av,hq,jG]
 .rename_i cs o;cases hq:bK (avs cs)with
  |none=>grind
  |some q=>rw[hq]at h;cases h;simp only[avs,SV.av,hq,jG]
 .rename_i f a b;cases ha:bK (avs a)<;>cases hb:bK (avs b)<;>rw[ha,hb]at h<;>simp only[reduceCtorEq,fL]at h;subst h;simp only[avs,SV.av,ha,hb,jG]
def jJ(cs:List SV)(off:Nat):List SV->List SV
 |[] =>cs
 |x::l=>jJ (cs.set off x) (off+1) l
def pu:∀(l cs:List SV) (off:Nat),avs (jJ cs off l)=cn (avs cs) off (avs l)
 |[],cs,off=>rfl
 |x::l,cs,off=>by rw[jJ,pu l,vw];rfl
def qd(place:Nat->Option (Nat×Nat))(cells:List SV):List (Nat×SV)->Option (List SV)
 |[] =>some cells
 |(i,v)::rest=>match place i,tM v with
  |some (off,size),some l=>(match af l.length size,iL (off+size) cells.length with
   |true,true=>qd place (jJ cells off l) rest
   |_,_=>none)
  |_,_=>none
def zW{place:Nat->Option (Nat×Nat)}:∀(parts:List (Nat×SV)) {cells l:List SV},qd place cells parts=some l->kI place (avs cells) (parts.map λq=>(q.1,q.2.av))=some (avs l)
 |[],cells,l,h=>by simp only[qd,fL]at h;subst h;rfl
 |(i,v)::rest,cells,l,h=>by
  unfold qd at h;split at h
  .rename_i off size m h1 h2;split at h
   .have:=zW rest h;show(match place i,jG v.av with|some (off,size),some l=>if l.length=size/\off+size<=(avs cells).length then kI place (cn (avs cells) off l) (rest.map λ(q:Nat×SV)=>(q.1,q.2.av))else none|_,_=>none)=_;rw[h1,yx h2];dsimp only;rw[if_pos ⟨by rw[fT];simp_all,by rw[fT];simp_all⟩,<-pu];exact this
   .cases h
  .cases h
def ko(P:Program)(t:TypeId)(cs:List SV)(off:Nat):Option SV:=match tok P t,fi P t with
 |true,true=>(match af ((cs.drop off).take (aj P t)).length (aj P t)with|true=>some (.agg ((cs.drop off).take (aj P t)))|false=>none)
 |true,false=>cs[off]?
 |false,_=>none
def mW{P:Program}{t:TypeId}{cs:List SV}{off:Nat}{r:SV}(h:ko P t cs off=some r){K:AV->Prop}(hK:K r.av):nH P t (avs cs) off K:=by
 unfold ko at h;split at h
 .rename_i h1 h2;split at h
  .cases h;refine⟨h1,?_⟩;rw[if_pos h2];refine⟨_,rfl,?_,?_⟩
   .rw[<-vf,<-sH,fT];simp_all
   .rw[<-vf,<-sH];exact hK
  .cases h
 .rename_i h1 h2;refine⟨h1,?_⟩;rw[if_neg (by rw[h2];simp)];exact⟨r.av,by rw[qB,h];rfl,hK⟩
 .cases h
def zR{P:Program}{t:TypeId}{cs:List PV}{off:Nat}{K:AV->Prop}(h:nH P t (cs.map .p) off K):Be P t cs off λr=>K (.p r):=by
 obtain⟨h1,h2⟩:=h;refine⟨h1,?_⟩;split at h2
 .rename_i hg;rw[if_pos hg];obtain⟨l,h3,h4,h5⟩:=h2;refine⟨(cs.drop off).take (aj P t),rfl,?_,?_⟩
  .grind
  .rw[<-h3,<-uX,<-rI,nv]at h5;exact h5
 grind
def yh{P:Program}{t:TypeId}{lt:LT}{l:List lt.ty}{i off:Nat}(hi:i<l.length)(hoff:off+(match fi P t with|true=>aj P t|false=>1)<=lt.w){f:List PV->List AV}(hf:f=List.map .p){K:AV->Prop}
  (h:nH P t (f (lt.rowP (lt.nth l i))) off K):nH P t (f (lt.enc l)) (i*lt.w+off) K:=by
 subst hf;obtain⟨h1,h2⟩:=h;refine⟨h1,?_⟩;split at h2
 .rename_i hg;rw[hg]at hoff;rw[if_pos hg];obtain⟨m,h3,h4,h5⟩:=h2;refine⟨m,?_,h4,h5⟩;rw[<-uX,<-rI,LT.sub lt l hi off _ hoff,<-h3,rI,uX]
 .rename_i hg;have hg':fi P t=false:=by simpa using hg
  rw[if_neg hg];obtain⟨x,h3,h4⟩:=h2;refine⟨x,?_,h4⟩;rw[dH]at h3|-;rw[LT.get lt l hi off (by grind)];exact h3
def iv:List (Nat×SV)->Nat->List Prop
 |[],_=>[]
 |q::l,a=>(a≠q.1)::iv l a
def n7:∀{ov:List (Nat×SV)} {a:Nat},(∀p∈iv ov a,p)->ov.lookup a=none
 |[],_,_=>rfl
 |q::l,a,h=>by
  rw[dD,beq_eq_false_iff_ne.2 (h _ eC)];exact n7 λp hp=>h p (dR _ hp)
def bJ.readI(σ:Sg)(x a:Nat):bJ σ [x] [] [inn x (a+1)] [] :=by refine⟨λs hs=> ?_,λs hs=>by grind,rfl⟩;rw[bO.1 hs,cL];grind
def Vp(x:Nat){α:Type}(L:List (List α))(ov:List (Nat×SV)){a:Nat}(h:a<L.length):((bN L.length).map (cj x L ov))[a]? =some (cj x L ov a):=by grind
def yk{σ:Sg}{x a:Nat}{ty ity:TypeId}{lt:LT}{L:List (List lt.ty)}{ov:List (Nat×SV)}(hs:σ x=some (.fam ty ity lt L ov))(ha:a<L.length)(ho:ov.lookup a=none):σ.a (inn x (a+1))=some ⟨ity,lt.w,(lt.enc (L.getD a [])).map .p⟩:=by rw[Sg.cq,hs];show(match ov.lookup a with|some _=>none|none=>(L[a]?).map λl=>(⟨ity,lt.w,(lt.enc l).map .p⟩:Ob))=_;grind
def bJ.cell{σ:Sg}{x:Nat}{ty ity:TypeId}{lt:LT}{L:List (List lt.ty)}{q:Nat×SV}{ov:List (Nat×SV)}{v:SV}(hs:σ x=some (.fam ty ity lt L (q::ov))):
  bJ σ [x] [(x,some (.fam ty ity lt L ((q.1,v)::ov)))] [aD x] [(aD x,some ⟨ty,1,((bN L.length).map (cj x L (q::ov))).set q.1 v.av⟩)] :=by
 refine⟨(bJ.read σ [x]).1,λs hs=> ?_,?_⟩
 .rw[bO.1 hs];rw[show cls (aD x)=ncl x from cL x 0];grind
 .funext s
  unfold aY;rcases gT s with⟨y,rfl⟩|⟨y,b,rfl⟩|hno
  .rw[Sg.bZ,Sg.bZ,dD];unfold aM.up;rw[dD];by_cases e:y=x
   .subst e;rw[beq_iff_eq.2 rfl,beq_iff_eq.2 rfl];dsimp only[dV]
    congr 1
    congr 1
    refine Cn (by simp) λi h1 h2=> ?_;rw[List.getElem_set];unfold cj;grind
   .rw[beq_eq_false_iff_ne.2 e,beq_eq_false_iff_ne.2 λh=>e (eD h)];rfl
  .rw[Sg.cq,Sg.cq,dD,beq_eq_false_iff_ne.2 λh=>by have:=(cI h).2;omega];unfold aM.up;rw[dD];by_cases e:y=x
   .subst e;rw[beq_iff_eq.2 rfl,hs];unfold SOb.inner;grind
   grind
  .rw[Sg.fp _ hno,Sg.fp _ hno,dD,beq_eq_false_iff_ne.2 (show s≠aD x from λh=>hno x 0 h)];rfl
def tS(P:Program)(t:TypeId)(x:SV)(σ:Sg):SR:=match x with
 | .pe lt l i off=>(match iL (off+(match fi P t with|true=>aj P t|false=>1)) lt.w,ko P t (lt.row (lt.nth l i)) off with
   |true,some r=>some ([],r,[],[])
   |_,_=>none)
 | .pro cs off=>(match bK (avs cs),ko P t cs off with
   |some _,some r=>some ([],r,[],[])
   |_,_=>none)
 | .ptb F n off=>(match tok P t,fi P t with
   |true,false=>some ([off<n],.bool (F off),[],[])
   |_,_=>none)
 | .ptr s off=>(match σ s with
   |some (.box _ cs)=>(match ko P t cs off with|some r=>some ([],r,[s],[])|none=>none)
   |some (.arr _ _ cs)=>(match ko P t cs off with|some r=>some ([],r,[s],[])|none=>none)
   |_=>none)
 | .pte s lt i off=>(match σ s with
   |some (.row _ lt' l)=>(match decEq lt' lt,iL (off+(match fi P t with|true=>aj P t|false=>1)) lt'.w,ko P t (lt'.row (lt'.nth l i)) off with
    | .isTrue _,true,some r=>some ([i<l.length],r,[s],[])
    |_,_,_=>none)
   |_=>none)
 | .ptf x a=>(match σ x with
   |some (.fam _ _ lt L ov)=>(match tok P t,fi P t with
    |true,false=>some ((a<L.length)::iv ov a,.ownf x lt a (L.getD a []).length,[x],[])
    |_,_=>none)
   |_=>none)
 | .ptef x lt a i off=>(match σ x with
   |some (.fam _ _ lt' L ov)=>(match decEq lt' lt,iL (off+(match fi P t with|true=>aj P t|false=>1)) lt'.w,ko P t (lt'.row (lt'.nth (L.getD a []) i)) off with
    | .isTrue _,true,some r=>some ((a<L.length)::(i<(L.getD a []).length)::iv ov a,r,[x],[])
    |_,_,_=>none)
   |_=>none)
 |_=>none
def U1{P:Program}{n:Nat}{o:Oper}{E:SE}{σ:Sg}{t:TypeId}{x:Operand}(ho:o.op= .load t x)(hx:(E x).ok):nN P n o E σ (tS P t (E x) σ):=by
 intro ps r rd W h hp;unfold AOp;rw[ho];dsimp only;unfold tS at h;split at h
 .rename_i lt l i off e;split at h<;>cases h;rename_i h1 h2;rw[e]at hx;rw[show E.a x= .p (.pro (lt.enc l) (i*lt.w+off)) by unfold SE.a;rw[e];rfl];refine zR (K:=λr'=>r'=r.av/\_) ?_;refine yh hx (jA h1) rfl ?_;rw[<-LT.wA];exact mW h2 ⟨rfl,bJ.read σ []⟩
 .rename_i cs off e;split at h<;>cases h;rename_i q h1 h2;rw[show E.a x= .p (.pro q off) by unfold SE.a;rw[e];simp only[SV.av,h1]];refine zR (K:=λr'=>r'=r.av/\_) ?_;rw[<-fD h1];exact mW h2 ⟨rfl,bJ.read σ []⟩
 .rename_i F m off e;split at h<;>cases h;rename_i h1 h2;have hlt:off<m:=hp _ (by grind);rw[show E.a x= .p (.pro (wq m F) off) by unfold SE.a;rw[e];rfl];refine zR (K:=λr'=>r'=(SV.bool (F off)).av/\_) ?_;exact⟨h1,by rw[if_neg (by rw[h2];simp)];exact⟨.p (.bool (F off)),by rw[dH,Uk F hlt];rfl,rfl,bJ.read σ []⟩⟩
 .rename_i s off e;rw[show E.a x= .ptr (aD s) off by unfold SE.a;rw[e];rfl];split at h
  .rename_i ty cs hs;split at h<;>cases h;rename_i h2;refine⟨_,by rw[Sg.bZ,hs];rfl,?_⟩;exact mW h2 ⟨rfl,bJ.read σ [s]⟩
  .rename_i ty ez cs hs;split at h<;>cases h;rename_i h2;refine⟨_,by rw[Sg.bZ,hs];rfl,?_⟩;exact mW h2 ⟨rfl,bJ.read σ [s]⟩
  .cases h
 .rename_i s lt i off e;rw[show E.a x= .ptr (aD s) (i*lt.w+off) by unfold SE.a;rw[e];rfl];split at h
  .rename_i ty lt' l hs;split at h<;>cases h;rename_i he h1 h2 h3;subst he;refine⟨_,by rw[Sg.bZ,hs];rfl,?_⟩;refine yh (hp _ (by simp)) (jA h2) rfl ?_;rw[<-LT.wA];exact mW h3 ⟨rfl,bJ.read σ [s]⟩
  .cases h
 .rename_i y a e;rw[show E.a x= .ptr (aD y) a by unfold SE.a;rw[e];rfl];split at h
  .rename_i ty ity lt L ov hs;split at h<;>cases h;rename_i h1 h2;have ha:a<L.length:=hp _ (by grind);have ho:ov.lookup a=none:=n7 (by grind);refine⟨_,by rw[Sg.bZ,hs];rfl,h1,?_⟩;rw[if_neg (by rw[h2];simp)];refine⟨_,Vp y L ov ha,?_,bJ.read σ [y]⟩;unfold cj;rw[ho];rfl
  .cases h
 .rename_i y lt a i off e;rw[show E.a x= .ptr (inn y (a+1)) (i*lt.w+off) by unfold SE.a;rw[e];rfl];split at h
  .rename_i ty ity lt' L ov hs;split at h<;>cases h;rename_i he h1 h2 h3;subst he;have ha:a<L.length:=hp _ (by grind);have hi:i<(L.getD a []).length:=hp _ (by grind);have ho:ov.lookup a=none:=n7 (by grind);refine⟨_,yk hs ha ho,?_⟩;refine yh hi (jA h2) rfl ?_;rw[<-LT.wA];exact mW h3 ⟨rfl,bJ.readI σ y a⟩
  .cases h
 .cases h
def qE(P:Program)(t:TypeId)(a v:SV)(σ:Sg):SR:=match tM v,(P.info? t).isSome with
 |some l,true=>(match af l.length (aj P t)with
  |true=>(match a with
   | .ptr s off=>(match σ s with
     |some (.box ty cs)=>(match iL (off+l.length) cs.length with|true=>some ([],.undef,[s],[(s,some (.box ty (jJ cs off l)))])|false=>none)
     |some (.arr ty ez cs)=>(match iL (off+l.length) cs.length with|true=>some ([],.undef,[s],[(s,some (.arr ty ez (jJ cs off l)))])|false=>none)
     |_=>none)
   | .pte s lt i off=>(match σ s with
     |some (.row ty lt' m)=>(match decEq lt' lt,iL (off+l.length) lt'.w,lt'.dec (jJ (lt'.row (lt'.nth m i)) off l)with
      | .isTrue _,true,some e=>some ([i<m.length],.undef,[s],[(s,some (.row ty lt' (m.set i e)))])
      |_,_,_=>none)
     |_=>none)
   | .ptf x a=>(match l,σ x with
     |[v],some (.fam ty ity lt L (q::ov))=>some ([a=q.1,a<L.length],.undef,[x],[(x,some (.fam ty ity lt L ((q.1,v)::ov)))])
     |_,_=>none)
   |_=>none)
  |false=>none)
 |_,_=>none
def DU{a b c l:List AV}{k off:Nat}(hk:k=a.length)(hoff:off+l.length<=b.length):cn (a++b++c) (k+off) l=a++cn b off l++c:=by
 induction l generalizing b off with
 |nil=>rfl
 |cons x l ih=>
  simp only[hZ]at hoff;rw[cn,cn,jz,Co _ _ (by omega),show k+off-a.length=off by omega,List.set_append_left _ _ (by omega),<-jz,show k+off+1=k+(off+1) by omega,ih (by simp;omega)]
def XW(t:LT)(l:List t.ty){i:Nat}(h:i<l.length)(e:t.ty):t.enc l=t.enc (l.take i)++t.rowP l[i] ++t.enc (l.drop (i+1))/\t.enc (l.set i e)=t.enc (l.take i)++t.rowP e++t.enc (l.drop (i+1)):=by
 constructor
 .conv=>lhs;rw[<-lK i l,<-List.getElem_cons_drop h]
  unfold LT.enc;grind
 .rw[List.set_eq_take_append_cons_drop,if_pos h];unfold LT.enc;grind
def TE{P:Program}{n:Nat}{o:Oper}{E:SE}{σ:Sg}{t:TypeId}{a x:Operand}(ho:o.op= .store t a x):nN P n o E σ (qE P t (E a) (E x) σ):=by
 intro ps r rd W h hp;unfold AOp;rw[ho];dsimp only;unfold qE at h;split at h
 case h_2=>cases h
 rename_i l hl ht;split at h
 case h_2=>cases h
 rename_i hsz;have hl':jG (E.a x)=some (avs l):=yx hl;have hsz':(avs l).length=aj P t:=by rw[fT];exact bm hsz
 split at h
 .rename_i s off e;rw[show E.a a= .ptr (aD s) off by unfold SE.a;rw[e];rfl];unfold qD;split at h
  .rename_i ty cs hs;split at h<;>cases h;refine⟨_,_,by rw[Sg.bZ,hs];rfl,hl',hsz',ht,?_,rfl,?_⟩
   .show off+(avs l).length<=(avs cs).length;rw[fT,fT];simp_all
   .show bJ _ _ _ _ [(aD s,some (⟨ty,0,cn (avs cs) off (avs l)⟩:Ob))];rw[<-pu];exact bJ.flat (W:=[(s,some (.box ty (jJ cs off l)))]) λq hq=>by rw[bO.1 hq,hs];exact⟨rfl,rfl⟩
  .rename_i ty ez cs hs;split at h<;>cases h;refine⟨_,_,by rw[Sg.bZ,hs];rfl,hl',hsz',ht,?_,rfl,?_⟩
   .show off+(avs l).length<=(avs cs).length;rw[fT,fT];simp_all
   .show bJ _ _ _ _ [(aD s,some (⟨ty,ez,cn (avs cs) off (avs l)⟩:Ob))];rw[<-pu];exact bJ.flat (W:=[(s,some (.arr ty ez (jJ cs off l)))]) λq hq=>by rw[bO.1 hq,hs];exact⟨rfl,rfl⟩
  .cases h
 .rename_i s lt i off e;rw[show E.a a= .ptr (aD s) (i*lt.w+off) by unfold SE.a;rw[e];rfl];unfold qD;split at h
  .rename_i ty lt' m hs;split at h<;>cases h;rename_i he h1 _ h2 h3;subst he;have hi:i<m.length:=hp _ (by simp);obtain⟨e1,e2⟩:=XW lt' m hi h1;have h2':=jA h2;have hlen:(lt'.enc (m.take i)).length=i*lt'.w:=by rw[lt'.wide.length,fS,rH (by omega)]
   refine⟨_,_,by rw[Sg.bZ,hs];rfl,hl',hsz',ht,?_,rfl,?_⟩
   .show i*lt'.w+off+(avs l).length<=((lt'.enc m).map AV.p).length;rw[fT,dt,lt'.wide.length];have:(i+1)*lt'.w<=m.length*lt'.w:=uP _ (by omega);grind
   .have e3:cn ((lt'.enc m).map AV.p) (i*lt'.w+off) (avs l)=(lt'.enc (m.set i h1)).map AV.p:=by
     rw[e2,dQ,dQ,<-LT.tK h3,pu,LT.wA,LT.nth_eq lt' m hi]
     conv=>lhs;rw[e1,dQ,dQ]
     rw[DU (by grind) (by rw[fT,dt,(lt'.wide []).2];exact h2')]
    show bJ _ _ _ _ [(aD s,some (⟨ty,lt'.w,cn ((lt'.enc m).map AV.p) (i*lt'.w+off) (avs l)⟩:Ob))];rw[e3];exact bJ.flat (W:=[(s,some (.row ty lt' (m.set i h1)))]) λq hq=>by rw[bO.1 hq,hs];exact⟨rfl,rfl⟩
  .cases h
 .rename_i y b e;rw[show E.a a= .ptr (aD y) b by unfold SE.a;rw[e];rfl];unfold qD;split at h<;>cases h;rename_i v ty ity lt L q ov hs;have hb:b=q.1:=hp _ (by grind);have hL:b<L.length:=hp _ (by grind);refine⟨_,_,by rw[Sg.bZ,hs];rfl,hl',hsz',ht,?_,rfl,?_⟩
  .show b+1<=((bN L.length).map (cj y L (q::ov))).length;grind
  .subst hb;exact bJ.cell hs
 .cases h
def oj(P:Program)(t:TypeId):Option (List SV):=match kk P t with
 |true=>(match P.info? t with
  |some i=>(match i.zero with|some z=>some (z.cells.toList.map svK)|none=>none)
  |none=>none)
 |false=>none
def oD{P:Program}{t:TypeId}{z:List SV}(h:oj P t=some z):lr P t=some (avs z)/\kk P t=true:=by
 unfold oj at h;split at h
 .rename_i hz;split at h
  .rename_i i hi;split at h<;>cases h;rename_i zv hzv;refine⟨?_,hz⟩;unfold lr;rw[hi,kV,hzv,dV,zk]
  .cases h
 .cases h
def bJ.new{σ:Sg}{n:Nat}{ob:SOb}(h:σ n=none)(hs:aD n=sit n 0)(hf:ob.flat=true):bJ σ [] [(n,some ob)] [] [(sit n 0,some (ob.ob n))] :=by rw[<-hs];exact bJ.flat (rd:=[]) (W:=[(n,some ob)]) λq hq=>by rw[bO.1 hq,h];exact⟨rfl,hf⟩
def sw(P:Program)(σ:Sg)(n:Nat)(t:TypeId):SR:=match oj P t,frs σ n with
 |some z,true=>some ([],.ptr n 0,[],[(n,some (.box t z))])
 |_,_=>none
def TW{P:Program}{n:Nat}{o:Oper}{E:SE}{σ:Sg}{t:TypeId}(ho:o.op= .alloc t):nN P n o E σ (sw P σ n t):=by intro ps r rd W h hp;unfold AOp;rw[ho];unfold sw at h;split at h<;>cases h;rename_i z hz hf;obtain⟨h1,h2⟩:=oD hz;obtain⟨f1,f2⟩:=gU hf;exact⟨_,h1,h2,by show _=AV.ptr (aD n) 0;rw[f1],bJ.new f2 f1 rfl⟩
def tj(σ:Sg)(n:Nat)(t:TypeId)(x:SV):SR:=match tM x,frs σ n with
 |some l,true=>some ([],.ptr n 0,[],[(n,some (.box t l))])
 |_,_=>none
def We{P:Program}{n:Nat}{o:Oper}{E:SE}{σ:Sg}{t:TypeId}{x:Operand}(ho:o.op= .box t x):nN P n o E σ (tj σ n t (E x)):=by intro ps r rd W h hp;unfold AOp;rw[ho];unfold tj at h;split at h<;>cases h;rename_i l hl hf;obtain⟨f1,f2⟩:=gU hf;exact⟨_,yx hl,by show _=AV.ptr (aD n) 0;rw[f1],bJ.new f2 f1 rfl⟩
def ss(P:Program)(t:TypeId)(parts:List (Nat×SV)):SR:=match oj P t,zw P t with
 |some z,true=>(match qd (Al P t) z parts with|some l=>some ([],.agg l,[],[])|none=>none)
 |_,_=>none
def TS{P:Program}{n:Nat}{o:Oper}{E:SE}{σ:Sg}{t:TypeId}{parts:Array (Nat×Operand)}(ho:o.op= .build t parts):nN P n o E σ (ss P t (parts.toList.map λq=>(q.1,E q.2))):=by
 intro ps r rd W h hp;unfold AOp;rw[ho];unfold ss at h;split at h
 .rename_i z hz hk;split at h<;>cases h;rename_i l hl;obtain⟨h1,h2⟩:=oD hz;have:=zW _ hl;rw[gS]at this;exact⟨_,h1,h2,hk,_,this,rfl,bJ.read σ []⟩
 .cases h
def qk:Nat->List SV->List SV
 |0,_=>[]
 |m+1,z=>z++qk m z
def zo(z:List SV):∀m,avs (qk m z)=jn m (avs z)
 |0=>rfl
 |m+1=>by rw[qk,lN,zo z m];rfl
def sM(P:Program)(σ:Sg)(n:Nat)(t:TypeId)(len:Nat)(parts:List (Nat×SV)):SR:=match bp P t with
 |some e=>(match oj P e,iL (len*aj P e) 1000000,frs σ n with
  |some (z0::zs),true,true=>(match qd (λi=>some (i*aj P e,aj P e)) (qk len (z0::zs)) parts with
   |some l=>some ([],.ownx n len,[],[(n,some (.arr e (aj P e) l))])
   |none=>none)
  |_,_,_=>none)
 |none=>none
def SW{P:Program}{n:Nat}{o:Oper}{E:SE}{σ:Sg}{t:TypeId}{len:Nat}{parts:Array (Nat×Operand)}(ho:o.op= .buildSlice t len parts):nN P n o E σ (sM P σ n t len (parts.toList.map λq=>(q.1,E q.2))):=by
 intro ps r rd W h hp;unfold AOp;rw[ho];unfold sM at h;split at h
 .rename_i e he;split at h
  .rename_i z0 zs hz hb hf;split at h<;>cases h;rename_i l hl;obtain⟨f1,f2⟩:=gU hf;obtain⟨h1,h2⟩:=oD hz;have:=zW _ hl;rw[gS,zo]at this;exact⟨e,_,he,h1,h2,(by simp[avs]),jA hb,_,this,by show _=AV.own (aD n) 0 len;rw[f1],bJ.new f2 f1 rfl⟩
  .cases h
 .cases h
def BP(c a b:SV):Option SV:=match c with
 | .lit true=>some a
 | .lit false=>some b
 | .prop p d=>(match a,b with
   | .int .i64 x,.int .i64 y=>some (.int .i64 (@ite _ p d x y))
   | .bool x,.bool y=>some (.bool (@ite _ p d x y))
   | .prop q e,.lit y=>some (.bool (@ite _ p d (@decide q e) y))
   | .lit x,.prop q e=>some (.bool (@ite _ p d x (@decide q e)))
   | .bool x,.lit y=>some (.bool (@ite _ p d x y))
   | .lit x,.bool y=>some (.bool (@ite _ p d x y))
   |_,_=>none)
 | .bool c=>(match a,b with
   | .int .i64 x,.int .i64 y=>some (.int .i64 (if c=true then x else y))
   | .bool x,.bool y=>some (.bool (if c=true then x else y))
   | .bool x,.lit y=>some (.bool (if c=true then x else y))
   | .lit x,.bool y=>some (.bool (if c=true then x else y))
   |_,_=>none)
 |_=>none
def Uq{c a b r:SV}(h:BP c a b=some r){K:AV->Prop}(hK:K r.av):qS c.av a.av b.av K:=by
 unfold BP at h;split at h
 .cases h;exact hK
 .cases h;exact hK
 .rename_i p d;split at h<;>cases h<;>(simp only[SV.av,qS]at*;cases d<;>rename_i hp<;>simpa[hp]using hK)
 .rename_i c;split at h<;>cases h<;>(simp only[SV.av,qS]at*;cases c<;>simpa using hK)
 .cases h
def Ah(P:Program)(t:TypeId)(x:SV)(f:Nat):Option SV:=match l9 P t f with
 |some q=>(match x with
  | .ptr s off=>some (.ptr s (off+q.1))
  | .pe lt l i off=>some (.pe lt l i (off+q.1))
  | .pte s lt i off=>some (.pte s lt i (off+q.1))
  | .ptf z b=>(match af q.1 0 with|true=>some (.ptf z b)|false=>none)
  | .pro cs off=>(match bK (avs cs)with|some _=>some (.pro cs (off+q.1))|none=>none)
  |_=>none)
 |none=>none
def TQ{P:Program}{t:TypeId}{x:SV}{f:Nat}{r:SV}(h:Ah P t x f=some r){K:AV->Prop}(hK:K r.av):Aw P t f x.av K/\(x.ok->r.ok):=by
 unfold Ah at h;split at h
 .rename_i q hq;split at h
  .cases h;exact⟨⟨q,hq,hK⟩,λ_=>trivial⟩
  .cases h;exact⟨⟨q,hq,by simpa[SV.av,na]using hK⟩,λh=>h⟩
  .cases h;exact⟨⟨q,hq,by simpa[SV.av,na]using hK⟩,λ_=>trivial⟩
  .split at h<;>cases h;rename_i h0;have h0:=bm h0;exact⟨⟨q,hq,by simpa[SV.av,h0]using hK⟩,λ_=>trivial⟩
  .split at h<;>cases h;rename_i m hm;refine⟨⟨q,hq,?_⟩,λ_=>trivial⟩;simp only[SV.av,hm]at hK|-;exact hK
  .cases h
 .cases h
def Ag(P:Program)(t:TypeId)(x:SV)(f:Nat):Option SV:=match l9 P t f,x with
 |some q,.agg l=>(match tok P q.2,fi P q.2 with
  |true,true=>some (.agg ((l.drop q.1).take (aj P q.2)))
  |true,false=>l[q.1]?
  |false,_=>none)
 |_,_=>none
def TP{P:Program}{t:TypeId}{x:SV}{f:Nat}{r:SV}(h:Ag P t x f=some r){K:AV->Prop}(hK:K r.av):At P t f x.av K:=by
 unfold Ag at h;split at h
 .rename_i q l hq;refine⟨q,hq,?_⟩;have key:ou P q.2 (avs l) q.1 K:=by
   split at h
   .rename_i h1 h2;cases h;refine⟨h1,?_⟩;rw[if_pos h2];exact⟨_,rfl,by rw[<-vf,<-sH];exact hK⟩
   .rename_i h1 h2;refine⟨h1,?_⟩;rw[if_neg (by rw[h2];simp)];exact⟨r.av,by rw[qB,h];rfl,hK⟩
   .cases h
  show(match dn (avs l)with| .agg l=>ou P q.2 l q.1 K| .p (.agg l)=>ou P q.2 (l.map .p) q.1 K|_=>False);unfold dn;cases hq:bK (avs l)with
  |none=>exact key
  |some m=>dsimp only;rw[<-fD hq];exact key
 .cases h
def sq(P:Program)(t:TypeId)(x i:SV):Option (List Prop×SV):=match i with
 | .int _ a=>(match x with
   | .lst lt l=>(match bp P t with
     |some e=>(match(P.info? e).isSome,af (aj P e) lt.w with|true,true=>some ([ix a l.length],.pe lt l a.toNat 0)|_,_=>none)
     |none=>none)
   | .own s lt n=>(match bp P t with
     |some e=>(match(P.info? e).isSome,af (aj P e) lt.w with|true,true=>some ([ix a n],.pte s lt a.toNat 0)|_,_=>none)
     |none=>none)
   | .owns s lt o n=>(match bp P t with
     |some e=>(match(P.info? e).isSome,af (aj P e) lt.w with|true,true=>some ([ix a n],.pte s lt (o+a.toNat) 0)|_,_=>none)
     |none=>none)
   | .ownx s n=>(match bp P t with
     |some e=>(match(P.info? e).isSome with|true=>some ([ix a n],.ptr s (a.toNat*aj P e))|_=>none)
     |none=>none)
   | .owF x n=>(match bp P t with
     |some e=>(match(P.info? e).isSome,af (aj P e) 1 with|true,true=>some ([ix a n],.ptf x a.toNat)|_,_=>none)
     |none=>none)
   | .ownf x lt b n=>(match bp P t with
     |some e=>(match(P.info? e).isSome,af (aj P e) lt.w with|true,true=>some ([ix a n],.ptef x lt b a.toNat 0)|_,_=>none)
     |none=>none)
   | .sl n cs=>(match bp P t,bK (avs cs)with
     |some e,some _=>(match(P.info? e).isSome with|true=>some ([ix a n],.pro cs (a.toNat*aj P e))|_=>none)
     |_,_=>none)
   | .ptr s off=>(match nP P t with
     |some q=>(match(P.info? q.2).isSome with|true=>some ([ix a q.1],.ptr s (off+a.toNat*aj P q.2))|_=>none)
     |none=>none)
   | .pe lt l j off=>(match nP P t with
     |some q=>(match(P.info? q.2).isSome with|true=>some ([ix a q.1,j<l.length],.pe lt l j (off+a.toNat*aj P q.2))|_=>none)
     |none=>none)
   | .ptb F m off=>(match nP P t with
     |some q=>(match(P.info? q.2).isSome with|true=>some ([ix a q.1],.ptb F m (off+a.toNat*aj P q.2))|_=>none)
     |none=>none)
   | .pro cs off=>(match nP P t,bK (avs cs)with
     |some q,some _=>(match(P.info? q.2).isSome with|true=>some ([ix a q.1],.pro cs (off+a.toNat*aj P q.2))|_=>none)
     |_,_=>none)
   |_=>none)
 |_=>none
def TN{P:Program}{t:TypeId}{x i:SV}{ps:List Prop}{r:SV}(h:sq P t x i=some (ps,r))(hp:∀p∈ps,p){K:AV->Prop}(hK:K r.av):wH P t x.av i.av K/\r.ok:=by
 unfold sq at h;split at h
 case h_2=>cases h
 rename_i k a;split at h
 .rename_i lt l;split at h
  .rename_i e he;split at h<;>cases h;rename_i h1 h2;have hb:=hp _ (bO.2 rfl);unfold ix at hb;refine⟨⟨e,he,h1,hb.1,hb.2,?_⟩,show a.toNat<l.length by omega⟩;rw[bm h2];exact hK
  .cases h
 .split at h
  .rename_i e he;split at h<;>cases h;rename_i h1 h2;have hb:=hp _ (bO.2 rfl);refine⟨⟨e,he,h1,hb.1,hb.2,?_⟩,trivial⟩;rw[bm h2,gR];exact hK
  .cases h
 .split at h
  .rename_i e he;split at h<;>cases h;rename_i h1 h2;have hb:=hp _ (bO.2 rfl);refine⟨⟨e,he,h1,hb.1,hb.2,?_⟩,trivial⟩;rw[bm h2,<-lJ];exact hK
  .cases h
 .split at h
  .rename_i e he;split at h<;>cases h;rename_i h1;have hb:=hp _ (bO.2 rfl);refine⟨⟨e,he,h1,hb.1,hb.2,?_⟩,trivial⟩;rw[gR];exact hK
  .cases h
 .split at h
  .rename_i e he;split at h<;>cases h;rename_i h1 h2;have hb:=hp _ (bO.2 rfl);refine⟨⟨e,he,h1,hb.1,hb.2,?_⟩,trivial⟩;rw[bm h2,gR,Nat.mul_one];exact hK
  .cases h
 .split at h
  .rename_i e he;split at h<;>cases h;rename_i h1 h2;have hb:=hp _ (bO.2 rfl);refine⟨⟨e,he,h1,hb.1,hb.2,?_⟩,trivial⟩;rw[bm h2,gR];exact hK
  .cases h
 .split at h
  .rename_i e m he hm;split at h<;>cases h;rename_i h1;have hb:=hp _ (bO.2 rfl);refine⟨?_,trivial⟩;simp only[SV.av,hm]at hK|-;exact⟨e,he,h1,hb.1,hb.2,hK⟩
  .cases h
 .split at h
  .rename_i q hq;split at h<;>cases h;rename_i h1;have hb:=hp _ (bO.2 rfl);exact⟨⟨q,hq,h1,hb.1,hb.2,hK⟩,trivial⟩
  .cases h
 .rename_i lt l j off;split at h
  .rename_i q hq;split at h<;>cases h;rename_i h1;have hb:=hp _ (eC);refine⟨⟨q,hq,h1,hb.1,hb.2,?_⟩,hp (j<l.length) (by grind)⟩;rw[na];exact hK
  .cases h
 .split at h
  .rename_i q hq;split at h<;>cases h;rename_i h1;have hb:=hp _ (bO.2 rfl);exact⟨⟨q,hq,h1,hb.1,hb.2,hK⟩,trivial⟩
  .cases h
 .split at h
  .rename_i q m hq hm;split at h<;>cases h;rename_i h1;have hb:=hp _ (bO.2 rfl);refine⟨?_,trivial⟩;simp only[SV.av,hm]at hK|-;exact⟨q,hq,h1,hb.1,hb.2,hK⟩
  .cases h
 .cases h
def bJ.newF{σ:Sg}{n m:Nat}{e ie:TypeId}{lt:LT}(h:σ n=none)(hs:aD n=sit n 0):
  bJ σ [] [(n,some (.fam e ie lt (bT m []) []))] [] ((sit n 0,some ⟨e,1,(bN m).map λj=> .own (inn n (j+1)) 0 0⟩)::(bN m).map λj=>(inn n (j+1),some ⟨ie,lt.w,[]⟩)):=by
 rw[<-hs];refine⟨λs hm=>by grind,λs hm=> ?_,?_⟩
 .have hc:cls s=ncl n:=by
   rcases bh.1 hm with rfl|hm
   .exact cL n 0
   .rw[gS]at hm;obtain⟨j,_,rfl⟩:=cC.1 hm;exact cL n (j+1)
  grind
 .funext s
  unfold aY;rw[dD,x7 (λj=>inn n (j+1))];rcases gT s with⟨y,rfl⟩|⟨y,b,rfl⟩|hno
  .rw[if_neg (show¬aD y∈(bN m).map λj=>inn n (j+1)from λhm=>by obtain⟨j,_,hj⟩:=cC.1 hm;have:=(cI hj).2;omega)]
   rw[Sg.bZ,Sg.bZ];unfold aM.up;rw[dD];by_cases e1:y=n
   .subst e1;rw[beq_iff_eq.2 rfl,beq_iff_eq.2 rfl];show some (⟨e,1,_⟩:Ob)=some ⟨e,1,(bN (bT m ([] :List lt.ty)).length).map (cj y (bT m ([] :List lt.ty)) [])⟩;rw[mH]
    congr 2
    refine mI λi hi=> ?_;show _=AV.own (inn y (i+1)) 0 ((bT m ([] :List lt.ty)).getD i []).length;grind
   .rw[beq_eq_false_iff_ne.2 e1,beq_eq_false_iff_ne.2 (show aD y≠aD n from λh=>e1 (eD h))];rfl
  .rw[beq_eq_false_iff_ne.2 (show inn y (b+1)≠aD n from λh=>by have:=(cI h).2;omega),Sg.cq,Sg.cq];unfold aM.up;rw[dD];by_cases e1:y=n
   .subst e1;rw[beq_iff_eq.2 rfl];show _=(((bT m ([] :List lt.ty))[b]?).map λl=>(⟨ie,lt.w,(lt.enc l).map .p⟩:Ob));rw[List.getElem?_replicate];by_cases hb:b<m
    .rw[if_pos (by grind),if_pos hb];rfl
    .rw[if_neg (show¬inn y (b+1)∈(bN m).map λj=>inn y (j+1)from λhm=>by obtain⟨j,h1,hj⟩:=cC.1 hm;have:=(cI hj).2;grind),if_neg hb,h];rfl
   .rw[if_neg (show¬inn y (b+1)∈(bN m).map λj=>inn n (j+1)from λhm=>by obtain⟨j,h1,hj⟩:=cC.1 hm;exact e1 (cI hj).1.symm),beq_eq_false_iff_ne.2 e1];rfl
  .rw[if_neg (by grind),beq_eq_false_iff_ne.2 (show s≠aD n from λh=>hno n 0 h),Sg.fp _ hno,Sg.fp _ hno]
def y9(x:PV):∀m,jn m [.p x] =(bT m x).map .p
 |0=>rfl
 |m+1=>by rw[jn,y9 x m,nc];rfl
def F6:∀m,LT.I.enc (bT m (0:Int))=bT m (.int .i64 0)
 |0=>rfl
 |m+1=>by rw[nc,nc,<-F6 m];rfl
def F7:∀m,LT.B.enc (bT m false)=bT m (.bool false)
 |0=>rfl
 |m+1=>by rw[nc,nc,<-F7 m];rfl
def tR(P:Program)(ltOf:TypeId->Option LT)(σ:Sg)(n:Nat)(t:TypeId)(x y:SV):SR:=match x,y with
 | .int _ a,.int _ b=>(match bp P t,frs σ n with
   |some e,true=>(match P.info? e,oj P e,af (aj P e) 1 with
    |some i,some [.int .i64 (.ofNat 0)],true=>some ([0<=a,b=a,a<=1000000,a.toNat*i.bytes<=1000000000],.own n .I a.toNat,[],[(n,some (.row e .I (bT a.toNat (0:Int))))])
    |some i,some [.lit false],true=>some ([0<=a,b=a,a<=1000000,a.toNat*i.bytes<=1000000000],.own n .B a.toNat,[],[(n,some (.row e .B (bT a.toNat false)))])
    |some i,some [.nil],true=>(match bp P e with
     |some ie=>(match ltOf ie with
      |some lt=>some ([0<=a,b=a,a<=1000000,a.toNat*i.bytes<=1000000000],.owF n a.toNat,[],[(n,some (.fam e ie lt (bT a.toNat []) []))])
      |none=>none)
     |none=>none)
    |_,_,_=>none)
   |_,_=>none)
 |_,_=>none
def Uy{P:Program}{ltOf:TypeId->Option LT}{n:Nat}{o:Oper}{E:SE}{σ:Sg}{t:TypeId}{x y:Operand}(ho:o.op= .makeSlice t x y):nN P n o E σ (tR P ltOf σ n t (E x) (E y)):=by
 intro ps r rd W h hp;unfold AOp;rw[ho];dsimp only;unfold tR at h;split at h
 case h_2=>cases h
 rename_i k1 a k2 b ea eb;rw[show E.a x= .p (.int k1 a) by unfold SE.a;rw[ea];rfl,show E.a y= .p (.int k2 b) by unfold SE.a;rw[eb];rfl];split at h
 case h_2=>cases h
 rename_i e he hf;obtain⟨f1,f2⟩:=gU hf;split at h
 .cases h;rename_i i hi hz hw;obtain⟨z1,z2⟩:=oD hz;have q1:0<=a:=hp _ (by simp);have q2:b=a:=hp _ (by simp);have q3:a<=1000000:=hp _ (by simp);have q4:a.toNat*i.bytes<=1000000000:=hp _ (by simp);have hw:=bm hw;subst q2;refine .inl ⟨k1,k2,b.toNat,e,_,i,by grind,by grind,he,hi,z1,z2,by simp[avs],by grind,q4,?_,?_⟩
  .show _=AV.own (aD n) 0 _;rw[f1]
  .rw[hw,show avs [SV.int .i64 (.ofNat 0)] =[.p (.int .i64 0)]from rfl,y9,<-F6];exact bJ.new (ob:= .row e .I (bT b.toNat (0:Int))) f2 f1 rfl
 .cases h;rename_i i hi hz hw;obtain⟨z1,z2⟩:=oD hz;have q1:0<=a:=hp _ (by simp);have q2:b=a:=hp _ (by simp);have q3:a<=1000000:=hp _ (by simp);have q4:a.toNat*i.bytes<=1000000000:=hp _ (by simp);have hw:=bm hw;subst q2;refine .inl ⟨k1,k2,b.toNat,e,_,i,by grind,by grind,he,hi,z1,z2,by simp[avs],by grind,q4,?_,?_⟩
  .show _=AV.own (aD n) 0 _;rw[f1]
  .rw[hw,show avs [SV.lit false] =[.p (.bool false)]from rfl,y9,<-F7];exact bJ.new (ob:= .row e .B (bT b.toNat false)) f2 f1 rfl
 .rename_i i hi hz hw;split at h
  case h_2=>cases h
  rename_i ie hie;split at h<;>cases h;rename_i lt hlt;obtain⟨z1,z2⟩:=oD hz;have q1:0<=a:=hp _ (by simp);have q2:b=a:=hp _ (by simp);have q3:a<=1000000:=hp _ (by simp);have q4:a.toNat*i.bytes<=1000000000:=hp _ (by simp);subst q2;have hcl:ncl n=n:=by have h1:cls (aD n)=ncl n:=cL n 0;rw[f1,fF]at h1;exact h1.symm
  refine .inr ⟨λj=>inn n (j+1),ie,lt.w,k1,k2,b.toNat,e,i,by grind,by grind,he,hi,z1,z2,by have:=lt.gn;omega,λj=>(cL n (j+1)).trans hcl,λj hj=> ?_,by omega,q4,?_,bJ.newF f2 f1⟩
  .rw[<-f1]at hj;have:=(cI hj).2;omega
  .show _=AV.own (aD n) 0 _;rw[f1]
 .cases h
def BU(x:SV)(i:Nat):Option SV:=match x with
 | .tup l=>l[i]?
 |_=>none
def U2{x:SV}{i:Nat}{r:SV}(h:BU x i=some r){K:AV->Prop}(hK:K r.av):tY x.av i K:=by
 unfold BU at h;split at h
 .rename_i l;have h1:(avs l)[i]? =some r.av:=by rw[qB,h];rfl
  show tY (iE (avs l)) i K;unfold iE;cases hq:bK (avs l)with
  |none=>exact⟨_,h1,hK⟩
  |some q=>
   rw[fD hq,dH]at h1;cases hc:q[i]? with
   |none=>grind
   |some y=>exact⟨y,hc,by grind⟩
 .cases h
end
noncomputable section
def jo(raw:Bool)(k:IntKind)(x:Int):List Prop×SV:=match raw,k with
 |false,.i64=>([aG x],.int .i64 x)
 |_,k=>([],.int k (k.wrap x))
def p8{raw:Bool}{k:IntKind}{x:Int}(h:∀p∈(jo raw k x).1,p):(jo raw k x).2.av= .p (.int k (k.wrap x)):=by
 unfold jo at h|-;split
 .rw[ED (h _ (by grind))];rfl
 .rfl
def td:SV->Option Bool
 | .bool b=>some b
 | .lit b=>some b
 | .prop p d=>some (@decide p d)
 |_=>none
def sG{x:SV}{b:Bool}(h:td x=some b):x.av= .p (.bool b):=by cases x<;>simp only[td,reduceCtorEq,fL]at h<;>subst h<;>rfl
def d9(k:IntKind)(a b:Int):Int:=k.wrap ((BitVec.ofInt k.bits a^^^BitVec.ofInt k.bits b).toNat:Int)
def aBW(k:IntKind)(a b:Int):Int:=k.wrap ((BitVec.ofInt k.bits a&&&BitVec.ofInt k.bits b).toNat:Int)
def orW(k:IntKind)(a b:Int):Int:=k.wrap ((BitVec.ofInt k.bits a|||BitVec.ofInt k.bits b).toNat:Int)
def l4(k:IntKind)(a b:Int):Int:=a.fdiv (2^min b.toNat k.bits)
def OQ(k:IntKind)(a b:Int):Int:=k.wrap (a*2^min b.toNat k.bits)
def sv(raw:Bool)(op:BinOp)(k:IntKind)(a b:Int):Option (List Prop×SV):=match op with
 | .add=>some (jo raw k (a+b))
 | .sub=>some (jo raw k (a-b))
 | .mul=>some (jo raw k (a*b))
 | .quo=>some ((b≠0)::(jo raw k (a.tdiv b)).1,(jo raw k (a.tdiv b)).2)
 | .rem=>some ([b≠0],.int k (a.tmod b))
 | .eql=>some ([],.prop (a=b) inferInstance)
 | .neq=>some ([],.prop (¬a=b) inferInstance)
 | .lss=>some ([],.prop (a<b) inferInstance)
 | .leq=>some ([],.prop (a<=b) inferInstance)
 | .gtr=>some ([],.prop (b<a) inferInstance)
 | .geq=>some ([],.prop (b<=a) inferInstance)
 | .xor=>some ([],.int k (d9 k a b))
 | .and=>some ([],.int k (aBW k a b))
 | .or=>some ([],.int k (orW k a b))
 | .shr=>some ([0<=b],.int k (l4 k a b))
 | .shl=>some ([0<=b],.int k (OQ k a b))
 |_=>none
def TV{raw:Bool}{op:BinOp}{k:IntKind}{a b:Int}{ps:List Prop}{r:SV}(h:sv raw op k a b=some (ps,r))(hp:∀p∈ps,p){K:AV->Prop}(hK:K r.av):qK op k a b K:=by
 unfold sv at h;split at h<;>simp only[fL,pI,reduceCtorEq]at h
 .have e:=p8 (raw:=raw) (k:=k) (x:=a+b) (by grind);unfold qK;grind
 .have e:=p8 (raw:=raw) (k:=k) (x:=a-b) (by grind);unfold qK;grind
 .have e:=p8 (raw:=raw) (k:=k) (x:=a*b) (by grind);unfold qK;grind
 .obtain⟨rfl,rfl⟩:=h;have e:=p8 (raw:=raw) (k:=k) (x:=a.tdiv b) (by grind);exact⟨hp _ (by grind),by grind⟩
 .obtain⟨rfl,rfl⟩:=h;exact⟨hp _ (by grind),hK⟩
 .obtain⟨rfl,rfl⟩:=h;exact hK
 .obtain⟨rfl,rfl⟩:=h;show K (.p (.bool (a !=b)));have:(a !=b)=decide (¬a=b):=by by_cases e:a=b<;>simp[e]
  rw[this];exact hK
 .obtain⟨rfl,rfl⟩:=h;exact hK
 .obtain⟨rfl,rfl⟩:=h;exact hK
 .obtain⟨rfl,rfl⟩:=h;exact hK
 .obtain⟨rfl,rfl⟩:=h;exact hK
 .obtain⟨rfl,rfl⟩:=h;exact hK
 .obtain⟨rfl,rfl⟩:=h;exact hK
 .obtain⟨rfl,rfl⟩:=h;exact hK
 .obtain⟨rfl,rfl⟩:=h;exact⟨hp _ (by grind),hK⟩
 .obtain⟨rfl,rfl⟩:=h;exact⟨hp _ (by grind),hK⟩
def qY:List SV->Option (List Int)
 |[] =>some []
 | .int .i64 a::l=>(match qY l with|some m=>some (a::m)|none=>none)
 |_::_=>none
def zT:∀{l:List SV} {m:List Int},qY l=some m->avs l=(eL m).map .p
 |[],m,h=>by simp only[qY,fL]at h;subst h;rfl
 |x::l,m,h=>by
  unfold qY at h;split at h
  .grind
  .rename_i a l' e;cases e;split at h<;>cases h;rename_i m' hm;rw[avs,zT hm];rfl
  .cases h
def rS:∀m:List Int,kh (eL m)=some m
 |[] =>rfl
 |x::m=>by
  have:=rS m;unfold eL at*;simp only[cO,kh,this,dV]
def eqP(xs ys:List Int):SV:=match xs,ys with
 |[a,b],[c,d] => .prop ((⟨a,b⟩:V)=⟨c,d⟩) inferInstance
 |[a,b,c,d],[e,f,g,h] => .prop ((⟨⟨a,b⟩,⟨c,d⟩⟩:S)=⟨⟨e,f⟩,⟨g,h⟩⟩) inferInstance
 |xs,ys=> .prop (xs=ys) inferInstance
def Iq(xs ys:List Int):(eqP xs ys).av= .p (.bool (xs==ys)):=by
 unfold eqP;split
 .show AV.p (.bool (decide _))=_
  congr 2
  grind
 .show AV.p (.bool (decide _))=_
  congr 2
  grind
 .show AV.p (.bool (decide _))=_;grind
def xA:SV->Option SV
 | .prop p d=>some (.prop (¬p) (@instDecidableNot p d))
 | .bool b=>some (.bool (!b))
 | .lit true=>some (.lit false)
 | .lit false=>some (.lit true)
 |_=>none
def Gq{x r:SV}(h:xA x=some r):∃b,x.av= .p (.bool b)/\r.av= .p (.bool (!b)):=by
 cases x<;>simp only[xA,reduceCtorEq,fL]at h
 .subst h;exact⟨_,rfl,rfl⟩
 .rename_i b;cases b<;>simp only[fL]at h<;>subst h<;>exact⟨_,rfl,rfl⟩
 .subst h;refine⟨_,rfl,?_⟩;show AV.p (.bool (decide _))=_;grind
abbrev EqT:=List (TypeId×Nat)
def EqT.Ok(P:Program)(q:EqT):Prop:=∀t m,(t,m)∈q->og P t m
def EqT.has:EqT->TypeId->Nat->Bool
 |[],_,_=>false
 |(a,b)::l,t,m=>(af a t&&af b m)||EqT.has l t m
def EqT.AF:∀{q:EqT} {t m:Nat},q.has t m=true->(t,m)∈q
 |[],t,m,h=>by cases h
 |(a,b)::l,t,m,h=>by
  simp only[EqT.has,Bool.or_eq_true,cB]at h;rcases h with⟨h1,h2⟩|h
  .simp_all
  .exact dR _ (EqT.AF h)
def tk(P:Program)(q:EqT)(raw:Bool)(op:BinOp)(t:TypeId)(x y:SV):Option (List Prop×SV):=match x,y with
 | .int k a,.int k' b=>(match decEq k' k with| .isTrue _=>sv raw op k a b| .isFalse _=>none)
 | .agg l,.agg m=>(match qY l,qY m with
   |some xs,some ys=>(match af xs.length ys.length,q.has t xs.length,op with
    |true,true,.eql=>some ([],eqP xs ys)
    |true,true,.neq=>(match xA (eqP xs ys)with|some r=>some ([],r)|none=>none)
    |_,_,_=>none)
   |_,_=>none)
 | .lst _ l,.nil=>(match(bp P t).isSome,op with
   |true,.eql=>some ([0<l.length],.lit false)
   |_,_=>none)
 |x,y=>(match td x,td y,BF P t,op with
  |some a,some b,true,.eql=>some ([],.bool (a==b))
  |some a,some b,true,.neq=>some ([],.bool (a !=b))
  |_,_,_,_=>none)
def Wf{P:Program}{q:EqT}(hq:q.Ok P){raw:Bool}{op:BinOp}{t:TypeId}{x y:SV}{ps:List Prop}{r:SV}(h:tk P q raw op t x y=some (ps,r))(hp:∀p∈ps,p){K:AV->Prop}(hK:K r.av):qv P op t x.av y.av K:=by
 unfold tk at h;split at h
 .split at h
  .rename_i e _;exact⟨e,TV h hp hK⟩
  .cases h
 .rename_i l m;split at h
  .rename_i xs ys hx hy;have key:∀(op:BinOp),(∃xs' ys',kh (eL xs)=some xs'/\kh (eL ys)=some ys'/\xs'.length=ys'.length/\og P t xs'.length/\(match op with| .eql=>K (.p (.bool (xs'==ys')))| .neq=>K (.p (.bool (xs' !=ys')))|_=>False))->qv P op t (SV.agg l).av (SV.agg m).av K:=by intro op h;show qv P op t (dn (avs l)) (dn (avs m)) K;rw[zT hx,zT hy,nv,nv];exact h
   split at h
   .rename_i h1 h2;cases h;refine key _ ⟨xs,ys,rS _,rS _,bm h1,hq _ _ (EqT.AF h2),?_⟩;rw[Iq]at hK;exact hK
   .rename_i h1 h2;split at h<;>cases h;rename_i hr;obtain⟨b,e1,e2⟩:=Gq hr;rw[Iq]at e1;refine key _ ⟨xs,ys,rS _,rS _,bm h1,hq _ _ (EqT.AF h2),?_⟩;grind
   .cases h
  .cases h
 .rename_i t' l;split at h<;>cases h;rename_i ht;have hl:0<l.length:=hp _ (by grind);refine⟨ht,λe=> ?_,rfl,hK⟩;have e2:=congrArg fe e;rw[t'.wide.length,List.length_nil]at e2;have:=Nat.mul_pos hl t'.gn;omega
 .split at h
  .rename_i a b h1 h2 h3;cases h;rw[sG h1,sG h2];exact⟨h3,hK⟩
  .rename_i a b h1 h2 h3;cases h;rw[sG h1,sG h2];exact⟨h3,hK⟩
  .cases h
def sun(raw:Bool)(op:UnOp)(x:SV):Option (List Prop×SV):=match op with
 | .not=>(match xA x with|some r=>some ([],r)|none=>none)
 | .neg=>(match x with| .int k a=>some (jo raw k (0-a))|_=>none)
 |_=>none
def Xx{raw:Bool}{op:UnOp}{x:SV}{ps:List Prop}{r:SV}(h:sun raw op x=some (ps,r))(hp:∀p∈ps,p){K:AV->Prop}(hK:K r.av):unA op x.av K:=by
 unfold sun at h;split at h
 .split at h<;>cases h;rename_i hr;obtain⟨b,e1,e2⟩:=Gq hr;rw[e1];rw[e2]at hK;exact hK
 .split at h
  .rename_i k a;simp only[fL]at h;have e:=p8 (raw:=raw) (k:=k) (x:=0-a) (by grind);show K _;grind
  .cases h
 .cases h
def tT(P:Program)(raw:Bool)(s d:TypeId)(x:SV):Option (List Prop×SV):=match x with
 | .int _ a=>(match(P.underlying s).isSome,Bu P d with
   |true,some k=>some (jo raw k a)
   |_,_=>none)
 |_=>none
def U5{P:Program}{raw:Bool}{s d:TypeId}{x:SV}{ps:List Prop}{r:SV}(h:tT P raw s d x=some (ps,r))(hp:∀p∈ps,p){K:AV->Prop}(hK:K r.av):wb P s d x.av K:=by
 unfold tT at h;split at h
 .rename_i k0 a;split at h
  .rename_i k h1 h2;simp only[fL]at h;have e:=p8 (raw:=raw) (k:=k) (x:=a) (by grind);exact⟨h1,k,h2,by grind⟩
  .cases h
 .cases h
def B9:SV->Option Int
 | .int _ n=>some n
 |_=>none
def G6{x:SV}{n:Int}(h:B9 x=some n):xE x.av=some n:=by cases x<;>simp only[B9,reduceCtorEq,fL]at h;subst h;rfl
def lC(E:SE):Option Operand->Option (Option Int)
 |none=>some none
 |some x=>(match B9 (E x)with|some n=>some (some n)|none=>none)
def sm(P:Program)(t:TypeId)(x:SV)(lo hi:Option Int):Option (List Prop×SV):=match bp P t with
 |some e=>(match(P.info? e).isSome,af (aj P e) 0 with
  |true,false=>(match x,lo,hi with
   | .lst lt l,lo,hi=>(match af (aj P e) lt.w with
     |true=>(match lo,hi with
      |none,none=>some ([],.lst lt l)
      |some a,none=>some ([0<=a/\a<=(l.length:Int)],.lst lt (l.drop a.toNat))
      |none,some b=>some ([0<=b/\b<=(l.length:Int)],.lst lt (l.take b.toNat))
      |some a,some b=>some ([0<=a/\a<=b/\b<=(l.length:Int)],.lst lt ((l.take b.toNat).drop a.toNat)))
     |false=>none)
   | .own s lt n,lo,hi=>(match af (aj P e) lt.w with
     |true=>(match lo,hi with
      |none,none=>some ([],.own s lt n)
      |none,some b=>some ([0<=b/\b<=(n:Int)],.owns s lt 0 b.toNat)
      |some a,none=>some ([0<=a/\a<=(n:Int)],.owns s lt a.toNat (n-a.toNat))
      |some a,some b=>some ([0<=a/\a<=b/\b<=(n:Int)],.owns s lt a.toNat (b.toNat-a.toNat)))
     |false=>none)
   | .owns s lt o n,lo,hi=>(match af (aj P e) lt.w with
     |true=>(match lo,hi with
      |none,none=>some ([],.owns s lt o n)
      |none,some b=>some ([0<=b/\b<=(n:Int)],.owns s lt o b.toNat)
      |some a,none=>some ([0<=a/\a<=(n:Int)],.owns s lt (o+a.toNat) (n-a.toNat))
      |some a,some b=>some ([0<=a/\a<=b/\b<=(n:Int)],.owns s lt (o+a.toNat) (b.toNat-a.toNat)))
     |false=>none)
   | .ownx s n,none,none=>some ([],.ownx s n)
   |_,_,_=>none)
  |_,_=>none)
 |none=>none
def TF{P:Program}{t:TypeId}{x:SV}{lo hi:Option Int}{ps:List Prop}{r:SV}(h:sm P t x lo hi=some (ps,r))(hp:∀p∈ps,p){K:AV->Prop}(hK:K r.av):
  qF P t x.av (some (lo.getD 0)) (some (hi.getD (qH x.av))) K:=by
 unfold sm at h;split at h
 case h_2=>cases h
 rename_i e he;split at h
 case h_2=>cases h
 rename_i h1 h2;have h2':aj P e≠0:=fw h2;split at h
 .rename_i lt l;split at h
  case h_2=>cases h
  rename_i hw;have hw:=bm hw;have key:∀a b:Int,0<=a->a<=b->b<=l.length->K (.p (.sl ((l.take b.toNat).drop a.toNat).length (lt.enc ((l.take b.toNat).drop a.toNat))))->qF P t (SV.lst lt l).av (some a) (some b) K:=by
   intro a b ha hb hc hK;refine⟨e,a,b,he,h1,h2',rfl,rfl,ha,hb,hc,?_⟩;rw[hw,lt.wide.take,lt.wide.drop];have:((l.take b.toNat).drop a.toNat).length=b.toNat-a.toNat:=by simp only[Cp,fS];omega
   rw[<-this];exact hK
  split at h<;>cases h
  .refine key 0 (l.length:Int) (by omega) (by omega) (by omega) ?_;rw[kX,iM];exact hK
  .rename_i a;have hb:=hp _ (bO.2 rfl);refine key a (l.length:Int) hb.1 hb.2 (by omega) ?_;rw[kX,iM];exact hK
  .rename_i b;have hb:=hp _ (bO.2 rfl);exact key 0 b (by omega) hb.1 hb.2 hK
  .rename_i a b;have hb:=hp _ (bO.2 rfl);exact key a b hb.1 hb.2.1 hb.2.2 hK
 .rename_i s lt n;split at h
  case h_2=>cases h
  rename_i hw;have hw:=bm hw;have key:∀a b:Int,0<=a->a<=b->b<=n->K (.own (aD s) (a.toNat*lt.w) (b.toNat-a.toNat))->qF P t (SV.own s lt n).av (some a) (some b) K:=by intro a b ha hb hc hK;refine⟨e,a,b,he,h1,h2',rfl,rfl,ha,hb,hc,?_⟩;rw[hw,gR];exact hK
  split at h<;>cases h
  .refine key 0 (n:Int) (by omega) (by omega) (by omega) ?_;simpa[SV.av]using hK
  .rename_i b;have hb:=hp _ (bO.2 rfl);refine key 0 b (by omega) hb.1 hb.2 ?_;simpa[SV.av]using hK
  .rename_i a;have hb:=hp _ (bO.2 rfl);exact key a (n:Int) hb.1 hb.2 (by omega) (by simpa[SV.av]using hK)
  .rename_i a b;have hb:=hp _ (bO.2 rfl);exact key a b hb.1 hb.2.1 hb.2.2 hK
 .rename_i s lt o n;split at h
  case h_2=>cases h
  rename_i hw;have hw:=bm hw;have key:∀a b:Int,0<=a->a<=b->b<=n->K (.own (aD s) ((o+a.toNat)*lt.w) (b.toNat-a.toNat))->qF P t (SV.owns s lt o n).av (some a) (some b) K:=by intro a b ha hb hc hK;refine⟨e,a,b,he,h1,h2',rfl,rfl,ha,hb,hc,?_⟩;rw[hw,<-lJ];exact hK
  split at h<;>cases h
  .refine key 0 (n:Int) (by omega) (by omega) (by omega) ?_;simpa[SV.av]using hK
  .rename_i b;have hb:=hp _ (bO.2 rfl);refine key 0 b (by omega) hb.1 hb.2 ?_;simpa[SV.av]using hK
  .rename_i a;have hb:=hp _ (bO.2 rfl);exact key a (n:Int) hb.1 hb.2 (by omega) (by simpa[SV.av]using hK)
  .rename_i a b;have hb:=hp _ (bO.2 rfl);exact key a b hb.1 hb.2.1 hb.2.2 hK
 .rename_i s n;cases h;refine⟨e,0,(n:Int),he,h1,h2',rfl,rfl,Cq _,by grind,Cq _,?_⟩;simpa[SV.av]using hK
 .cases h
def B0(P:Program)(t:TypeId)(x:SV):Option SV:=match x with
 | .lst _ l=>(match(bp P t).isSome with|true=>some (.int .i64 (l.length:Int))|false=>none)
 | .own _ _ n=>(match(bp P t).isSome with|true=>some (.int .i64 (n:Int))|false=>none)
 | .owns _ _ _ n=>(match(bp P t).isSome with|true=>some (.int .i64 (n:Int))|false=>none)
 | .ownx _ n=>(match(bp P t).isSome with|true=>some (.int .i64 (n:Int))|false=>none)
 | .owF _ n=>(match(bp P t).isSome with|true=>some (.int .i64 (n:Int))|false=>none)
 | .ownf _ _ _ n=>(match(bp P t).isSome with|true=>some (.int .i64 (n:Int))|false=>none)
 | .sl n cs=>(match(bp P t).isSome,bK (avs cs)with|true,some _=>some (.int .i64 (n:Int))|_,_=>none)
 | .nil=>(match(bp P t).isSome with|true=>some (.int .i64 0)|false=>none)
 |_=>none
def Wa{P:Program}{t:TypeId}{x r:SV}(h:B0 P t x=some r){K:AV->Prop}(hK:K r.av):xD P t x.av K:=by
 unfold B0 at h;split at h
 .split at h<;>cases h;rename_i h1;exact⟨h1,hK⟩
 .split at h<;>cases h;rename_i h1;exact⟨h1,hK⟩
 .split at h<;>cases h;rename_i h1;exact⟨h1,hK⟩
 .split at h<;>cases h;rename_i h1;exact⟨h1,hK⟩
 .split at h<;>cases h;rename_i h1;exact⟨h1,hK⟩
 .split at h<;>cases h;rename_i h1;exact⟨h1,hK⟩
 .split at h<;>cases h;rename_i q h1 h2;simp only[SV.av,h2];exact⟨h1,hK⟩
 .split at h<;>cases h;rename_i h1;exact⟨h1,hK⟩
 .cases h
def oz(σ:Sg)(e:TypeId)(lt:LT)(x:SV):Option (List Prop×List lt.ty×List Nat):=match x with
 | .nil=>some ([],[],[])
 | .own s _ k=>(match σ s with
   |some (.row ty lt' l)=>(match decEq lt' lt,af ty e with
    | .isTrue h,true=>some ([k=l.length],h▸l,[s])
    |_,_=>none)
   |_=>none)
 | .ownx s k=>(match σ s with
   |some (.arr ty ez cs)=>(match af ty e,af ez lt.w,lt.decs k cs with
    |true,true,some l=>some ([],l,[s])
    |_,_,_=>none)
   |_=>none)
 |_=>none
def qM(σ:Sg)(lt:LT)(x:SV):Option (List Prop×List lt.ty×List Nat):=match x with
 | .nil=>some ([],[],[])
 | .lst lt' l=>(match decEq lt' lt with
   | .isTrue h=>some ([],h▸l,[])
   | .isFalse _=>none)
 | .own s _ k=>(match σ s with
   |some (.row _ lt' l)=>(match decEq lt' lt with
    | .isTrue h=>some ([k=l.length],h▸l,[s])
    | .isFalse _=>none)
   |_=>none)
 | .owns s lt2 o k=>(match σ s with
   |some (.row _ lt' l)=>(match decEq lt' lt,decEq lt2 lt with
    | .isTrue h,.isTrue _=>some ([o+k<=l.length],(h▸l:List lt.ty).drop o|>.take k,[s])
    |_,_=>none)
   |_=>none)
 | .ownx s k=>(match σ s with
   |some (.arr _ ez cs)=>(match af ez lt.w,lt.decs k cs with
    |true,some l=>some ([],l,[s])
    |_,_=>none)
   |_=>none)
 |_=>none
def tU(P:Program)(ltOf:TypeId->Option LT)(n:Nat)(t t':TypeId)(σ:Sg)(x y:SV):SR:=match bp P t,(bp P t').isSome with
 |some e,true=>(match ltOf e,jm P e,frs σ n with
  |some lt,true,true=>(match af (aj P e) lt.w,oz σ e lt x,qM σ lt y with
   |true,some (p1,l,r1),some (p2,m,r2)=>some (p1++p2++[l.length+m.length<=1000000],.own n lt (l++m).length,r1++r2,r1.map (·,none)++[(n,some (.row e lt (l++m)))])
   |_,_,_=>none)
  |_,_,_=>none)
 |_,_=>none
def Vk{σ:Sg}{e:TypeId}{lt:LT}{x:SV}{ps:List Prop}{l:List lt.ty}{r:List Nat}(h:oz σ e lt x=some (ps,l,r))(hp:∀p∈ps,p){K:Nat->List AV->List Nat->Prop}(hK:K l.length ((lt.enc l).map .p) (r.map aD)):Bg σ.a e lt.w x.av K:=by
 unfold oz at h;split at h
 .cases h;exact hK
 .rename_i s _ k;split at h
  .rename_i ty lt' l' hs;split at h
   .rename_i he _ hty;subst he;cases h;have hk:k=l'.length:=hp _ (by grind);refine⟨_,by rw[Sg.bZ,hs];rfl,bm hty,rfl,?_,by rw[hk];exact hK⟩;show((lt'.enc l').map AV.p).length=_;rw[dt,lt'.wide.length,hk]
   .cases h
  .cases h
 .rename_i s k;split at h
  .rename_i ty ez cs hs;split at h<;>cases h;rename_i h1 h2 h3;obtain⟨e1,e2⟩:=LT.oT h3;have h2:=bm h2;refine⟨_,by rw[Sg.bZ,hs];rfl,bm h1,h2,?_,?_⟩
   .show(avs cs).length=_;rw[e2,dt,lt.wide.length,e1]
   .show K k (avs cs) [aD s];grind
  .cases h
 .cases h
def Ew{σ:Sg}{lt:LT}{x:SV}{ps:List Prop}{l:List lt.ty}{r:List Nat}(h:qM σ lt x=some (ps,l,r))(hp:∀p∈ps,p){K:Nat->List AV->List Nat->Prop}(hK:K l.length ((lt.enc l).map .p) (r.map aD)):wP σ.a lt.w x.av K:=by
 unfold qM at h;split at h
 .cases h;exact hK
 .rename_i lt' l';split at h
  .rename_i he _;subst he;cases h;exact⟨lt'.wide.length _,hK⟩
  .cases h
 .rename_i s _ k;split at h
  .rename_i ty lt' l' hs;split at h
   .rename_i he _;subst he;cases h;have hk:k=l'.length:=hp _ (by grind);refine⟨_,(lt'.enc l').map .p,by rw[Sg.bZ,hs];rfl,?_,?_,by grind⟩
    .show(((lt'.enc l').map AV.p).drop 0).take (k*lt'.w)=_;rw[mJ,ib (by rw[dt,lt'.wide.length,hk];omega)]
    .rw[dt,lt'.wide.length,hk]
   .cases h
  .cases h
 .rename_i s lt2 o k;split at h
  .rename_i ty lt' l' hs;split at h
   .rename_i he he2 _ _;subst he;subst he2;cases h;have hk:o+k<=l'.length:=hp _ (by grind);have hlen:((l'.drop o).take k).length=k:=by simp;omega
    refine⟨_,(lt2.enc ((l'.drop o).take k)).map .p,by rw[Sg.bZ,hs];rfl,?_,?_,by grind⟩
    .show(((lt2.enc l').map AV.p).drop (o*lt2.w)).take (k*lt2.w)=_;rw[<-uX,<-rI,lt2.wide.drop,lt2.wide.take]
    .rw[dt,lt2.wide.length,hlen]
   .cases h
  .cases h
 .rename_i s k;split at h
  .rename_i ty ez cs hs;split at h<;>cases h;rename_i h1 h3;obtain⟨e1,e2⟩:=LT.oT h3;have hl:(avs cs).length=k*lt.w:=by rw[e2,dt,lt.wide.length,e1]
   refine⟨_,avs cs,by rw[Sg.bZ,hs];rfl,?_,hl,by grind⟩;show((avs cs).drop 0).take (k*lt.w)=_;grind
  .cases h
 .cases h
def Sn{σ:Sg}{e:TypeId}{lt:LT}{x:SV}{ps:List Prop}{l:List lt.ty}{r:List Nat}(h:oz σ e lt x=some (ps,l,r)):∀s∈r,ly (σ s)=true:=by
 unfold oz at h;split at h
 .grind
 .split at h
  .rename_i hs;split at h
   .cases h;exact λs' hs'=>by rw[bO.1 hs',hs];rfl
   .cases h
  .cases h
 .split at h
  .rename_i hs;split at h<;>cases h;exact λs' hs'=>by rw[bO.1 hs',hs];rfl
  .cases h
 .cases h
def U9{P:Program}{ltOf:TypeId->Option LT}{n:Nat}{t t':TypeId}{σ:Sg}{x y:SV}{ps:List Prop}{r:SV}{rd:List Nat}{W:aM}(h:tU P ltOf n t t' σ x y=some (ps,r,rd,W))(hp:∀p∈ps,p):
  (bp P t').isSome=true/\uD P n t σ.a x.av y.av λr' R' W'=>r'=r.av/\bJ σ rd W R' W':=by
 unfold tU at h;split at h
 case h_2=>cases h
 rename_i e he ht';split at h
 case h_2=>cases h
 rename_i lt hlt htapp hf;split at h
 case h_2=>cases h
 rename_i p1 l r1 p2 m r2 hw h1 h2;cases h;refine⟨ht',e,he,htapp,?_⟩;rw[bm hw];obtain⟨f1,f2⟩:=gU hf;have hfl:=Sn h1;refine Vk h1 (λp hpp=>hp p (by simp[hpp])) (Ew h2 (λp hpp=>hp p (by simp[hpp])) ⟨hp _ (by simp),?_,?_⟩)
 .show _=AV.own (aD n) 0 _;grind
 .have e1:(r1.map aD).map (·,(none:Option Ob))++[(sit n 0,some (⟨e,lt.w,(lt.enc l).map AV.p++(lt.enc m).map AV.p⟩:Ob))] =aM.sto (r1.map (·,none)++[(n,some (.row e lt (l++m)))]):=by unfold aM.sto;rw[dQ,gS,gS,<-f1];show _++_=_++[(aD n,some (⟨e,lt.w,(lt.enc (l++m)).map AV.p⟩:Ob))];rw[lt.wide.append,dQ];rfl
  rw[e1,<-dQ];refine bJ.flat λq hq=> ?_;rcases d7.1 hq with hq|hq
  .obtain⟨s,hs,rfl⟩:=cC.1 hq;exact⟨hfl s hs,rfl⟩
  .rw[bO.1 hq,f2];exact⟨rfl,rfl⟩
def bJ.take{σ:Sg}{z n a k:Nat}{ty ity:TypeId}{lt:LT}{L:List (List lt.ty)}{ov:List (Nat×SV)}{ob:SOb}{rd R:List Nat}(hs:σ z=some (.fam ty ity lt L ov))(ho:ov.lookup a=none)(hk:k=(L.getD a []).length)(hn:σ n=none)(hf:ob.flat=true)(hR:inC R (rd.map ncl)):
  bJ σ rd [(z,some (.fam ty ity lt L ((a,.ownf z lt a k)::ov))),(n,some ob)] R [(inn z (a+1),none),(aD n,some (ob.ob n))] :=by
 have hzn:z≠n:=λe=>by grind
 refine⟨hR,λs hm=> ?_,?_⟩
 .have hm:s=inn z (a+1)\/s=aD n:=by simpa using hm
  rcases hm with rfl|rfl
  .rw[cL];grind
  .rw[show cls (aD n)=ncl n from cL n 0];grind
 .funext s
  unfold aY;rcases gT s with⟨y,rfl⟩|⟨y,b,rfl⟩|hno
  .rw[Sg.bZ,Sg.bZ,dD,beq_eq_false_iff_ne.2 (show aD y≠inn z (a+1)from λh=>by have:=(cI h).2;omega)];unfold aM.up;rw[dD,dD,dD];by_cases e:y=z
   .subst e;rw[beq_iff_eq.2 rfl,beq_eq_false_iff_ne.2 (show aD y≠aD n from λh=>hzn (eD h)),hs];show some (⟨ty,1,_⟩:Ob)=some ⟨ty,1,_⟩
    congr 2
    refine mI λi hi=> ?_;unfold cj;rw[dD];by_cases hi:i=a
    .subst hi;rw[beq_iff_eq.2 rfl,ho,hk];rfl
    grind
   .rw[beq_eq_false_iff_ne.2 e];by_cases e2:y=n
    .grind
    .rw[beq_eq_false_iff_ne.2 e2,beq_eq_false_iff_ne.2 (show aD y≠aD n from λh=>e2 (eD h))];rfl
  .rw[Sg.cq,Sg.cq,dD,dD,beq_eq_false_iff_ne.2 (show inn y (b+1)≠aD n from λh=>by have:=(cI h).2;omega)];unfold aM.up;rw[dD,dD];by_cases e:y=z
   .subst e;rw[beq_iff_eq.2 rfl,hs];by_cases hb:b=a
    .subst hb;rw[beq_iff_eq.2 rfl];unfold SOb.inner;grind
    .rw[beq_eq_false_iff_ne.2 (show inn y (b+1)≠inn y (a+1)from λh=>hb (by have:=(cI h).2;omega))];unfold SOb.inner;grind
   .rw[beq_eq_false_iff_ne.2 e,beq_eq_false_iff_ne.2 (show inn y (b+1)≠inn z (a+1)from λh=>e (cI h).1)];by_cases e2:y=n
    .subst e2;rw[beq_iff_eq.2 rfl,hn];show none=SOb.inner b ob;rw[SOb.yT hf]
    grind
  .rw[Sg.fp _ hno,Sg.fp _ hno,dD,dD,beq_eq_false_iff_ne.2 (hno z (a+1)),beq_eq_false_iff_ne.2 (show s≠aD n from λh=>hno n 0 h)];rfl
def wS(P:Program)(n:Nat)(t t':TypeId)(σ:Sg)(z:Nat)(lt2:LT)(a k:Nat)(y:SV):SR:=match bp P t,(bp P t').isSome,σ z with
 |some e,true,some (.fam ty ity lt L ov)=>(match decEq lt2 lt,jm P e,frs σ n,af ity e,af (aj P e) lt.w,qM σ lt y with
  | .isTrue _,true,true,true,true,some (p2,m,r2)=>some ((a<L.length)::(k=(L.getD a []).length)::(iv ov a++p2++[(L.getD a []).length+m.length<=1000000]),.own n lt (L.getD a [] ++m).length,z::r2,[(z,some (.fam ty ity lt L ((a,.ownf z lt a k)::ov))),(n,some (.row e lt (L.getD a [] ++m)))])
  |_,_,_,_,_,_=>none)
 |_,_,_=>none
def U8{P:Program}{n:Nat}{t t':TypeId}{σ:Sg}{z:Nat}{lt2:LT}{a k:Nat}{y:SV}{ps:List Prop}{r:SV}{rd:List Nat}{W:aM}(h:wS P n t t' σ z lt2 a k y=some (ps,r,rd,W))(hp:∀p∈ps,p):
  (bp P t').isSome=true/\uD P n t σ.a (SV.ownf z lt2 a k).av y.av λr' R' W'=>r'=r.av/\bJ σ rd W R' W':=by
 unfold wS at h;split at h
 case h_2=>cases h
 rename_i e ty ity lt L ov he ht' hs;split at h
 case h_2=>cases h
 rename_i hlt p2 m r2 _ htapp hf hi hw h2;subst hlt;cases h;have ha:a<L.length:=hp _ (by grind);have hk:k=(L.getD a []).length:=hp _ (by grind);have ho:ov.lookup a=none:=n7 λp hq=>hp p (by simp[hq]);refine⟨ht',e,he,htapp,?_⟩;rw[bm hw];obtain⟨f1,f2⟩:=gU hf;refine⟨_,yk hs ha ho,bm hi,rfl,?_,?_⟩
 .rw[dt,lt2.wide.length,hk]
 .subst hk;refine Ew h2 (λp hpp=>hp p (by simp[hpp])) ⟨hp _ (by simp),?_,?_⟩
  .show _=AV.own (aD n) 0 _;grind
  .rw[<-f1];have e1:(⟨e,lt2.w,(lt2.enc (L.getD a [])).map AV.p++(lt2.enc m).map AV.p⟩:Ob)=SOb.ob n (.row e lt2 (L.getD a [] ++m)):=by show _=(⟨e,lt2.w,(lt2.enc (L.getD a [] ++m)).map AV.p⟩:Ob);rw[lt2.wide.append,dQ]
   rw[e1];refine bJ.take hs ho rfl f2 rfl λs hm=> ?_;rcases bh.1 hm with rfl|hm
   .rw[cL];grind
   .exact dR _ ((bJ.read σ r2).1 s hm)
def qi(P:Program)(ltOf:TypeId->Option LT)(n:Nat)(t t':TypeId)(σ:Sg)(x y:SV):SR:=match x with
 | .ownf z lt a k=>wS P n t t' σ z lt a k y
 |_=>tU P ltOf n t t' σ x y
def Wg{P:Program}{ltOf:TypeId->Option LT}{n:Nat}{t t':TypeId}{σ:Sg}{x y:SV}{ps:List Prop}{r:SV}{rd:List Nat}{W:aM}(h:qi P ltOf n t t' σ x y=some (ps,r,rd,W))(hp:∀p∈ps,p):
  (bp P t').isSome=true/\uD P n t σ.a x.av y.av λr' R' W'=>r'=r.av/\bJ σ rd W R' W':=by
 unfold qi at h;split at h
 .exact U8 h hp
 .exact U9 h hp
def smm(f:Int->Int->Int)(x y:SV):Option SV:=match x,y with
 | .int .i64 a,.int .i64 b=>some (.int .i64 (f a b))
 |_,_=>none
def IJ{f:Int->Int->Int}{x y r:SV}(h:smm f x y=some r){K:AV->Prop}(hK:K r.av):mmA f x.av y.av K:=by unfold smm at h;split at h<;>cases h;exact hK
end
noncomputable section
def gD(f:SV->Option (List Prop×SV)):List SV->Option (List Prop×List SV)
 |[] =>some ([],[])
 |x::l=>match f x,gD f l with
  |some (p,y),some (q,m)=>some (p++q,y::m)
  |_,_=>none
def qO(d:Nat)(σ:Sg)(x n:Nat):Option (List Prop×SV):=match d,σ x with
 |_+1,some (.fam _ _ .I L [])=>some ([n=L.length],.lst .Q L)
 |_+1,some (.fam _ _ .V L [])=>some ([n=L.length],.lst .R L)
 |_+1,some (.fam _ _ .T L [])=>some ([n=L.length],.lst .U L)
 |_+1,some (.fam _ _ .Q L [])=>some ([n=L.length],.lst .F L)
 |_,_=>none
def eT:Nat->Sg->SV->Option (List Prop×SV)
 |_,_,.nil=>some ([],.sl 0 [])
 |_+1,σ,.own s _ n=>(match σ s with
  |some (.row _ lt l)=>some ([n=l.length],.lst lt l)
  |_=>none)
 |_+1,σ,.owns s lt2 o n=>(match σ s with
  |some (.row _ lt l)=>(match af lt2.w lt.w with|true=>some ([o+n<=l.length],.lst lt ((l.drop o).take n))|false=>none)
  |_=>none)
 |d+1,σ,.ownx s n=>(match σ s with
  |some (.arr _ ez cs)=>(match af cs.length (n*ez),gD (eT d σ) cs with|true,some (ps,m)=>some (ps,.sl n m)|_,_=>none)
  |_=>none)
 |d+1,σ,.ptr s off=>(match σ s with
  |some (.box _ cs)=>(match gD (eT d σ) cs with|some (ps,m)=>some (ps,.pro m off)|none=>none)
  |_=>none)
 |_+1,σ,.ownf x _ a n=>(match σ x with
  |some (.fam _ _ lt L ov)=>some ((a<L.length)::(n=(L.getD a []).length)::iv ov a,.lst lt (L.getD a []))
  |_=>none)
 |d+1,σ,.owF x n=>qO d σ x n
 |d+1,σ,.agg l=>(match gD (eT d σ) l with|some (ps,m)=>some (ps,.agg m)|none=>none)
 |d+1,σ,.fn f a b=>(match gD (eT d σ) a,gD (eT d σ) b with|some (p,x),some (q,y)=>some (p++q,.fnp f x y)|_,_=>none)
 |_,_,x=>(match x.av with| .p _=>some ([],x)|_=>none)
def p7{d:Nat}{σ:Sg}{f:SV->Option (List Prop×SV)}(hf:∀x ps y,f x=some (ps,y)->(∀p∈ps,p)->∃q,ci d σ.a x.av=some q/\y.av= .p q):
  ∀{l:List SV} {ps:List Prop} {m:List SV},gD f l=some (ps,m)->(∀p∈ps,p)->∃q,cJ (ci d σ.a) (avs l)=some q/\avs m=q.map .p
 |[],ps,m,h,_=>by obtain⟨rfl,rfl⟩:=h;exact⟨[],rfl,rfl⟩
 |x::l,ps,m,h,hp=>by
  unfold gD at h;split at h
  .rename_i p y q m' h1 h2;cases h;obtain⟨u,e1,e2⟩:=hf x p y h1 (λr hr=>hp r (by grind));obtain⟨v,e3,e4⟩:=p7 hf h2 (λr hr=>hp r (by grind));refine⟨u::v,?_,by rw[avs,e2,e4];rfl⟩;rw[avs,cJ,e1,e3]
  .cases h
def Dq{d:Nat}{σ:Sg}{x:SV}{ps:List Prop}{y:SV}(h:(match x.av with| .p _=>some (([] :List Prop),x)|_=>none)=some (ps,y)):∃q,ci d σ.a x.av=some q/\y.av= .p q:=by split at h<;>cases h;rename_i q hq;exact⟨q,by rw[hq,Af],hq⟩
def Dr{σ:Sg}{x a n d:Nat}{ty ity:TypeId}{lt:LT}{L:List (List lt.ty)}{ov:List (Nat×SV)}(hs:σ x=some (.fam ty ity lt L ov))(ha:a<L.length)(hn:n=(L.getD a []).length)(ho:ov.lookup a=none):
  ci (d+1) σ.a (.own (inn x (a+1)) 0 n)=some (.sl (L.getD a []).length (lt.enc (L.getD a []))):=by
 unfold ci;rw[yk hs ha ho];simp only[kV,oX,dV,mJ];rw[ib (by rw[lt.wide.length,hn];omega),hn]
def FM{d:Nat}{g:Nat->Option Ob}{f:Nat->AV}{h:Nat->PV}:∀(l:List Nat),(∀i∈l,ci d g (f i)=some (h i))->cJ (ci d g) (l.map f)=some (l.map h)
 |[],_=>rfl
 |i::l,H=>by
  rw[cO,cJ,H i (by grind),FM l λj hj=>H j (dR _ hj)];rfl
def vD{α β:Type}(f:α->β):∀l:List α,(l.flatMap λr=>[f r])=l.map f
 |[] =>rfl
 |a::l=>by rw[pN,cO,vD f l];rfl
def vN{σ:Sg}{x n d:Nat}{ty ity:TypeId}{lt:LT}{L:List (List lt.ty)}(hs:σ x=some (.fam ty ity lt L []))(hn:n=L.length):
  ci (d+2) σ.a (.own (aD x) 0 n)=some (.sl n (L.flatMap λr=>[PV.sl r.length (lt.enc r)])):=by
 have e1:Sg.a σ (aD x)=some ⟨ty,1,(bN L.length).map (cj x L [])⟩:=by rw[Sg.bZ,hs];rfl
 have e2:cJ (ci (d+1) σ.a) ((bN L.length).map (cj x L []))=some ((bN L.length).map λi=>PV.sl (L.getD i []).length (lt.enc (L.getD i []))):=
  FM _ λi hi=>Dr (ov:=[]) hs (by grind) rfl rfl
 have e3:((bN L.length).map λi=>PV.sl (L.getD i []).length (lt.enc (L.getD i [])))=L.flatMap λr=>[PV.sl r.length (lt.enc r)] :=by
  rw[vD (λr:List lt.ty=>PV.sl r.length (lt.enc r))];refine Cn (by simp) λi h1 h2=> ?_;have h3:i<L.length:=by simpa using h2
  rw[uY,uY,List.getElem_range,b9,c8 h3];rfl
 unfold ci;rw[e1];simp only[kV,e2,e3,dV,mJ];rw[ib];grind
def Uu{σ:Sg}{d x n:Nat}{ps:List Prop}{y:SV}(h:qO d σ x n=some (ps,y))(hp:∀p∈ps,p):∃q,ci (d+1) σ.a (SV.owF x n).av=some q/\y.av= .p q:=by
 unfold qO at h;split at h
 .rename_i d ty ity L hs;cases h;have hn:n=L.length:=hp _ (by grind);exact⟨_,vN hs hn,by rw[hn];rfl⟩
 .rename_i d ty ity L hs;cases h;have hn:n=L.length:=hp _ (by grind);exact⟨_,vN hs hn,by rw[hn];rfl⟩
 .rename_i d ty ity L hs;cases h;have hn:n=L.length:=hp _ (by grind);exact⟨_,vN hs hn,by rw[hn];rfl⟩
 .rename_i d ty ity L hs;cases h;have hn:n=L.length:=hp _ (by grind);exact⟨_,vN hs hn,by rw[hn];rfl⟩
 .cases h
def rn{σ:Sg}:∀{d:Nat} {x:SV} {ps:List Prop} {y:SV},eT d σ x=some (ps,y)->(∀p∈ps,p)->∃q,ci d σ.a x.av=some q/\y.av= .p q:=by
 intro d;induction d with
 |zero=>
  intro x ps y h hp;cases x<;>first
   |(change some ([],SV.sl 0 [])=some (ps,y)at h;cases h;exact⟨.sl 0 [],rfl,rfl⟩)
   |exact Dq h
 |succ d ih=>
  intro x ps y h hp;have ihl:= @p7 d σ (eT d σ) (by grind);cases x with
  |nil=>cases h;exact⟨.sl 0 [],rfl,rfl⟩
  |own s t n=>
   change (match σ s with|some (.row _ lt l)=>some ([n=l.length],SV.lst lt l)|_=>none)=_ at h;split at h<;>cases h;rename_i ty lt l hs;have hn:n=l.length:=hp _ (by grind);refine⟨_,?_,rfl⟩;show ci (d+1) (Sg.a σ) (.own (aD s) 0 n)=_;unfold ci;have:Sg.a σ (aD s)=some ⟨ty,lt.w,(lt.enc l).map .p⟩:=by rw[Sg.bZ,hs];rfl
   rw[this];simp only[kV,oX,dV,mJ];rw[ib (by rw[lt.wide.length,hn];omega),hn]
  |owns s lt2 o n=>
   change (match σ s with|some (.row _ lt l)=>(match af lt2.w lt.w with|true=>some ([o+n<=l.length],SV.lst lt ((l.drop o).take n))|false=>none)|_=>none)=_ at h;split at h
   case h_2=>cases h
   rename_i ty lt l hs;split at h<;>cases h;rename_i hw;have hw:=bm hw;have hn:o+n<=l.length:=hp _ (by grind);refine⟨_,?_,rfl⟩;show ci (d+1) (Sg.a σ) (.own (aD s) (o*lt2.w) n)=_;unfold ci;have:Sg.a σ (aD s)=some ⟨ty,lt.w,(lt.enc l).map .p⟩:=by rw[Sg.bZ,hs];rfl
   rw[this];simp only[kV,oX,dV];rw[hw,lt.wide.drop,lt.wide.take];grind
  |ownx s n=>
   change (match σ s with|some (.arr _ ez cs)=>(match af cs.length (n*ez),gD (eT d σ) cs with|true,some (ps,m)=>some (ps,SV.sl n m)|_,_=>none)|_=>none)=_ at h;split at h
   case h_2=>cases h
   rename_i ty ez cs hs;split at h<;>cases h;rename_i m hl hm;obtain⟨q,e1,e2⟩:=ihl hm hp;refine⟨.sl n q,?_,by show(match bK (avs m)with|some q=>AV.p (.sl n q)|none=> .any)=_;rw[e2,cQ]⟩;show ci (d+1) (Sg.a σ) (.own (aD s) 0 n)=_;unfold ci;have:Sg.a σ (aD s)=some ⟨ty,ez,avs cs⟩:=by rw[Sg.bZ,hs];rfl
   rw[this];simp only[kV,e1,dV,mJ];rw[ib (by rw[<-(jD e1).1,fT,bm hl];omega)]
  |ptr s off=>
   change (match σ s with|some (.box _ cs)=>(match gD (eT d σ) cs with|some (ps,m)=>some (ps,SV.pro m off)|none=>none)|_=>none)=_ at h;split at h
   case h_2=>cases h
   rename_i ty cs hs;split at h<;>cases h;rename_i m hm;obtain⟨q,e1,e2⟩:=ihl hm hp;refine⟨.pro q off,?_,by show(match bK (avs m)with|some q=>AV.p (.pro q off)|none=> .any)=_;rw[e2,cQ]⟩;show ci (d+1) (Sg.a σ) (.ptr (aD s) off)=_;unfold ci;have:Sg.a σ (aD s)=some ⟨ty,0,avs cs⟩:=by rw[Sg.bZ,hs];rfl
   grind
  |ownf x t a n=>
   change (match σ x with|some (.fam _ _ lt L ov)=>some ((a<L.length)::(n=(L.getD a []).length)::iv ov a,SV.lst lt (L.getD a []))|_=>none)=_ at h;split at h<;>cases h;rename_i ty ity lt L ov hs;have ha:a<L.length:=hp _ (by grind);have hn:n=(L.getD a []).length:=hp _ (by grind);have ho:ov.lookup a=none:=n7 (by grind);exact⟨_,Dr hs ha hn ho,rfl⟩
  |owF x n=>exact Uu (show qO d σ x n=_ from h) hp
  |agg l=>
   change (match gD (eT d σ) l with|some (ps,m)=>some (ps,SV.agg m)|none=>none)=_ at h;split at h<;>cases h;rename_i m hm;obtain⟨q,e1,e2⟩:=ihl hm hp;refine⟨.agg q,?_,by show dn (avs m)=_;rw[e2,nv]⟩;show ci (d+1) (Sg.a σ) (dn (avs l))=_;unfold dn;cases hq:bK (avs l)with
   |some q'=>
    rw[fD hq,oX]at e1;cases e1;exact Af _ _ _
   |none=>unfold ci;rw[e1];rfl
  |fn f a b=>
   change (match gD (eT d σ) a,gD (eT d σ) b with|some (p,x),some (q,y)=>some (p++q,SV.fnp f x y)|_,_=>none)=_ at h;split at h<;>cases h;rename_i p x q y h1 h2;obtain⟨u,e1,e2⟩:=ihl h1 (λr hr=>hp r (by grind));obtain⟨v,e3,e4⟩:=ihl h2 (λr hr=>hp r (by grind));refine⟨.fn (.func f) u v,?_,by show(match bK (avs x),bK (avs y)with|some x,some y=>AV.p (.fn (.func f) x y)|_,_=> .any)=_;rw[e2,e4,cQ,cQ]⟩;show ci (d+1) (Sg.a σ) (.fn (.func f) (avs a) (avs b))=_;unfold ci;grind
  |_=>exact Dq h
def cg:Nat->Sg->SV->List Nat
 |0,_,_=>[]
 |d+1,σ,x=>
  let O:Nat->List Nat:=λs=>match σ s with
   |some (.box _ cs)=>bE (cg d σ) cs
   |some (.arr _ _ cs)=>bE (cg d σ) cs
   |some (.fam _ _ _ _ ov)=>bE (λq:Nat×SV=>cg d σ q.2) ov
   |_=>[]
  match x with
  | .own s _ _=>s::O s
  | .owns s _ _ _=>s::O s
  | .ownx s _=>s::O s
  | .ptr s _=>s::O s
  | .pte s _ _ _=>s::O s
  | .ptf s _=>s::O s
  | .owF s _=>s::O s
  | .ownf s _ _ _=>[s]
  | .ptef s _ _ _ _=>[s]
  | .agg l=>bE (cg d σ) l
  | .fn _ a b=>bE (cg d σ) a++bE (cg d σ) b
  |_=>[]
def ir:Nat->Sg->SV->Bool
 |0,_,_=>true
 |d+1,σ,x=>
  let O:Nat->Bool:=λs=>match σ s with
   |some (.box _ cs)=>cs.all (ir d σ)
   |some (.arr _ _ cs)=>cs.all (ir d σ)
   |some (.fam ..)=>false
   |some (.mf _)=>false
   |some (.it _ _)=>false
   |_=>true
  match x with
  | .own s _ _=>O s
  | .owns s _ _ _=>O s
  | .ownx s _=>O s
  | .ptr s _=>O s
  | .pte s _ _ _=>O s
  | .ptf s _=>O s
  | .owF s _=>O s
  | .ownf .. =>false
  | .ptef .. =>false
  | .agg l=>l.all (ir d σ)
  | .fn _ a b=>a.all (ir d σ)&&b.all (ir d σ)
  |_=>true
def mM{d:Nat}{g:Nat->Option Ob}{y:AV}(h:(∃q,y= .p q)\/y= .any\/(∃l,y= .tup l)):bc (d+1) g y=[] :=by rcases h with⟨q,rfl⟩|rfl|⟨l,rfl⟩<;>rfl
def ma(x:SV):(match x with| .tup _| .sl .. | .pro .. | .fnp .. =>True|_=>False)->(∃q,x.av= .p q)\/x.av= .any\/(∃l,x.av= .tup l):=by
 intro h;cases x<;>first|exact h.elim|skip
 .show(∃q,iE _= .p q)\/iE _= .any\/∃m,iE _= .tup m;unfold iE;grind
 all_goals
  simp only[SV.av];split
  .exact .inl ⟨_,rfl⟩
  .exact .inr (.inl rfl)
def FH{d:Nat}{g:Nat->Option Ob}(l:List SV):bc (d+1) g (dn (avs l))=bE (bc d g) (avs l):=by
 unfold dn;cases hq:bK (avs l)with
 |none=>rfl
 |some q=>rw[fD hq,kC];rfl
def HD{A B Ac Bc:List Nat}(h1:inC A Ac)(h2:inC B Bc):inC (A++B) (Ac++Bc):=λs hs=>by
 rcases d7.1 hs with h|h
 .exact fu _ (h1 s h)
 .exact ff _ (h2 s h)
def mX{d:Nat}{σ:Sg}(ih:∀x:SV,inC (bc d σ.a x.av) ((cg d σ x).map ncl)):∀l:List SV,inC (bE (bc d σ.a) (avs l)) ((bE (cg d σ) l).map ncl)
 |[] =>λs hs=>(dP hs).elim
 |x::l=>by rw[avs,bE,bE,dQ];exact HD (ih x) (mX ih l)
def yO{σ:Sg}{d:Nat}:∀s a:Nat,inC (inn s (a+1)::(match σ.a (inn s (a+1))with|some ob=>bE (bc d σ.a) ob.cells|none=>[])) ([s].map ncl):=by
 intro s a t ht;rcases bh.1 ht with rfl|ht
 .rw[cL];grind
 .rw[Sg.cq]at ht;cases hs:σ s with
  |none=>grind
  |some ob=>
   rw[hs]at ht;cases ob with
   |fam ty ity lt L ov=>
    have ht:t∈(match(match ov.lookup a with|some _=>none|none=>(L[a]?).map λl=>(⟨ity,lt.w,(lt.enc l).map .p⟩:Ob))with|some ob=>bE (bc d σ.a) ob.cells|none=>[]):=ht;split at ht
    .rename_i ob hob;split at hob
     .cases hob
     .cases hL:L[a]? with
      |none=>grind
      |some l=>rw[hL]at hob;cases hob;rw[kC]at ht;grind
    grind
   |mf M=>
    have ht:t∈(match((M[a]?).map λq=>(⟨3,1,(LT.enc .I q.2).map .p⟩:Ob))with|some ob=>bE (bc d σ.a) ob.cells|none=>[]):=ht;cases hL:M[a]? with
    |none=>rw[hL]at ht;exact(dP ht).elim
    |some q=>rw[hL]at ht;have ht:t∈bE (bc d σ.a) ((LT.enc .I q.2).map .p):=ht;rw[kC]at ht;exact(dP ht).elim
   |_=>exact(dP ht).elim
def VF{σ:Sg}{d:Nat}(ih:∀x:SV,inC (bc d σ.a x.av) ((cg d σ x).map ncl)):∀s:Nat,inC (aD s::(match σ.a (aD s)with|some ob=>bE (bc d σ.a) ob.cells|none=>[])) ((s::(match σ s with|some (.box _ cs)=>bE (cg d σ) cs|some (.arr _ _ cs)=>bE (cg d σ) cs|some (.fam _ _ _ _ ov)=>bE (λq:Nat×SV=>cg d σ q.2) ov|_=>[])).map ncl):=by
 intro s t ht;rw[Sg.bZ]at ht;rcases bh.1 ht with rfl|ht
 .rw[show cls (aD s)=ncl s from cL s 0];grind
 cases hs:σ s with
 |none=>grind
 |some ob=>
  rw[hs]at ht;cases ob with
  |box ty cs=>exact dR _ (mX ih cs t ht)
  |row ty lt l=>
   have ht:t∈bE (bc d σ.a) ((lt.enc l).map .p):=ht;rw[kC]at ht;grind
  |arr ty ez cs=>exact dR _ (mX ih cs t ht)
  |mp ks=>
   have ht:t∈bE (bc d σ.a) (bu (fH ks)):=ht;rw[n8,kC]at ht;grind
  |mf M=>
   have ht:t∈bE (bc d σ.a) (bu (mfK (λi=>inn s (i+1)) 0 M)):=ht;have:∀(M:List ((Nat×Nat)×List Int)) (i:Nat),t∈bE (bc d σ.a) (bu (mfK (λi=>inn s (i+1)) i M))->cls t∈[ncl s] :=λM=>by
    induction M with
    |nil=>intro i h;exact(dP h).elim
    |cons q M ihM=>
     intro i h;have h:t∈bc d σ.a (.p (.agg (eL [(q.1.1:Int),(q.1.2:Int)])))++(bc d σ.a (.own (inn s (i+1)) 0 q.2.length)++bE (bc d σ.a) (bu (mfK (λi=>inn s (i+1)) (i+1) M))):=h;rw[IN,pK]at h;rcases d7.1 h with h|h
     .cases d with
      |zero=>exact(dP h).elim
      |succ d=>exact yO s i t h
     .exact ihM _ h
   have:=this M 0 ht;exact bh.2 (.inl (bO.1 this))
  |it cur M=>
   have ht:t∈bc d σ.a (.ptr (inn s 1) 0)++(bc d σ.a (itQ cur)++(bc d σ.a (.mp (aD s))++bE (bc d σ.a) (bu (itK M)))):=ht;rw[vV,kC,jW,show bc d σ.a (.mp (aD s))=[] by cases d<;>rfl,jW,show bc d σ.a (itQ cur)=[] by cases cur<;>cases d<;>rfl,jW]at ht;cases d with
   |zero=>exact(dP ht).elim
   |succ d=>exact bh.2 (.inl (bO.1 (yO s 0 t ht)))
  |fam ty ity lt L ov=>
   have ht:t∈bE (bc d σ.a) ((bN L.length).map (cj s L ov)):=ht;have:∀l:List Nat,t∈bE (bc d σ.a) (l.map (cj s L ov))->cls t∈ncl s::((bE (λq:Nat×SV=>cg d σ q.2) ov).map ncl):=λl=>by
    induction l with
    |nil=>intro h;exact(dP h).elim
    |cons i l ihl=>
     intro h;rcases d7.1 h with h|h
     .unfold cj at h;split at h
      .rename_i v hv;obtain⟨y,hy,e⟩:=cC.1 (ih v t h);refine dR _ (cC.2 ⟨y,jY (x:=(i,v)) ?_ hy,e⟩);have key:∀ov:List (Nat×SV),ov.lookup i=some v->(i,v)∈ov:=λov hv=>by
        induction ov with
        |nil=>cases hv
        |cons q ov ihv=>
         grind
       grind
      .cases d with
       |zero=>exact(dP h).elim
       |succ d=>
        rcases bh.1 h with rfl|h
        .rw[cL];grind
        .rw[Sg.cq,hs]at h;have h:t∈(match(match ov.lookup i with|some _=>none|none=>(L[i]?).map λl=>(⟨ity,lt.w,(lt.enc l).map .p⟩:Ob))with|some ob=>bE (bc d σ.a) ob.cells|none=>[]):=h;split at h
         .rename_i ob hob;split at hob
          .cases hob
          .cases hL:L[i]? with
           |none=>grind
           |some l=>rw[hL]at hob;cases hob;rw[kC]at h;grind
         grind
     grind
   grind
def zp{σ:Sg}:∀(d:Nat) (x:SV),inC (bc d σ.a x.av) ((cg d σ x).map ncl):=by
 intro d;induction d with
 |zero=>intro x s hs;exact(dP hs).elim
 |succ d ih=>
  intro x;have obs:=VF ih;have inner:=yO (σ:=σ) (d:=d);have non:∀{y:SV} {l:List Nat},bc (d+1) σ.a y.av=[]->inC (bc (d+1) σ.a y.av) l:=λh=>by rw[h];exact λs hs=>by grind
  cases x with
  |own s t n=>exact obs s
  |owns s t o n=>exact obs s
  |ownx s n=>exact obs s
  |ptr s off=>exact obs s
  |pte s t i off=>exact obs s
  |ptf s a=>exact obs s
  |owF s n=>exact obs s
  |ownf s t a n=>exact inner s a
  |ptef s t a i off=>exact inner s a
  |agg l=>
   show inC (bc (d+1) σ.a (dn (avs l))) _;rw[FH];exact mX ih l
  |fn f a b=>
   show inC (bE (bc d σ.a) (avs a)++bE (bc d σ.a) (avs b)) ((bE (cg d σ) a++bE (cg d σ) b).map ncl);rw[dQ];exact HD (mX ih a) (mX ih b)
  |tup l=>exact non (mM (ma _ trivial))
  |sl n cs=>exact non (mM (ma _ trivial))
  |pro cs off=>exact non (mM (ma _ trivial))
  |fnp f a b=>exact non (mM (ma _ trivial))
  |_=>exact non rfl
def oB{d:Nat}{σ:Sg}(ih:∀x:SV,ir d σ x=true->bc d σ.a x.av=(cg d σ x).map aD/\∀y∈cg d σ x,ly (σ y)=true):∀l:List SV,l.all (ir d σ)=true->bE (bc d σ.a) (avs l)=(bE (cg d σ) l).map aD/\∀y∈bE (cg d σ) l,ly (σ y)=true
 |[],_=>⟨rfl,λy hy=>(dP hy).elim⟩
 |x::l,h=>by
  rw[List.all_cons,cB]at h;obtain⟨a1,a2⟩:=ih x h.1;obtain⟨b1,b2⟩:=oB ih l h.2;rw[avs,bE,bE,dQ,a1,b1];grind
def Td{σ:Sg}:∀(d:Nat) (x:SV),ir d σ x=true->bc d σ.a x.av=(cg d σ x).map aD/\∀y∈cg d σ x,ly (σ y)=true:=by
 intro d;induction d with
 |zero=>intro x _;exact⟨rfl,λy hy=>(dP hy).elim⟩
 |succ d ih=>
  intro x hx;have obs:∀s:Nat,(match σ s with|some (.box _ cs)=>cs.all (ir d σ)|some (.arr _ _ cs)=>cs.all (ir d σ)|some (.fam ..)=>false|some (.mf _)=>false|some (.it _ _)=>false|_=>true)=true->
    (aD s::(match σ.a (aD s)with|some ob=>bE (bc d σ.a) ob.cells|none=>[]))=(s::(match σ s with|some (.box _ cs)=>bE (cg d σ) cs|some (.arr _ _ cs)=>bE (cg d σ) cs|some (.fam _ _ _ _ ov)=>bE (λq:Nat×SV=>cg d σ q.2) ov|_=>[])).map aD/\
    ∀y∈(s::(match σ s with|some (.box _ cs)=>bE (cg d σ) cs|some (.arr _ _ cs)=>bE (cg d σ) cs|some (.fam _ _ _ _ ov)=>bE (λq:Nat×SV=>cg d σ q.2) ov|_=>[])),ly (σ y)=true:=by
   intro s h;rw[Sg.bZ,cO];cases hs:σ s with
   |none=>exact⟨rfl,λy hy=>by rw[bO.1 hy,hs];rfl⟩
   |some ob=>
    rw[hs]at h;cases ob with
    |box ty cs=>
     obtain⟨a1,a2⟩:=oB ih cs h;refine⟨congrArg (aD s:: ·) a1,λy hy=> ?_⟩;rcases bh.1 hy with rfl|hy
     .rw[hs];rfl
     grind
    |row ty lt l=>exact⟨congrArg (aD s:: ·) (kC _ _ _),λy hy=>by rw[bO.1 hy,hs];rfl⟩
    |arr ty ez cs=>
     obtain⟨a1,a2⟩:=oB ih cs h;refine⟨congrArg (aD s:: ·) a1,λy hy=> ?_⟩;rcases bh.1 hy with rfl|hy
     .rw[hs];rfl
     grind
    |mp ks=>
     refine⟨congrArg (aD s:: ·) ?_,λy hy=>by rw[bO.1 hy,hs];rfl⟩;show bE (bc d σ.a) (bu (fH ks))=_;rw[n8];exact kC _ _ _
    |fam=>cases h
    |mf=>cases h
    |it=>cases h
  have non:∀{y:SV},bc (d+1) σ.a y.av=[]->cg (d+1) σ y=[]->bc (d+1) σ.a y.av=(cg (d+1) σ y).map aD/\∀z∈cg (d+1) σ y,ly (σ z)=true:=by grind
  cases x with
  |own s t n=>exact obs s hx
  |owns s t o n=>exact obs s hx
  |ownx s n=>exact obs s hx
  |ptr s off=>exact obs s hx
  |pte s t i off=>exact obs s hx
  |ptf s a=>exact obs s hx
  |owF s n=>exact obs s hx
  |ownf s t a n=>cases hx
  |ptef s t a i off=>cases hx
  |agg l=>
   show bc (d+1) σ.a (dn (avs l))=_/\_;rw[FH];exact oB ih l hx
  |fn f a b=>
   have hx:(a.all (ir d σ)&&b.all (ir d σ))=true:=hx;rw[cB]at hx;obtain⟨a1,a2⟩:=oB ih a hx.1;obtain⟨b1,b2⟩:=oB ih b hx.2;show bE (bc d σ.a) (avs a)++bE (bc d σ.a) (avs b)=(bE (cg d σ) a++bE (cg d σ) b).map aD/\∀y∈bE (cg d σ) a++bE (cg d σ) b,_;grind
  |tup l=>exact non (mM (ma _ trivial)) rfl
  |sl n cs=>exact non (mM (ma _ trivial)) rfl
  |pro cs off=>exact non (mM (ma _ trivial)) rfl
  |fnp f a b=>exact non (mM (ma _ trivial)) rfl
  |_=>exact non rfl rfl
inductive RK(X:Type) where
 |val (fr:Bool) (res:X->SV)
 |own (ty:TypeId) (t:LT) (l:X->List t.ty) (ys:X->List SV)
 |ownN (ty:TypeId) (t:LT) (l:X->List t.ty)
 |mutR (t:LT) (ty:TypeId) (l':X->List t.ty)
 |mutB (ty:TypeId) (cells':X->List SV)
 |tree (res:X->SV) (obs:X->aM)
 |rowB (t:LT) (ty:TypeId) (l':X->List t.ty)
structure Con where
 X:Type
 dec:List SV->Option X
 pre:X->List Prop
 rk:RK X
def Z5(P:Program)(f:Nat){X:Type}(dec:List SV->Option X)(pre:X->List Prop):RK X->Prop
 | .val fr res=>∀xs x,dec xs=some x->(∀p∈pre x,p)->∃A r,avs xs=A.map .p/\(res x).av= .p r/\Sat P fr f A r
 | .own ty t l ys=>∀xs x,dec xs=some x->(∀p∈pre x,p)->∃A Y,avs xs=A.map .p/\avs (ys x)=Y.map .p/\uF P f A ty t.w (t.enc (l x)) (l x).length Y
 | .ownN ty t l=>∀xs x,dec xs=some x->(∀p∈pre x,p)->∃A,avs xs= .nil::A.map .p/\CT P f A ty t.w (t.enc (l x)) (l x).length []
 | .mutR t ty l'=>∀l rest x,dec (.lst t l::rest)=some x->(∀p∈pre x,p)->∃A,avs rest=A.map .p/\nX P f (some l.length) A ty t.w (t.enc l) (t.enc (l' x))
 | .mutB ty cells'=>∀cs rest x,dec (.agg cs::rest)=some x->(∀p∈pre x,p)->∃A q q',avs rest=A.map .p/\avs cs=q.map .p/\avs (cells' x)=q'.map .p/\nX P f none A ty 0 q q'
 | .tree res obs=>∀xs x,dec xs=some x->(∀p∈pre x,p)->∃A,avs xs=A.map .p/\QT P f A (res x).av (Sg.a (aM.at (obs x)))
 | .rowB t ty l'=>∀l rest x,dec (.lst t l::rest)=some x->(∀p∈pre x,p)->∃A,avs rest=A.map .p/\QU P f l.length A ty t.w (t.enc l) (t.enc (l' x)) (l' x).length
def Con.Ok(P:Program)(f:Nat)(c:Con):Prop:=Z5 P f c.dec c.pre c.rk
abbrev Tab:=Nat->Option Con
def Tab.Ok(P:Program)(T:Tab):Prop:=∀f c,T f=some c->c.Ok P f
def LT.argP:(t:LT)->t.ty->PV
 | .V=>λv=> .agg [.int .i64 v.x,.int .i64 v.y]
 | .S=>λs=> .agg [.int .i64 s.a.x,.int .i64 s.a.y,.int .i64 s.b.x,.int .i64 s.b.y]
 | .R=>λr=> .sl r.length (gz r)
 | .I=>λn=> .int .i64 n
 | .B=>λb=> .bool b
 | .P=>λp=> .agg [.int .i64 p.1,.int .i64 p.2]
 | .Q=>λr=> .sl r.length (nW r)
 | .T=>λp=> .agg [.int .i64 p.x,.int .i64 p.y,.int .i64 p.den]
 | .U=>λr=> .sl r.length (Ol r)
 | .E=>λe=> .agg [.int .i64 e.fr,.int .i64 e.to,.int .i64 e.lf,.int .i64 e.rt,.sl e.src.length (nW e.src)]
 | .F=>λr=> .agg [.sl r.length (Om r)]
def LT.one:LT->Bool
 | .V=>false
 | .S=>false
 | .P=>false
 | .T=>false
 | .E=>false
 | .F=>false
 |_=>true
def uC(t:LT)(v:SV):Option t.ty:=match t.one with
 |true=>t.dec [v]
 |false=>(match v with| .agg l=>t.dec l|_=>none)
def AW{t:LT}{v:SV}{x:t.ty}(h:uC t v=some x):v.av= .p (t.argP x):=by
 have agg:∀l:List SV,v= .agg l->t.dec l=some x->v.av= .p (.agg (t.rowP x)):=by intro l e hd;subst e;show dn (avs l)=_;rw[LT.tK hd,nv]
 have one:t.dec [v] =some x->∀c,t.rowP x=[c]->v.av= .p c:=by intro hd c hc;have:=LT.tK hd;rw[hc]at this;simp only[avs,cO,lI,mG,and_true]at this;exact this
 unfold uC at h;cases t<;>simp only[LT.one]at h<;>first
  |exact one h _ rfl
  |(split at h<;>first|exact agg _ rfl h|cases h)
def Yu(P:Program)(pv:PV)(t:LT)(q:t.ty->Bool)(dom:t.ty->Prop):Prop:=∃f first caps,pv= .fn (.func f) first caps/\∀x,dom x->∃fr,Sat P fr f (first++[t.argP x] ++caps) (.bool (q x))
def Yt(P:Program)(pv:PV)(t:LT)(q:t.ty->t.ty->Int)(dom:t.ty->t.ty->Prop):Prop:=∃f first caps,pv= .fn (.func f) first caps/\∀x y,dom x y->∃fr,Sat P fr f (first++[t.argP x,t.argP y] ++caps) (.int .i64 (q x y))
def qZ(x:SV):Bool:=match x.av with
 | .p r=>r.flat
 |_=>false
def wY(σ:Sg):List SV->List Prop×List SV×List Nat
 |[] =>([],[],[])
 |x::l=>(match eT 3 σ x,wY σ l with
  |some (ps,y),(qs,m,rd)=>(ps++qs,y::m,cg 3 σ x++rd)
  |none,(qs,m,rd)=>(qs,.junk::m,rd))
def zM{σ:Sg}:∀{l:List SV} {ps:List Prop} {m:List SV} {rd:List Nat},wY σ l=(ps,m,rd)->(∀p∈ps,p)->∃q R,avs m=q.map .p/\q7 σ.a (avs l) q R/\inC R (rd.map ncl)
 |[],_,_,_,h,_=>by cases h;exact⟨[],[],rfl,rfl,λs hs=>by cases hs⟩
 |x::l,ps,m,rd,h,hp=>by
  unfold wY at h;split at h
  .rename_i ps1 y qs m1 rd1 h1 h2;cases h;obtain⟨q,R,e1,e2,e3⟩:=zM h2 λp hh=>hp p (ff _ hh);obtain⟨q1,f1,f2⟩:=rn h1 λp hh=>hp p (fu _ hh);refine⟨q1::q,bc 3 σ.a x.av++R,by rw[avs,f2,e1];rfl,⟨_,_,rfl,.inr ⟨f1,rfl⟩,e2⟩,λs hs=> ?_⟩;rw[dQ];rcases d7.1 hs with hs|hs
   .exact fu _ (zp 3 x s hs)
   .exact ff _ (e3 s hs)
  .rename_i qs m1 rd1 h1 h2;cases h;obtain⟨q,R,e1,e2,e3⟩:=zM h2 hp;exact⟨.junk::q,R,by rw[avs,e1];rfl,⟨[],R,rfl,.inl ⟨rfl,rfl⟩,e2⟩,e3⟩
def qP(T:Tab)(n:Nat)(σ:Sg)(f:Nat)(xs:List SV):SR:=match T f with
 |none=>none
 |some ⟨_,dec,pre,rk⟩=>(match rk with
  | .val fr res=>(match gD (eT 3 σ) xs with
    |some (ps,bs)=>(match dec bs with
     |some x=>(match(res x).ape,bK (avs xs)with
      |false,some _=>some (ps++pre x,res x,[],[])
      |false,none=>(match fr,qZ (res x)with
       |false,false=>(match xs.all (ir 3 σ)with|true=>some (ps++pre x,res x,bE (cg 3 σ) xs,(bE (cg 3 σ) xs).map (·,none))|false=>none)
       |_,_=>some (ps++pre x,res x,bE (cg 3 σ) xs,[]))
      |_,_=>none)
     |none=>none)
    |none=>(match wY σ xs with
     |(ps,bs,rd)=>(match dec bs with
      |some x=>(match(res x).ape,qZ (res x)with
       |false,true=>some (ps++pre x,res x,rd,[])
       |_,_=>none)
      |none=>none)))
  | .own ty t l ys=>(match bK (avs xs),dec xs,frs σ n with
    |some _,some x,true=>(match ys x with
     |[] =>some (pre x,.own n t (l x).length,[],[(n,some (.row ty t (l x)))])
     |y::r=>(match af (y::r).length 0 with|_=>some (pre x,.tup (.own n t (l x).length::y::r),[],[(n,some (.row ty t (l x)))])))
    |_,_,_=>none)
  | .ownN ty t l=>(match xs with
    | .nil::rest=>(match bK (avs rest),dec (.nil::rest),frs σ n with
      |some _,some x,true=>some (pre x,.own n t (l x).length,[],[(n,some (.row ty t (l x)))])
      |_,_,_=>none)
    |_=>none)
  | .mutR t ty l'=>(match xs with
    | .own s _ m::rest=>(match σ s,bK (avs rest)with
      |some (.row ty' t' l),some _=>(match decEq t' t,af ty' ty with
       | .isTrue h,true=>(match dec (.lst t (h▸l)::rest)with
         |some x=>some ((m=l.length)::pre x,.undef,[s],[(s,some (.row ty t (l' x)))])
         |none=>none)
       |_,_=>none)
      |_,_=>none)
    |_=>none)
  | .mutB ty cells'=>(match xs with
    | .ptr s 0::rest=>(match σ s,bK (avs rest)with
      |some (.box ty' cs),some _=>(match af ty' ty,dec (.agg cs::rest)with
       |true,some x=>some (pre x,.undef,[s],[(s,some (.box ty (cells' x)))])
       |_,_=>none)
      |_,_=>none)
    |_=>none)
  | .tree .. =>none
  | .rowB .. =>none)
def FB{P:Program}{T:Tab}(hT:T.Ok P){n:Nat}{σ:Sg}{f:Nat}{xs:List SV}{ps:List Prop}{r:SV}{rd:List Nat}{W:aM}(h:qP T n σ f xs=some (ps,r,rd,W))(hp:∀p∈ps,p):
  (li P σ.a f (avs xs) (λr' R' W'=>r'=r.av/\bJ σ rd W R' W')\/vn P n f (avs xs) (λr' R' W'=>r'=r.av/\bJ σ rd W R' W'))/\r.ok:=by
 unfold qP at h;split at h
 .cases h
 rename_i X dec pre rk hTf;have hc:=hT f _ hTf;unfold Con.Ok at hc;split at h
 .rename_i fr res;split at h
  case h_2=>
   split at h;rename_i qs bs rd' hb;split at h
   case h_2=>cases h
   rename_i x hx;split at h<;>cases h;rename_i hape hfl;obtain⟨A,r,h1,h2,h3⟩:=hc bs x hx (λp h=>hp p (ff _ h));obtain⟨q,R,e1,e2,e3⟩:=zM hb λp h=>hp p (fu _ h);have e4:q=A:=by rw[e1]at h1;have:=congrArg bK h1;rw[cQ,cQ]at this;cases this;rfl
   subst e4;unfold qZ at hfl;rw[h2]at hfl;refine⟨.inl (.inr (.inr ⟨q,R,r,e2,h3.fresh hfl,h2.symm,e3,(λs hs=>by cases hs),rfl⟩)),SV.jh hape⟩
  rename_i qs bs hb;split at h
  case h_2=>cases h
  rename_i x hx;have fin:(∀p∈qs++pre x,p)->∃A r,cJ (ci 3 σ.a) (avs xs)=some A/\(res x).av= .p r/\Sat P fr f A r:=by
   intro hp;obtain⟨A,r,h1,h2,h3⟩:=hc bs x hx (λp h=>hp p (by grind));obtain⟨q,h4,h5⟩:=p7 (λx ps y=>rn) hb (λp h=>hp p (by grind));rw[h1]at h5;have:A=q:=by have:=congrArg bK h5;rw[cQ,cQ]at this;cases this;rfl
   subst this;grind
  have hR:bJ σ (bE (cg 3 σ) xs) [] (bE (bc 3 σ.a) (avs xs)) [] :=⟨mX (zp 3) xs,λs hs=>by grind,rfl⟩;split at h
  .rename_i A' hape hA';cases h;obtain⟨A,r,h1,h2,h3⟩:=fin hp;refine⟨.inl ?_,SV.jh hape⟩;rw[h2];rw[fD hA',oX]at h1;cases h1;exact yH h3 hA' ⟨rfl,bJ.read σ []⟩
  .rename_i hape hA';cases hfr:fr with
   |true=>
    rw[hfr]at h;cases h;obtain⟨A,r,h1,h2,h3⟩:=fin hp;refine⟨.inl ?_,SV.jh hape⟩;rw[h2];rw[hfr]at h3;exact DL h3 h1 rfl ⟨rfl,hR⟩
   |false=>
    cases hfl:qZ (res x)with
    |true=>
     rw[hfr,hfl]at h;cases h;obtain⟨A,r,h1,h2,h3⟩:=fin hp;refine⟨.inl ?_,SV.jh hape⟩;unfold qZ at hfl;rw[h2]at hfl|-;exact DL (h3.fresh hfl) h1 rfl ⟨rfl,hR⟩
    |false=>
     rw[hfr,hfl]at h;dsimp only at h;split at h<;>cases h;rename_i hall;obtain⟨A,r,h1,h2,h3⟩:=fin hp;refine⟨.inl ?_,SV.jh hape⟩;rw[h2];obtain⟨e1,e2⟩:=oB (Td 3) xs hall;refine R8 h3 h1 e1 ⟨rfl,?_⟩;have e3:((bE (cg 3 σ) xs).map aD).map (·,(none:Option Ob))=aM.sto ((bE (cg 3 σ) xs).map (·,none)):=by unfold aM.sto;rw[gS,gS];rfl
     rw[e3];exact bJ.flat λq hq=>by obtain⟨y,hy,rfl⟩:=cC.1 hq;exact⟨e2 y hy,rfl⟩
  .cases h
 .rename_i ty t l ys;split at h
  case h_2=>cases h
  rename_i A' x hA' hx hfr;obtain⟨f1,f2⟩:=gU hfr;have fin:(∀p∈pre x,p)->∃Y,avs (ys x)=Y.map .p/\uF P f A' ty t.w (t.enc (l x)) (l x).length Y:=by intro hp;obtain⟨A,Y,h1,h2,h3⟩:=hc xs x hx hp;rw[h1,cQ]at hA';cases hA';exact⟨Y,h2,h3⟩
  split at h
  .rename_i hy;cases h;obtain⟨Y,h1,h2⟩:=fin hp;rw[hy]at h1;have hY:Y=[] :=by have:=congrArg fe h1;simp[avs]at this;grind
   subst hY;exact⟨.inr ⟨A',ty,t.w,t.enc (l x),(l x).length,[],by grind,by show _=AV.own (aD n) 0 _;rw[f1];rfl,bJ.new (ob:= .row ty t (l x)) f2 f1 rfl⟩,trivial⟩
  .rename_i y r' hy;cases h;obtain⟨Y,h1,h2⟩:=fin hp;rw[hy]at h1;refine⟨.inr ⟨A',ty,t.w,t.enc (l x),(l x).length,Y,by grind,?_,bJ.new (ob:= .row ty t (l x)) f2 f1 rfl⟩,trivial⟩;show wv n (l x).length Y=iE (avs (.own n t (l x).length::y::r'));cases Y with
   |nil=>simp[avs]at h1
   |cons y0 Y=>
    rw[avs,h1];unfold wv iE;rw[<-f1];rfl
 .rename_i ty t l;split at h
  case h_2=>cases h
  rename_i rest;split at h<;>cases h;rename_i A' x hA' hx hfr;obtain⟨f1,f2⟩:=gU hfr;obtain⟨A,h1,h2⟩:=hc _ x hx hp;have hA2:A'=A:=by have h1:AV.nil::avs rest= .nil::A.map .p:=h1;rw[mG]at h1;rw[h1.2,cQ]at hA';cases hA';rfl
  subst hA2;exact⟨.inr ⟨A',ty,t.w,t.enc (l x),(l x).length,[],.inr ⟨avs rest,rfl,hA',h2⟩,by show _=AV.own (aD n) 0 _;rw[f1];rfl,bJ.new (ob:= .row ty t (l x)) f2 f1 rfl⟩,trivial⟩
 .rename_i t ty l';split at h
  case h_2=>cases h
  rename_i s t2 m rest;split at h
  case h_2=>cases h
  rename_i ty' t' l A' hs hA';split at h
  case h_2=>cases h
  rename_i he _ hty;subst he;split at h<;>cases h;rename_i x hx;have hm:m=l.length:=hp _ (by simp);obtain⟨A,h1,h2⟩:=hc l rest x hx (by grind);have hty:=bm hty;refine⟨.inl (.inr (.inl ?_)),trivial⟩;refine⟨ty,t'.w,t'.enc l,by rw[Sg.bZ,hs,hty];rfl,j4 t'.gn,A,t'.enc (l' x),by rw[h1,cQ],by grind,rfl,?_⟩;exact bJ.flat (rd:=[s]) (W:=[(s,some (.row ty t' (l' x)))]) λq hq=>by rw[bO.1 hq,hs];exact⟨rfl,rfl⟩
 .rename_i ty cells';split at h
  case h_2=>cases h
  rename_i s rest;split at h
  case h_2=>cases h
  rename_i ty' cs A' hs hA';split at h<;>cases h;rename_i x hty hx;obtain⟨A,q,q',h1,h2,h3,h4⟩:=hc cs rest x hx hp;have hty:=bm hty;refine⟨.inl (.inr (.inl ?_)),trivial⟩;refine⟨ty,q,by rw[Sg.bZ,hs,hty];show some (⟨ty,0,avs cs⟩:Ob)=_;rw[h2],A,q',by rw[h1,cQ],h4,rfl,?_⟩;rw[<-h3];exact bJ.flat (rd:=[s]) (W:=[(s,some (.box ty (cells' x)))]) λq hq=>by rw[bO.1 hq,hs];exact⟨rfl,rfl⟩
 .cases h
 .cases h
def sL(P:Program)(T:Tab)(n:Nat)(σ:Sg)(fv:SV)(xs:List SV):SR:=match fv with
 | .fn g a b=>qP T n σ g (a++xs++b)
 | .fnp g a b=>(match bK (avs a),bK (avs b)with|some _,some _=>qP T n σ g (a++xs++b)|_,_=>none)
 | .clo1 pv t q dom=>(match xs with
   |[v] =>(match uC t v with|some x=>some ([dom x/\Yu P pv t q dom],.bool (q x),[],[])|none=>none)
   |_=>none)
 | .clo2 pv t q dom=>(match xs with
   |[v,u] =>(match uC t v,uC t u with|some x,some y=>some ([dom x y/\Yt P pv t q dom],.int .i64 (q x y),[],[])|_,_=>none)
   |_=>none)
 |_=>none
def SU{P:Program}{T:Tab}(hT:T.Ok P){n:Nat}{σ:Sg}{fv:SV}{xs:List SV}{ps:List Prop}{r:SV}{rd:List Nat}{W:aM}(h:sL P T n σ fv xs=some (ps,r,rd,W))(hp:∀p∈ps,p):
  (wh P σ.a fv.av (avs xs) (λr' R' W'=>r'=r.av/\bJ σ rd W R' W')\/wf P n fv.av (avs xs) (λr' R' W'=>r'=r.av/\bJ σ rd W R' W'))/\r.ok:=by
 unfold sL at h;split at h
 .have:=FB hT h hp;rw[lN,lN]at this;exact this
 .rename_i g a b;split at h
  case h_2=>cases h
  rename_i x y h1 h2;have:=FB hT h hp;rw[lN,lN,fD h1,fD h2]at this;have e:(SV.fnp g a b).av= .p (.fn (.func g) x y):=by simp only[SV.av,h1,h2]
  rw[e];exact this
 .rename_i pv t q dom;split at h
  case h_2=>cases h
  rename_i v;split at h<;>cases h;rename_i x hx;obtain⟨h1,f,first,caps,rfl,h2⟩:=hp _ (bO.2 rfl);obtain⟨fr,h3⟩:=h2 x h1;refine⟨.inl ?_,trivial⟩;show li P σ.a f (first.map .p++[v.av] ++caps.map .p) _;have e:first.map AV.p++[v.av] ++caps.map AV.p=(first++[t.argP x] ++caps).map .p:=by rw[AW hx,dQ,dQ];rfl
  rw[e];exact yH h3 (cQ _) ⟨rfl,bJ.read σ []⟩
 .rename_i pv t q dom;split at h
  case h_2=>cases h
  rename_i v u;split at h<;>cases h;rename_i x y hx hy;obtain⟨h1,f,first,caps,rfl,h2⟩:=hp _ (bO.2 rfl);obtain⟨fr,h3⟩:=h2 x y h1;refine⟨.inl ?_,trivial⟩;show li P σ.a f (first.map .p++[v.av,u.av] ++caps.map .p) _;have e:first.map AV.p++[v.av,u.av] ++caps.map AV.p=(first++[t.argP x,t.argP y] ++caps).map .p:=by rw[AW hx,AW hy,dQ,dQ];rfl
  rw[e];exact yH h3 (cQ _) ⟨rfl,bJ.read σ []⟩
 .cases h
structure Cx where
 P:Program
 T:Tab
 lt:TypeId->Option LT
 q:EqT
 mt:TypeId->Bool
 inl:Nat->Bool
def aBY(P:Program)(t:TypeId):Prop:=∃k e,P.underlying t=some (.map k e)/\MKey P k 2/\∀w,(zeroValue e).run P w= .ok (.bool false) w
def Cx.Ok(X:Cx):Prop:=X.T.Ok X.P/\X.q.Ok X.P/\∀t,X.mt t=true->aBY X.P t
def kw:Option SV->SR
 |some r=>(match r.ape with|false=>some ([],r,[],[])|true=>none)
 |none=>none
def pd{o:Option SV}{ps:List Prop}{r:SV}{rd:List Nat}{W:aM}(h:kw o=some (ps,r,rd,W)):o=some r/\r.ok/\ps=[]/\rd=[]/\W=[] :=by
 unfold kw at h;split at h
 .split at h<;>cases h;rename_i hh;exact⟨rfl,SV.jh hh,rfl,rfl,rfl⟩
 .cases h
def nK:Option (List Prop×SV)->SR
 |some (ps,r)=>(match r.ape with|false=>some (ps,r,[],[])|true=>none)
 |none=>none
def uv{o:Option (List Prop×SV)}{ps:List Prop}{r:SV}{rd:List Nat}{W:aM}(h:nK o=some (ps,r,rd,W)):o=some (ps,r)/\r.ok/\rd=[]/\W=[] :=by
 unfold nK at h;split at h
 .split at h<;>cases h;rename_i hh;exact⟨rfl,SV.jh hh,rfl,rfl⟩
 .cases h
def nJ:SR->SR
 |some (ps,r,rd,W)=>(match r.ape with|false=>some (ps,r,rd,W)|true=>none)
 |none=>none
def yU{o:SR}{ps:List Prop}{r:SV}{rd:List Nat}{W:aM}(h:nJ o=some (ps,r,rd,W)):o=some (ps,r,rd,W)/\r.ok:=by
 unfold nJ at h;split at h
 .split at h<;>cases h;rename_i hh;exact⟨rfl,SV.jh hh⟩
 .cases h
def OR(raw:Bool)(x:SV):SV:=match raw with
 |true=>(match x with| .nil=> .sl 0 [] |y=>y)
 |false=>x
def sop(X:Cx)(raw:Bool)(n:Nat)(o:Op)(E:SE)(σ:Sg):SR:=match o with
 | .move x=>some ([],E x,[],[])
 | .assign x=>some ([],OR raw (E x),[],[])
 | .pick c a b=>kw (BP (E c) (E a) (E b))
 | .alloc t=>sw X.P σ n t
 | .box t x=>tj σ n t (E x)
 | .build t parts=>ss X.P t (parts.toList.map λq=>(q.1,E q.2))
 | .buildSlice t len parts=>sM X.P σ n t len (parts.toList.map λq=>(q.1,E q.2))
 | .load t x=>nJ (tS X.P t (E x) σ)
 | .store t a x=>qE X.P t (E a) (E x) σ
 | .nilCheck x=>(match xC (E x).av with|true=>some ([],E x,[],[])|false=>none)
 | .binOp op t x y _=>nK (tk X.P X.q raw op t (E x) (E y))
 | .unOp op _ x=>nK (sun raw op (E x))
 | .convert s d x=>nK (tT X.P raw s d (E x))
 | .makeFunc (.func f) first caps=>some ([],.fn f (first.toList.map E) (caps.toList.map E),[],[])
 | .slice t x lo hi none=>(match lC E lo,lC E hi with|some a,some b=>nK (sm X.P t (E x) a b)|_,_=>none)
 | .fieldAddr t x f=>(match Ah X.P t (E x) f with|some r=>some ([],r,[],[])|none=>none)
 | .field t x f=>kw (Ag X.P t (E x) f)
 | .indexAddr t x i=>(match sq X.P t (E x) (E i)with|some (ps,r)=>some (ps,r,[],[])|none=>none)
 | .extract x i=>kw (BU (E x) i)
 | .call {callee:= .value f,args, .. }=>sL X.P X.T n σ (E f) (args.toList.map E)
 | .call {callee:= .builtin .len,args:=⟨[x]⟩,argTypes:=⟨[t]⟩}=>kw (B0 X.P t (E x))
 | .call {callee:= .builtin .append,args:=⟨[x,y]⟩,argTypes:=⟨[t,t']⟩}=>qi X.P X.lt n t t' σ (E x) (E y)
 | .call {callee:= .builtin .min,args:=⟨[x,y]⟩, .. }=>kw (smm min (E x) (E y))
 | .call {callee:= .builtin .max,args:=⟨[x,y]⟩, .. }=>kw (smm max (E x) (E y))
 | .makeSlice t a b=>nJ (tR X.P X.lt σ n t (E a) (E b))
 |_=>none
def Xy{X:Cx}(hX:X.Ok){raw:Bool}{n:Nat}{o:Oper}{E:SE}{σ:Sg}(hE:∀x,(E x).ok){ps:List Prop}{r:SV}{rd:List Nat}{W:aM}(h:sop X raw n o.op E σ=some (ps,r,rd,W))(hp:∀p∈ps,p):
  AOp X.P n o E.a σ.a (λr' R' W'=>r'=r.av/\bJ σ rd W R' W')/\r.ok:=by
 obtain⟨hT,hq,_⟩:=hX;generalize ho:o.op=op at h;have A:∀{R:SR},nN X.P n o E σ R->R=some (ps,r,rd,W)->AOp X.P n o E.a σ.a (λr' R' W'=>r'=r.av/\bJ σ rd W R' W'):=λhs e=>hs _ _ _ _ e hp;have avl:∀l:List Operand,avs (l.map E)=l.map E.a:=λl=>by rw[fy,gS];rfl
 unfold sop at h;split at h
 .rename_i x;cases h;exact⟨by unfold AOp;rw[ho];exact⟨rfl,bJ.read σ []⟩,hE x⟩
 .rename_i x;cases h;unfold OR;split
  .split
   .rename_i hx;exact⟨by unfold AOp;rw[ho];exact .inr ⟨by show(E x).av= .nil;rw[hx];rfl,rfl,bJ.read σ []⟩,trivial⟩
   .exact⟨by unfold AOp;rw[ho];exact .inl ⟨rfl,bJ.read σ []⟩,hE x⟩
  .exact⟨by unfold AOp;rw[ho];exact .inl ⟨rfl,bJ.read σ []⟩,hE x⟩
 .obtain⟨h1,h2,rfl,rfl,rfl⟩:=pd h;exact⟨by unfold AOp;rw[ho];exact Uq h1 ⟨rfl,bJ.read σ []⟩,h2⟩
 .refine⟨A (TW ho) h,?_⟩;unfold sw at h;split at h<;>cases h;trivial
 .refine⟨A (We ho) h,?_⟩;unfold tj at h;split at h<;>cases h;trivial
 .refine⟨A (TS ho) h,?_⟩;unfold ss at h;split at h
  .split at h<;>cases h;trivial
  .cases h
 .refine⟨A (SW ho) h,?_⟩;unfold sM at h;split at h
  .split at h
   .split at h<;>cases h;trivial
   .cases h
  .cases h
 .rename_i t x;obtain⟨h1,h2⟩:=yU h;exact⟨A (U1 ho (hE x)) h1,h2⟩
 .refine⟨A (TE ho) h,?_⟩;unfold qE at h;split at h
  .split at h
   .split at h
    .split at h
     .split at h<;>cases h;trivial
     .split at h<;>cases h;trivial
     .cases h
    .split at h
     .split at h<;>cases h;trivial
     .cases h
    .split at h<;>cases h;trivial
    .cases h
   .cases h
  .cases h
 .rename_i x;split at h<;>cases h;rename_i hn;exact⟨by unfold AOp;rw[ho];exact⟨hn,rfl,bJ.read σ []⟩,hE x⟩
 .obtain⟨h1,h2,rfl,rfl⟩:=uv h;exact⟨by unfold AOp;rw[ho];exact Wf hq h1 hp ⟨rfl,bJ.read σ []⟩,h2⟩
 .obtain⟨h1,h2,rfl,rfl⟩:=uv h;exact⟨by unfold AOp;rw[ho];exact Xx h1 hp ⟨rfl,bJ.read σ []⟩,h2⟩
 .obtain⟨h1,h2,rfl,rfl⟩:=uv h;exact⟨by unfold AOp;rw[ho];exact U5 h1 hp ⟨rfl,bJ.read σ []⟩,h2⟩
 .cases h;refine⟨?_,trivial⟩;unfold AOp;rw[ho];refine⟨?_,bJ.read σ []⟩;show _=AV.fn _ (avs _) (avs _);rw[avl,avl]
 .rename_i t x lo hi;split at h
  case h_2=>cases h
  rename_i a b ha hb;obtain⟨h1,h2,rfl,rfl⟩:=uv h;refine⟨?_,h2⟩;unfold AOp;rw[ho];dsimp only;have key:∀(z:Option Operand) (c:Option Int) (d:Int),lC E z=some c->loA E.a z d=some (c.getD d):=by
   intro z c d hz;cases z with
   |none=>cases hz;rfl
   |some z=>
    unfold lC at hz;dsimp only at hz;split at hz<;>cases hz;rename_i k hk;exact G6 hk
  rw[key lo a 0 ha,key hi b _ hb];exact TF h1 hp ⟨rfl,bJ.read σ []⟩
 .rename_i t x f;split at h<;>cases h;rename_i h1;have:=TQ h1 (K:=λr'=>r'=r.av/\bJ σ [] [] [] []) ⟨rfl,bJ.read σ []⟩;exact⟨by unfold AOp;rw[ho];exact this.1,this.2 (hE x)⟩
 .obtain⟨h1,h2,rfl,rfl,rfl⟩:=pd h;exact⟨by unfold AOp;rw[ho];exact TP h1 ⟨rfl,bJ.read σ []⟩,h2⟩
 .split at h<;>cases h;rename_i h1;have:=TN h1 hp (K:=λr'=>r'=r.av/\bJ σ [] [] [] []) ⟨rfl,bJ.read σ []⟩;exact⟨by unfold AOp;rw[ho];exact this.1,this.2⟩
 .obtain⟨h1,h2,rfl,rfl,rfl⟩:=pd h;exact⟨by unfold AOp;rw[ho];exact U2 h1 ⟨rfl,bJ.read σ []⟩,h2⟩
 .have:=SU hT h hp;rw[avl]at this;exact⟨by unfold AOp;rw[ho];exact this.1,this.2⟩
 .obtain⟨h1,h2,rfl,rfl,rfl⟩:=pd h;exact⟨by unfold AOp;rw[ho];exact Wa h1 ⟨rfl,bJ.read σ []⟩,h2⟩
 .have:=Wg h hp;refine⟨by unfold AOp;rw[ho];exact this,?_⟩;unfold qi at h;split at h
  .unfold wS at h;split at h
   .split at h<;>cases h;trivial
   .cases h
  .unfold tU at h;split at h
   .split at h
    .split at h<;>cases h;trivial
    .cases h
   .cases h
 .obtain⟨h1,h2,rfl,rfl,rfl⟩:=pd h;exact⟨by unfold AOp;rw[ho];exact IJ h1 ⟨rfl,bJ.read σ []⟩,h2⟩
 .obtain⟨h1,h2,rfl,rfl,rfl⟩:=pd h;exact⟨by unfold AOp;rw[ho];exact IJ h1 ⟨rfl,bJ.read σ []⟩,h2⟩
 .obtain⟨h1,h2⟩:=yU h;exact⟨A (Uy ho) h1,h2⟩
 .cases h
end
section
variable {P:Program} {o:Oper} {E:Operand->AV} {σ:Nat->Option Ob} {n:Nat}
def UW{c:Call}{f:Operand}{fid:FuncId}{A cells:List PV}{m ty esz:Nat}(ho:o.op= .call c)(hc:c.callee= .value f)(hfv:E f= .p (.fn (.func fid) [] []))
  (hA:cJ (ci 3 σ) (c.args.toList.map E)=some A) (hfl:cells.all flat1=true) (hS:uF P fid A ty esz cells m []):bB P o E σ n (.own (sit n 0) 0 m) (bE (bc 3 σ) (c.args.toList.map E)) [(sit n 0,some ⟨ty,esz,cells.map .p⟩)] :=by
 have hfm:f∈o.op.operands.toList:=by rw[ho];simp[b8,fq,hc]
 have ham:∀x∈c.args.toList,x∈o.op.operands.toList:=by intro x hx;rw[ho];simp[b8,fq];exact .inr (by grind)
 obtain⟨hok,he,hcalls⟩:=hS;intro C0 ρ g V w B hs hB hR hn hgn hE;have hn:=hn _ (fF n 0);have hgn:=hgn _ (fF n 0);have hcl:∀s,cls s≠n->s≠sit n 0:=λs h e=>h (by rw[e];exact fF n 0);have hargs:∀l:List Operand,(∀x∈l,x∈o.op.operands.toList)->ap ρ (ak C0 B w ρ g) (l.map E) (l.map (bG V)):=by
  intro l;induction l with
  |nil=>intro _;simp only[lI];unfold ap;rfl
  |cons x l ih=>
   intro hx;simp only[cO];unfold ap;grind
 have hall:=hargs _ ham;have hsnap:bL (λb o v=>w.cell? ⟨b,o,none⟩=some v) A (c.args.toList.map (bG V)):=by
  obtain⟨g1,g2⟩:=jD hA;refine bL.of _ _ (by grind) λi y hi=> ?_;have hlt:i<(c.args.toList.map E).length:=by rw[g1];exact(nj.1 hi).1
  obtain⟨y',h5,h6⟩:=g2 i _ (c8 hlt);rw[hi]at h5;cases h5;obtain⟨v,k1,k2⟩:=hall.get _ _ i _ (c8 hlt);exact⟨v,k1,vM hs _ (λ_=>True) (λb o v h=>h.1) (λs ob b c _ _ _ _ o v h=>h) 3 _ _ v h6 (λs hs'=>⟨trivial,hR s (jY (List.getElem_mem hlt) hs')⟩) k2⟩
 have hvf:bG V f= .func (.func fid) #[] #[] :=by have:=hE f hfm;rw[hfv]at this;unfold aR a8 at this;obtain⟨v1,v2,h1,h2,h3⟩:=this;unfold bL at h2 h3;rw[h1,h2,h3]
 have hrun:(execOp (bG V) o).run P w= .ok (.enter fid (c.args.toList.map (bG V)).toArray) w:=by
  unfold execOp;rw[ho];have e2: #[] ++nf (bG V) c.args++ #[] =(c.args.toList.map (bG V)).toArray:=by apply kW.1;simp
  simp only[resolve,hc,hvf,ng,bk,cG,bq,invoke,j6 hok,e2]
 have hlive:∀s ob b c,g s=some ob->ρ s=some (some b,c)->b<w.heap.size:=by intro s ob b c e1 e2;obtain⟨_,arr,e3⟩:=hs.at e1 e2;exact e3.lt
 unfold cR;rw[hrun];dsimp only;refine(hcalls _ w _ (λb o v h=>h) hsnap).mono ?_;rintro e w' ⟨v,us,q,c,rfl,hbel,hys,hrow⟩;have hus:us=[] :=by have:=hys.length;simpa using this
 subst hus;have hqb:∀b,q=some b->w.heap.size<=b:=by
  intro b hb;rcases hrow with⟨h1,_⟩|⟨b',arr,h1,_,_,h4,_⟩
  .grind
  .grind
 have hold:∀b,b<w.heap.size->w'.heap[b]? =w.heap[b]? :=λb hb=>hbel.block b hb;generalize hnS:sit n 0=nS at*
 let ρ':Ren:=λs=>if s=nS then some (q,c)else ρ s
 have hρn:ρ' nS=some (q,c):=if_pos rfl;have hρs:∀s,s≠nS->ρ' s=ρ s:=λs h=>if_neg h;have hup:∀s,s≠nS->aY g [(nS,some ⟨ty,esz,cells.map .p⟩)] s=g s:=by intro s h;unfold aY;simp[cH,beq_eq_false_iff_ne.2 h]
 have hmono:∀b o' x,ak C0 B w ρ g b o' x->ak C0 B w' ρ' (aY g [(nS,some ⟨ty,esz,cells.map .p⟩)]) b o' x:=by
  intro b o' x ⟨e1,e2,e0⟩;have hlt:=ft w ⟨b,o',none⟩ e1;refine⟨(gQ (hold b hlt)).trans e1,λs c' e3=> ?_,e0⟩;by_cases hsn:s=nS
  .grind
  .grind
 refine⟨_,rfl,ρ',λs hs=>hρs s (hcl s hs),hmono,?_,?_,hbel.mono hB⟩
 .refine hs.step (λs o' _ hgs=>hρs s (λh=>by grind)) (λs q' hq=>by grind) hmono ?_ ?_ λk es clock hk=>hold k (iq hk)
  .grind
  .intro s o' hso;have hsn:s=nS:=by
    rcases ia s nS with h|h
    .grind
    .exact h
   subst hsn;simp[cH]at hso;subst hso;refine⟨q,c,hρn,?_⟩;rcases hrow with⟨h1,h2,h3,h4,h5⟩|⟨b,arr,h1,h2,h3,h4,h5,h6,h7,h8,h9⟩
   .grind
   .refine .inr ⟨b,arr,h1,cZ hB h4,⟨h5,λh=>absurd h he,λ_=>⟨h6,by grind,h8⟩,λi x hi=> ?_⟩,λs' o2 c' hne hg' hr'=> ?_⟩
    .have hi:(cells.map AV.p)[i]? =some x:=hi;rw[dH]at hi;cases hci:cells[i]? with
     |none=>grind
     |some y=>
      rw[hci]at hi;simp only[dV,fL]at hi;subst hi;obtain⟨u,k1,k2,k3⟩:=h9 i y hci;exact⟨u,k1,k2,by unfold aR;exact rh (dY.1 hfl y (pM hci)) k3⟩
    grind
 .unfold aR;refine⟨q,c,hρn,?_⟩;rcases hrow with⟨h1,h2,h3,_⟩|⟨b,arr,h1,h2,h3,_⟩
  .exact .inl ⟨h1,h2,h3,rfl⟩
  .exact .inr ⟨b,0,c,h1,h2,h3,λ_=>rfl,λ_=>⟨rfl,rfl⟩⟩
end
section
variable {P:Program} {o:Oper} {E:Operand->AV} {σ:Nat->Option Ob} {n:Nat}
def jl(n:Nat)(zs:List PV):List PV:=(bT n zs).flatten
def Ep(n:Nat)(zs:List PV):(jl n zs).length=n*zs.length:=by unfold jl;simp
def GL{zs:List PV}(h:0<zs.length):∀{n i:Nat},i<n*zs.length->(jl n zs)[i]? =zs[i % zs.length]?
 |0,i,hi=>by omega
 |n+1,i,hi=>by
  unfold jl;rw[nc,List.flatten_cons,List.getElem?_append];by_cases h1:i<zs.length
  .rw[if_pos h1,mC h1]
  .rw[if_neg h1];have e:n*zs.length+zs.length=(n+1)*zs.length:=by rw[lJ,Nat.one_mul]
   have:=GL (zs:=zs) h (n:=n) (i:=i-zs.length) (by omega);unfold jl at this;rw[this,<-Nat.mod_eq_sub_mod (by omega)]
def RU{zero:Array Value}(h:0<zero.size){n i:Nat}(hi:i<n*zero.size):(Builtin.zeroCells zero n).toList[i]? =some (zero[i % zero.size]'(fJ _ h)):=by unfold Builtin.zeroCells;have:=fJ i h;simp[hi,this]
def A6:Value->Option PV
 | .int k m=>some (.int k m)
 | .bool b=>some (.bool b)
 | .string s=>some (.str s)
 |_=>none
def UN{c:Call}{x:Operand}{t e:TypeId}{s off m:Nat}{ob:Ob}{zv:Value}{zs:List PV}(ho:o.op= .call c)(hc:c.callee= .builtin .clear)(hargs:c.args= #[x])(hat:c.argTypes= #[t])(ht:P.underlying t=some (.slice e))(hz:∀w,(zeroValue e).run P w= .ok zv w)
  (hzs:zv.cells.toList.map A6=zs.map some) (h1:eW zv.cells.toList) (ex:E x= .own s off m) (hob:σ s=some ob) (he:ob.esz≠0) (hsz:zs.length=ob.esz) (hoff:off+m*ob.esz<=ob.cells.length):
  bB P o E σ n .undef [s] [(s,some ⟨ob.ty,ob.esz,cn ob.cells off ((jl m zs).map .p)⟩)] :=by
 have hzl:zv.cells.size=ob.esz:=by have:=congrArg fe hzs;simp only[dt,Array.length_toList]at this;omega
 have hzp:0<zv.cells.size:=by omega
 intro C0 ρ g V w B hs hB hR hn hgn hE;have g1:=hE x (by rw[ho];simp[b8,fq,hargs]);rw[ex]at g1;have hgs:g s=some ob:=by grind
 have hcl:∀v w',(Builtin.clear_ #[t] o.type #[bG V x]).run P w= .ok v w'->(execOp (bG V) o).run P w= .ok (.value v) w':=by intro v w' h;unfold execOp;simp only[ho,resolve,hc,invoke,builtin,hargs,hat,bk,cG,bq,List.map_toArray,cO,lI]at*;rw[h];rfl
 obtain⟨l,hl⟩:∃l:List AV,l=(jl m zs).map .p:=⟨_,rfl⟩;rw[<-hl];have hll:l.length=m*ob.esz:=by rw[hl,dt,Ep,hsz]
 obtain⟨q,cp,hρ,hcase⟩:=g1;by_cases hm:m=0
 .have hl0:l=[] :=iZ.1 (by rw[hll,hm,Nat.zero_mul]);subst hl0;have hr:(Builtin.clear_ #[t] o.type #[bG V x]).run P w= .ok (.tuple #[]) w:=by
   rcases hcase with⟨_,hv,_,_⟩|⟨b,p0,c',_,hv,_⟩
   .rw[hv];simp[Builtin.clear_,run_underlying ht]
   .rw[hv,hm];simp[Builtin.clear_,run_underlying ht]
  have hup:aY g [(s,some (⟨ob.ty,ob.esz,cn ob.cells off []⟩:Ob))] =g:=by
   funext s'
   unfold aY;by_cases h:s'=s
   .subst h;simp[cH,cn,hgs]
   .simp[cH,beq_eq_false_iff_ne.2 h]
  unfold cR;rw[hcl _ _ hr,hup];exact⟨ρ,λ_ _=>rfl,λ_ _ _ h=>h,hs,rfl,Below.refl _ _⟩
 obtain⟨b,p0,c',rfl,hv,h5,h6,h7⟩:=hcase.resolve_left (λh=>hm h.2.2.1);have:=h6 hm;subst this;obtain⟨hBb,arr,hO⟩:=hs.at hgs hρ;obtain⟨vs,hvs⟩:∃vs,vs=(Builtin.zeroCells zv.cells m).toList:=⟨_,rfl⟩;have hvl:vs.length=m*ob.esz:=by rw[hvs];simp[Builtin.zeroCells,hzl]
 have hc0:∀i,i<m*ob.esz->∃v y,vs[i]? =some v/\(jl m zs)[i]? =some y/\v.oneCell'=true/\a8 (ak C0 B w ρ g) y v:=by
  intro i hi;have hr:i % zv.cells.size<zv.cells.size:=fJ _ hzp;have e2:=GL (zs:=zs) (by omega) (n:=m) (i:=i) (by rw[hsz];exact hi);have e3:A6 zv.cells[i % zv.cells.size] =zs[i % zv.cells.size]? :=by
   have:=congrArg (λl=>l[i % zv.cells.size]?) hzs;simp only[dH]at this;rw[Array.getElem?_toList,Array.getElem?_eq_getElem hr]at this;cases h:zs[i % zv.cells.size]? with
   |none=>rw[h]at this;simp at this
   |some y=>rw[h]at this;simpa using this
  rw[hsz,<-hzl]at e2;obtain⟨y,hy⟩:∃y,zs[i % zv.cells.size]? =some y:=⟨_,c8 (by rw[hsz,<-hzl];exact hr)⟩;refine⟨_,y,by rw[hvs];exact RU hzp (by rw[hzl];exact hi),e2.trans hy,h1 _ (by simp),?_⟩;rw[hy]at e3;generalize zv.cells[i % zv.cells.size] =u at e3;unfold A6 at e3;split at e3<;>cases e3<;>rfl
 have r2:eW vs:=by intro u hu;obtain⟨i,hi,rfl⟩:=List.mem_iff_getElem.1 hu;obtain⟨v,y,e1,_,e3,_⟩:=hc0 i (by omega);rw[c8 hi]at e1;cases e1;exact e3
 have r1:ap ρ (ak C0 B w ρ g) l vs:=ap.of _ _ (by omega) λi x hi=>by
  rw[hl,dH]at hi;cases h:(jl m zs)[i]? with
  |none=>rw[h]at hi;cases hi
  |some y0=>
   have hlt:=(nj.1 h).1;rw[Ep,hsz]at hlt;obtain⟨v,y,e1,e2,_,e4⟩:=hc0 i hlt;rw[h]at hi e2;cases e2;cases hi;exact⟨v,e1,e4⟩
 have hlen:=r1.length;have hoff:p0+l.length<=ob.cells.length:=by rw[hll];exact hoff
 have hle:ob.cells.length<=arr.size:=(hO.row he).2.1;have hst:=run_storeCells_at P b p0 ob.ty vs 0 arr w hO.blk (by omega) r2;have hr:(Builtin.clear_ #[t] o.type #[bG V x]).run P w= .ok (.tuple #[]) (w.setRow b (arr.toList.take p0++vs++arr.toList.drop (p0+vs.length)).toArray):=by rw[hv];obtain⟨k,rfl⟩:∃k,m=k+1:=Nat.exists_eq_succ_of_ne_zero hm;simp only[Builtin.clear_,List.getElem?_toArray,List.getElem?_cons_zero,bk,run_underlying ht,bq,hz,<-hvs];simp only[rF]at hst;rw[hst];rfl
 unfold cR;rw[hcl _ _ hr];clear hcase hr hst;have hblk:(w.setRow b (arr.toList.take p0++vs++arr.toList.drop (p0+vs.length)).toArray).heap[b]? =some (.cells (arr.toList.take p0++vs++arr.toList.drop (p0+vs.length)).toArray ob.ty (0,0)):=setRow_heap w b arr _ ob.ty _ hO.blk;have hold:∀k,k≠b->(w.setRow b (arr.toList.take p0++vs++arr.toList.drop (p0+vs.length)).toArray).heap[k]? =w.heap[k]? :=by intro k hk;unfold uO;simp only[Array.getElem?_modify];rw[if_neg (by grind)]
 have hsize:(w.setRow b (arr.toList.take p0++vs++arr.toList.drop (p0+vs.length)).toArray).heap.size=w.heap.size:=by unfold uO;simp
 have hlk:∀s',s'≠s->[(s,some (⟨ob.ty,ob.esz,cn ob.cells p0 l⟩:Ob))].lookup s'=none:=by intro s' hs';simp[cH,beq_eq_false_iff_ne.2 hs']
 have hup:∀s',s'≠s->aY g [(s,some ⟨ob.ty,ob.esz,cn ob.cells p0 l⟩)] s'=g s':=by intro s' hs';unfold aY;rw[hlk s' hs']
 have hmono:∀b' o' x,ak C0 B w ρ g b' o' x->ak C0 B (w.setRow b (arr.toList.take p0++vs++arr.toList.drop (p0+vs.length)).toArray) ρ (aY g [(s,some ⟨ob.ty,ob.esz,cn ob.cells p0 l⟩)]) b' o' x:=by
  intro b' o' x ⟨e1,e2,e0⟩;have hne:b'≠b:=λe=>by grind
  refine⟨(gQ (hold b' hne)).trans e1,?_,e0⟩;intro s' c' e3;by_cases e:s'=s
  .grind
  .grind
 refine⟨ρ,λ_ _=>rfl,hmono,?_,by rfl,⟨rfl,rfl,rfl,by omega,by grind⟩⟩;refine hs.step (by grind) (λ_ _ h=>h) hmono ?_ ?_ λk es clock hk=>hold k (lc hk hO.blk)
 .intro s' o' b' c' e1 e2 e3;refine hold b' λe=> ?_;subst e;have:=hs.inj s s' ob o' b' cp c' hgs e2 hρ e3;grind
 .intro s' o' e;have e1:s'=s:=by
   rcases ia s' s with h|h
   .grind
   .exact h
  subst e1;have e2:o'=⟨ob.ty,ob.esz,cn ob.cells p0 l⟩:=by simp[cH]at e;exact e.symm
  subst e2;have hasz:(arr.toList.take p0++vs++arr.toList.drop (p0+vs.length)).toArray.size=arr.size:=by simp[fS];omega
  refine⟨some b,cp,hρ,.inr ⟨b,_,rfl,hBb,⟨hblk,?_,?_,?_⟩,?_⟩⟩
  .intro hz;rw[hasz,hO.box hz];exact(mL _ _ _).symm
  .intro hz;obtain⟨k1,k2,k3⟩:=hO.row hz;rw[hasz];exact⟨k1,by rw[mL];exact k2,k3⟩
  .intro j y hj;rcases vP l ob.cells p0 hoff j y hj with⟨h1,h2⟩|⟨h1,h2⟩
   .obtain⟨u,k1,k2⟩:=r1.get _ _ _ y h2;refine⟨u,?_,r2 u (by grind),aR.mono (λ_ _ h=>h) hmono y u k2⟩;grind
   .obtain⟨u,k1,k3,k2⟩:=hO.cells j y h2;refine⟨u,?_,k3,aR.mono (λ_ _ h=>h) hmono y u k2⟩;grind
  .intro s2 o' c' hne e3 e4;rw[hup s2 hne]at e3;exact hne (hs.inj s' s2 ob o' b cp c' hgs e3 hρ e4).symm
end
noncomputable section
def u6{m:Rf}{l r:List AV}(h:dG m l r):dh m (dn l) (dn r):=by
 unfold dn;cases hl:bK l with
 |some q=>
  have e:=fD hl;subst e;have:∀(q:List PV) (r:List AV),dG m (q.map .p) r->r=q.map .p:=by
   intro q;induction q with
   |nil=>intro r h;exact h
   |cons x q ih=>intro r h;obtain⟨y,r',rfl,h1,h2⟩:=h;unfold dh at h1;grind
  rw[this q r h,cQ];rfl
 |none=>
  unfold dh;cases hr:bK r with
  |some q=>exact⟨r,.inr ⟨q,rfl,fD hr⟩,h⟩
  |none=>grind
def ye{m:Rf}{l r:List AV}(h:dG m l r):dh m (iE l) (iE r):=by
 unfold iE;cases hl:bK l with
 |some q=>
  have e:=fD hl;subst e;have:∀(q:List PV) (r:List AV),dG m (q.map .p) r->r=q.map .p:=by
   intro q;induction q with
   |nil=>intro r h;exact h
   |cons x q ih=>intro r h;obtain⟨y,r',rfl,h1,h2⟩:=h;unfold dh at h1;grind
  rw[this q r h,cQ];rfl
 |none=>
  unfold dh;cases hr:bK r with
  |some q=>exact⟨r,.inr ⟨q,rfl,fD hr⟩,h⟩
  |none=>grind
def dc{m:Rf}{x:PV}{y:AV}(h:y= .p x):dh m (.p x) y:=by exact h
def fg(m:Rf):∀q:List PV,dG m (q.map .p) (q.map .p)
 |[] =>by rfl
 |x::q=>by exact⟨_,_,rfl,dc rfl,fg m q⟩
def mT{m:Rf}{α:Type}(f g:α->AV):∀l:List α,(∀x∈l,dh m (f x) (g x))->dG m (l.map f) (l.map g)
 |[],_=>by rfl
 |x::l,h=>by
  exact⟨_,_,rfl,by grind,mT f g l (by grind)⟩
mutual
def SV.ren(f:Nat->Nat):SV->SV
 | .agg l=> .agg (nT f l)
 | .tup l=> .tup (nT f l)
 | .fn g a b=> .fn g (nT f a) (nT f b)
 | .ptr s o=> .ptr (f s) o
 | .pte s t i o=> .pte (f s) t i o
 | .own s t n=> .own (f s) t n
 | .owns s t o n=> .owns (f s) t o n
 | .ownx s n=> .ownx (f s) n
 | .ownf s t a n=> .ownf (f s) t a n
 | .ptef s t a i o=> .ptef (f s) t a i o
 | .ptf s a=> .ptf (f s) a
 | .owF s n=> .owF (f s) n
 | .mp s=> .mp (f s)
 | .any=> .any
 | .undef=> .undef
 | .nil=> .nil
 | .int k n=> .int k n
 | .bool b=> .bool b
 | .lit b=> .lit b
 | .prop p d=> .prop p d
 | .str s=> .str s
 | .lst t l=> .lst t l
 | .sl n cs=> .sl n cs
 | .pe t l i o=> .pe t l i o
 | .pro cs o=> .pro cs o
 | .fnp g a b=> .fnp g a b
 | .clo1 pv t q dom=> .clo1 pv t q dom
 | .clo2 pv t q dom=> .clo2 pv t q dom
 | .ptb F n o=> .ptb F n o
 | .junk=> .junk
def nT(f:Nat->Nat):List SV->List SV
 |[] =>[]
 |x::l=>x.ren f::nT f l
end
def qg(m:Rf)(f:Nat->Nat):Prop:=∀y a,m (inn (f y) a)=some (some (inn y a))
def qg.n{m:Rf}{f:Nat->Nat}(h:qg m f)(y:Nat):m (aD (f y))=some (some (aD y)):=h y 0
mutual
theorem Gc{m:Rf}{f:Nat->Nat}(hm:qg m f):∀v:SV,dh m (v.ren f).av v.av
 | .any=>by trivial
 | .undef=>by rfl
 | .nil=>by rfl
 | .int _ _=>dc rfl
 | .bool _=>dc rfl
 | .lit _=>dc rfl
 | .prop _ _=>dc rfl
 | .str _=>dc rfl
 | .lst _ _=>dc rfl
 | .pe _ _ _ _=>dc rfl
 | .clo1 _ _ _ _=>dc rfl
 | .clo2 _ _ _ _=>dc rfl
 | .ptb _ _ _=>dc rfl
 | .junk=>dc rfl
 | .sl n cs=>by
   simp only[SV.ren,SV.av];split
   .exact dc rfl
   .trivial
 | .pro cs off=>by
   simp only[SV.ren,SV.av];split
   .exact dc rfl
   .trivial
 | .fnp g a b=>by
   simp only[SV.ren,SV.av];split
   .exact dc rfl
   .trivial
 | .agg l=>by exact u6 (oF hm l)
 | .tup l=>by exact ye (oF hm l)
 | .fn g a b=>by exact⟨_,_,rfl,oF hm a,oF hm b⟩
 | .ptr s off=>by exact⟨_,hm.n s,rfl⟩
 | .pte s t i off=>by exact⟨_,hm.n s,rfl⟩
 | .ptf s a=>by exact⟨_,hm.n s,rfl⟩
 | .ptef s t a i off=>by exact⟨_,hm s (a+1),rfl⟩
 | .own s t n=>by exact .inl ⟨_,hm.n s,rfl⟩
 | .owns s t o n=>by exact .inl ⟨_,hm.n s,rfl⟩
 | .ownx s n=>by exact .inl ⟨_,hm.n s,rfl⟩
 | .owF s n=>by exact .inl ⟨_,hm.n s,rfl⟩
 | .ownf s t a n=>by exact .inl ⟨_,hm s (a+1),rfl⟩
 | .mp s=>by exact⟨_,hm.n s,rfl⟩
theorem oF{m:Rf}{f:Nat->Nat}(hm:qg m f):∀l:List SV,dG m (avs (nT f l)) (avs l)
 |[] =>by rfl
 |x::l=>by exact⟨_,_,rfl,Gc hm x,oF hm l⟩
end
def SOb.ren(f:Nat->Nat):SOb->SOb
 | .box ty cs=> .box ty (nT f cs)
 | .arr ty ez cs=> .arr ty ez (nT f cs)
 | .row ty t l=> .row ty t l
 | .fam ty ity t L ov=> .fam ty ity t L (ov.map λq=>(q.1,q.2.ren f))
 | .mp ks=> .mp ks
 | .mf M=> .mf M
 | .it c M=> .it c M
def kF:SOb->Bool
 | .box ty _=> !(af ty 0)
 | .fam _ _ _ _ ov=>ov.isEmpty
 | .arr _ ez _=> !(af ez 0)
 | .mf _=>false
 | .it _ _=>false
 |_=>true
def Tc{m:Rf}{f:Nat->Nat}(hm:qg m f)(k:Nat){o:SOb}(ho:kF o=true):kH m ((o.ren f).ob (f k)) (o.ob k):=by
 cases o with
 |box ty cs=>exact⟨rfl,rfl,oF hm cs⟩
 |arr ty ez cs=>exact⟨rfl,rfl,oF hm cs⟩
 |row ty t l=>exact⟨rfl,rfl,fg m _⟩
 |mp ks=>refine⟨rfl,rfl,?_⟩;show dG m (bu (fH ks)) (bu (fH ks));rw[n8];exact fg m _
 |mf M=>cases ho
 |it c M=>cases ho
 |fam ty ity t L ov=>
  have:ov=[] :=Cr.1 ho;subst this;refine⟨rfl,rfl,mT _ _ _ λi _=> ?_⟩;exact .inl ⟨_,hm k (i+1),rfl⟩
def nR(x:Nat)(ob:SOb):List (Nat×Option Ob):=(aD x,some (ob.ob x))::match ob with
 | .fam _ ity t L _=>(bN L.length).map λa=>(inn x (a+1),some ⟨ity,t.w,(t.enc (L.getD a [])).map .p⟩)
 |_=>[]
def Dz{α:Type}{g0:Nat->Nat}(hg:∀a b,g0 a=g0 b->a=b)(h0:Nat->α):∀(l:List Nat) (a:Nat),(l.map λi=>(g0 i,h0 i)).lookup (g0 a)=if a∈l then some (h0 a)else none
 |[],a=>rfl
 |i::l,a=>by
  rw[cO,dD,Dz hg h0 l a];grind
def yG{α:Type}{s:Nat}:∀{l:List (Nat×α)},(∀q∈l,q.1≠s)->l.lookup s=none
 |[],_=>rfl
 |q::l,h=>by grind
def yP{α:Type}{s:Nat}:∀{l r:List (Nat×α)},(l++r).lookup s=(match l.lookup s with|some x=>some x|none=>r.lookup s)
 |[],r=>rfl
 |q::l,r=>by
  grind
def Vh{ob:SOb}(ho:kF ob=true)(a:Nat):ob.inner a=(match ob with| .fam _ ity t L _=>if a<L.length then some ⟨ity,t.w,(t.enc (L.getD a [])).map .p⟩else none|_=>none):=by
 cases ob<;>first|rfl|(cases ho;done)|skip
 rename_i ty ity t L ov;have:ov=[] :=Cr.1 ho;subst this;show((L[a]?).map λl=>(⟨ity,t.w,(t.enc l).map .p⟩:Ob))=_;grind
def TI(x y:Nat)(ob:SOb):(nR x ob).lookup (aD y)=if y=x then some (some (ob.ob x))else none:=by
 unfold nR;rw[dD];by_cases e:y=x
 .grind
 .rw[beq_eq_false_iff_ne.2 (λh=>e (eD h)),if_neg e];refine yG λq hq=> ?_;split at hq
  .obtain⟨a,_,rfl⟩:=cC.1 hq;exact λh=>by have:=(cI h).2;omega
  .cases hq
def Ut(x y a:Nat){ob:SOb}(ho:kF ob=true):(nR x ob).lookup (inn y (a+1))=if y=x then(ob.inner a).map some else none:=by
 have e0:inn y (a+1)≠aD x:=λh=>by have:=(cI h).2;omega
 rw[Vh ho a];unfold nR;rw[dD,beq_eq_false_iff_ne.2 e0];cases ob with
 |fam ty ity t L ov=>
  by_cases e:y=x
  .subst e;rw[if_pos rfl,Dz (g0:=λa=>inn y (a+1)) (λa b h=>by have:=(cI h).2;omega)];grind
  .rw[if_neg e];refine yG λq hq=> ?_;obtain⟨b,_,rfl⟩:=cC.1 hq;exact λh=>e (cI h).1.symm
 |_=>dsimp only;split<;>rfl
def WY(x:Nat)(ob:SOb){s:Nat}(h:∀x a,s≠inn x a):(nR x ob).lookup s=none:=by
 refine yG λq hq=> ?_;rcases bh.1 hq with rfl|hq
 .exact λe=>h x 0 e.symm
 grind
def lu(W:List (Nat×SOb)):List (Nat×Option Ob):=W.flatMap λq=>nR q.1 q.2
def rU(y:Nat):∀W:List (Nat×SOb),(lu W).lookup (aD y)=(W.lookup y).map λob=>some (ob.ob y)
 |[] =>rfl
 |q::W=>by
  unfold lu;rw[pN,yP,TI,dD];by_cases e:y=q.1
  .grind
  .rw[if_neg e,beq_eq_false_iff_ne.2 e];exact rU y W
def rb(y a:Nat):∀{W:List (Nat×SOb)},(∀q∈W,kF q.2=true)->(W.map (·.1)).Nodup->(lu W).lookup (inn y (a+1))=((W.lookup y).bind (SOb.inner a)).map some
 |[],_,_=>rfl
 |q::W,h,hn=>by
  rw[cO,jy]at hn;have ih:=rb y a (W:=W) (by grind) hn.2;unfold lu;rw[pN,yP,Ut _ _ _ (by grind),dD];by_cases e:y=q.1
  .rw[if_pos e,beq_iff_eq.2 e];have hno:W.lookup y=none:=by grind
   cases hi:q.2.inner a with
   |some ob=>simp[hi]
   |none=>
    have ih':(List.flatMap (λq=>nR q.1 q.2) W).lookup (inn y (a+1))=none:=by have:=ih;unfold lu at this;rw[this,hno];rfl
    grind
  .rw[if_neg e,beq_eq_false_iff_ne.2 e];exact ih
def rm{s:Nat}(h:∀x a,s≠inn x a):∀W:List (Nat×SOb),(lu W).lookup s=none
 |[] =>rfl
 |q::W=>by
  unfold lu;rw[pN,yP,WY _ _ h];exact rm h W
def Dc(W:List (Nat×SOb))(y:Nat):((W.map λq=>(q.1,some q.2)).lookup y:Option (Option SOb))=(W.lookup y).map some:=by
 induction W with
 |nil=>rfl
 |cons q W ih=>
  grind
def bJ.news{σ:Sg}{W:List (Nat×SOb)}(hW:∀q∈W,kF q.2=true)(hn:(W.map (·.1)).Nodup)(hσ:∀q∈W,σ q.1=none):bJ σ [] (W.map λq=>(q.1,some q.2)) [] (lu W):=by
 refine⟨λs hs=>by grind,λs hs=> ?_,?_⟩
 .obtain⟨⟨t,ob⟩,hq,rfl⟩:=cC.1 hs;obtain⟨q,hq1,hq2⟩:=List.mem_flatMap.1 hq;have:cls t=ncl q.1:=by
   unfold nR at hq2;rcases bh.1 hq2 with e|hq2
   .cases e;exact cL _ 0
   .split at hq2
    .obtain⟨a,_,e⟩:=cC.1 hq2;cases e;exact cL _ _
    .cases hq2
  grind
 .funext s
  unfold aY;rcases gT s with⟨y,rfl⟩|⟨y,b,rfl⟩|hns
  .rw[Sg.bZ,Sg.bZ,rU];unfold aM.up;rw[Dc];cases hl:W.lookup y with
   |none=>rfl
   |some ob=>rfl
  .rw[Sg.cq,Sg.cq,rb y b hW hn];unfold aM.up;rw[Dc];cases hl:W.lookup y with
   |none=>rfl
   |some ob=>
    show(match((SOb.inner b ob).map some:Option (Option Ob))with|some x=>x|none=>(σ y).bind (SOb.inner b))=SOb.inner b ob;cases hi:SOb.inner b ob with
    |some o=>rfl
    |none=>grind
  .rw[Sg.fp _ hns,Sg.fp _ hns,rm hns]
def mu(n y:Nat):Nat:=n+NM*(y+1)
def muR(n:Nat):Rf:=λs=>if inn (nm s) (sub s)=s then(if mu n (nm s/NM-1)=nm s then some (some (inn (nm s/NM-1) (sub s)))else none)else none
def Ap{n:Nat}(hn:n<NM)(y:Nat):mu n y/NM-1=y:=by unfold mu;rw[Nat.add_mul_div_left _ _ (by grind),Nat.div_eq_of_lt hn];omega
def LQ{n:Nat}(hn:n<NM)(y:Nat):ncl (mu n y)=n:=by unfold ncl mu;rw[Nat.add_mul_mod_self_left,mC hn]
def YG{n y z:Nat}(hn:n<NM)(h:mu n y=mu n z):y=z:=by rw[<-Ap hn y,h,Ap hn z]
def u7{n:Nat}(hn:n<NM):qg (muR n) (mu n):=by intro y a;unfold muR;rw[la,lR,if_pos rfl,Ap hn,if_pos rfl]
def zI{n s:Nat}{x:Option Nat}(h:muR n s=some x):∃y a,s=inn (mu n y) a/\x=some (inn y a):=by
 unfold muR at h;split at h
 .rename_i h1;split at h
  .rename_i h2;cases h;grind
  .cases h
 .cases h
def qn:List Nat->Nat->Bool
 |[],_=>false
 |x::l,s=>match af s x with|true=>true|false=>qn l s
def vU{s:Nat}:∀{l:List Nat},qn l s=false->s∉l
 |[],_=>dP
 |x::l,h=>by
  unfold qn at h;cases hb:af s x with
  |true=>grind
  |false=>
   rw[hb]at h;intro hm;rcases bh.1 hm with rfl|hm
   .simp_all
   .exact vU h hm
def wO(σ:Sg)(n:Nat):aM->Option (List (Nat×SOb))
 |[] =>some []
 |(y,some ob)::W=>(match kF ob,σ (mu n y),qn (W.map (·.1)) y,wO σ n W with
  |true,none,false,some l=>some ((mu n y,ob.ren (mu n))::l)
  |_,_,_,_=>none)
 |_::_=>none
def VD{f:Nat->Nat}{ob:SOb}(h:kF ob=true):kF (ob.ren f)=true:=by
 cases ob<;>first|exact h|skip
 rename_i ty ity t L ov;have:ov=[] :=Cr.1 h;subst this;rfl
def Tb{f:Nat->Nat}{ob:SOb}(h:kF ob=true)(a:Nat):(ob.ren f).inner a=ob.inner a:=by
 cases ob<;>first|rfl|skip
 rename_i ty ity t L ov;have:ov=[] :=Cr.1 h;subst this;rfl
def Dn{σ:Sg}{n:Nat}(hn:n<NM):∀{W:aM} {l:List (Nat×SOb)},wO σ n W=some l->
  (∀q∈l,kF q.2=true/\σ q.1=none)/\(l.map (·.1)).Nodup/\l.map (·.1)=W.map (λq=>mu n q.1)/\∀z obr,l.lookup z=some obr->∃y ob,z=mu n y/\obr=ob.ren (mu n)/\kF ob=true/\aM.at W y=some ob
 |[],l,h=>by cases h;grind
 |(y,none)::W,l,h=>by cases h
 |(y,some ob)::W,l,h=>by
  unfold wO at h;split at h<;>cases h;rename_i l' h1 h2 h3 h4;obtain⟨g1,g2,g3,g4⟩:=Dn hn h4;have hy:=vU h3;have hnot:mu n y∉l'.map (·.1):=by rw[g3];intro hm;obtain⟨q,hq,e⟩:=cC.1 hm;exact hy (by rw[<-YG hn e];grind)
  refine⟨λq hq=> ?_,?_,?_,?_⟩
  .rcases bh.1 hq with rfl|hq
   .exact⟨VD h1,h2⟩
   grind
  .grind
  .grind
  .intro z obr hz;rw[dD]at hz;by_cases e:z=mu n y
   .rw[beq_iff_eq.2 e]at hz;cases hz;exact⟨y,ob,e,rfl,h1,by unfold aM.at;simp_all⟩
   .rw[beq_eq_false_iff_ne.2 e]at hz;obtain⟨y2,ob2,k1,k2,k3,k4⟩:=g4 z obr hz;unfold aM.at;have:af y2 y=false:=by
     cases hb:af y2 y with
     |false=>rfl
     |true=>simp_all
    grind
def qu:SV->Option Nat
 | .fnp f [] [] =>some f
 |_=>none
def BM(X:Cx)(n:Nat)(σ:Sg)(fv:SV)(xs:List SV):SR:=match qu fv with
 |none=>none
 |some f=>(match X.T f with
  |some ⟨_,dec,pre,.tree res obs⟩=>(match bK (avs xs),dec xs,dB n NM with
   |some _,some x,true=>(match wO σ n (obs x)with
    |some l=>some (pre x,(res x).ren (mu n),[],l.map λq=>(q.1,some q.2))
    |none=>none)
   |_,_,_=>none)
  |_=>none)
def vr{fv:SV}{f:Nat}(h:qu fv=some f):fv.av= .p (.fn (.func f) [] []):=by unfold qu at h;split at h<;>cases h;rfl
def jQ(P:Program)(n:Nat)(o:Oper)(E:SE)(σ:Sg)(R:SR):Prop:=
 ∀ps r rd W,R=some (ps,r,rd,W)->(∀p∈ps,p)->(∃R' W',bB P o E.a σ.a n r.av R' W'/\bJ σ rd W R' W')/\r.ok
def Ul{X:Cx}(hX:X.Ok){n:Nat}{o:Oper}{E:SE}{σ:Sg}{c:Call}{f:Operand}(ho:o.op= .call c)(hc:c.callee= .value f):jQ X.P n o E σ (nJ (BM X n σ (E f) (c.args.toList.map E))):=by
 intro ps r rd W h hp;obtain⟨h,hr⟩:=yU h;refine⟨?_,hr⟩;unfold BM at h;split at h
 .cases h
 rename_i fid hf;split at h
 case h_2=>cases h
 rename_i Y dec pre res obs hT;split at h
 case h_2=>cases h
 rename_i A' x hA' hx hn;split at h<;>cases h;rename_i l hl;have hn:n<NM:=jA hn;obtain⟨A,h1,h2⟩:=hX.1 fid _ hT _ x hx hp;obtain⟨g1,g2,g3,g4⟩:=Dn hn hl;have avl:avs (c.args.toList.map E)=c.args.toList.map E.a:=by rw[fy,gS];rfl
 refine⟨[],lu l,?_,bJ.news (by grind) g2 (by grind)⟩;have hinner:∀{ob:SOb} {a:Nat} {o':Ob},ob.inner a=some o'->∃(ity:TypeId) (wd:Nat) (q:List PV),wd≠0/\o'=⟨ity,wd,q.map .p⟩:=by
  intro ob a o' hi;cases ob<;>first|(cases hi;done)|skip
  rotate_left
  .rename_i M;change (M[a]?).map (λq=>(⟨3,1,(LT.enc .I q.2).map .p⟩:Ob))=some o' at hi;cases hL:M[a]? with
   |none=>rw[hL]at hi;cases hi
   |some r=>rw[hL]at hi;cases hi;exact⟨3,1,_,by decide,rfl⟩
  rename_i ty ity t L ov;unfold SOb.inner at hi;dsimp only at hi;split at hi
  .cases hi
  .cases hL:L[a]? with
   |none=>grind
   |some r=>rw[hL]at hi;cases hi;exact⟨ity,t.w,_,j4 t.gn,rfl⟩
 have hcls:∀z∈l.map (·.1),ncl z=n:=by intro z hz;rw[g3]at hz;obtain⟨q,_,rfl⟩:=cC.1 hz;exact LQ hn _
 refine UT (A:=A) (m1:=muR n) ho hc (by exact vr hf) (by rw[<-avl,h1,cQ]) h2 ?_ ?_ ⟨?_,?_⟩ ?_ (Gc (u7 hn) _)
 .intro s x hs;obtain⟨y,a,rfl,_⟩:=zI hs;rw[cL,LQ hn]
 .intro s hs;rcases gT s with⟨z,rfl⟩|⟨z,b,rfl⟩|hno
  .rw[rU]at hs|-;refine⟨by rw[show cls (aD z)=ncl z from cL z 0];grind,?_⟩;cases hl2:l.lookup z with
   |none=>grind
   |some ob=>simp
  .rw[rb z b (by grind) g2]at hs|-;refine⟨by rw[cL];grind,?_⟩;cases(l.lookup z).bind (SOb.inner b)<;>simp
  .exact absurd (rm hno l) hs
 .intro s s' o1 e1 e2;obtain⟨y,a,rfl,k1⟩:=zI e1;obtain⟨y',a',rfl,k2⟩:=zI e2;rw[fx k1]at k2;obtain⟨rfl,rfl⟩:=cI (fx k2);rfl
 .intro s ob' hs;dsimp only at hs;rcases gT s with⟨z,rfl⟩|⟨z,b,rfl⟩|hno
  .rw[rU]at hs;cases hl2:l.lookup z with
   |none=>grind
   |some obr=>
    rw[hl2]at hs;cases hs;obtain⟨y,ob,rfl,rfl,k3,k4⟩:=g4 z obr hl2;rw[(u7 hn).n y];exact⟨ob.ob y,by rw[Sg.bZ,k4];rfl,Tc (u7 hn) y k3⟩
  .rw[rb z b (by grind) g2]at hs;cases hl2:l.lookup z with
   |none=>grind
   |some obr=>
    rw[hl2]at hs;obtain⟨y,ob,rfl,rfl,k3,k4⟩:=g4 z obr hl2;have hs:((SOb.inner b (ob.ren (mu n))).map some).join=some ob':=hs;rw[Tb k3]at hs;cases hi:ob.inner b with
    |none=>grind
    |some o'=>
     rw[hi]at hs;cases hs;rw[u7 hn y (b+1)];refine⟨ob',by rw[Sg.cq,k4];exact hi,?_⟩;obtain⟨ity,wd,q,_,rfl⟩:=hinner hi;exact⟨rfl,rfl,fg _ q⟩
  .rw[rm hno]at hs;cases hs
 .intro s ob' hs;rcases gT s with⟨z,rfl⟩|⟨z,b,rfl⟩|hno
  .rw[rU]at hs;cases hl2:l.lookup z with
   |none=>grind
   |some obr=>
    rw[hl2]at hs;cases hs;obtain⟨y,ob,rfl,rfl,k3,k4⟩:=g4 z obr hl2;cases ob with
    |box ty cs=>
     intro⟨_,e⟩;subst e;cases k3
    |arr ty ez cs=>
     intro⟨e,_⟩;subst e;cases k3
    |row ty t l=>intro⟨e,_⟩;exact absurd e (j4 t.gn)
    |fam ty ity t L ov=>intro⟨e,_⟩;cases e
    |mp ks=>intro⟨_,e⟩;cases e
    |mf M=>cases k3
    |it c M=>cases k3
  .rw[rb z b (by grind) g2]at hs;cases hb:(l.lookup z).bind (SOb.inner b)with
   |none=>grind
   |some o'=>
    rw[hb]at hs;obtain⟨ob,_,hi⟩:=jw.1 hb;grind
  .rw[rm hno]at hs;cases hs
def iX(f:SV->Option SV):List SV->Option (List SV)
 |[] =>some []
 |x::l=>(match f x,iX f l with|some y,some m=>some (y::m)|_,_=>none)
def ip:Nat->Sg->SV->Option SV
 |_,_,.nil=>some (.sl 0 [])
 |_,_,.own .. =>some .junk
 |_,_,.owns .. =>some .junk
 |_,_,.ownx .. =>some .junk
 |_,_,.owF .. =>some .junk
 |_,_,.ownf .. =>some .junk
 |_,_,.any=>some .junk
 |0,_,.ptr .. =>some .junk
 |d+1,σ,.ptr s off=>(match σ s with
  |some (.box _ cs)=>(match iX (ip d σ) cs with|some m=>some (.pro m off)|none=>none)
  |_=>none)
 |d+1,σ,.agg l=>(match iX (ip d σ) l with|some m=>some (.agg m)|none=>none)
 |d+1,σ,.fn f a b=>(match iX (ip d σ) a,iX (ip d σ) b with|some x,some y=>some (.fnp f x y)|_,_=>none)
 |_,_,x=>(match x.av with| .p _=>some x|_=>none)
def fW:Nat->Sg->SV->List Nat
 |0,_,_=>[]
 |d+1,σ,.ptr s _=>s::(match σ s with|some (.box _ cs)=>bE (fW d σ) cs|_=>[])
 |d+1,σ,.agg l=>bE (fW d σ) l
 |d+1,σ,.fn _ a b=>bE (fW d σ) a++bE (fW d σ) b
 |_,_,_=>[]
def zm(d:Nat)(σ:Nat->Option Ob)(x:PV):fQ d σ (.p x)=some x:=by cases d<;>rfl
def IV(d:Nat)(σ:Nat->Option Ob):∀l:List PV,cJ (fQ d σ) (l.map .p)=some l
 |[] =>rfl
 |x::l=>by simp only[cO,cJ,zm,IV d σ l]
def zq(d:Nat)(σ:Nat->Option Ob)(x:PV):eO d σ (.p x)=[] :=by cases d<;>rfl
def HH(d:Nat)(σ:Nat->Option Ob):∀l:List PV,bE (eO d σ) (l.map .p)=[]
 |[] =>rfl
 |x::l=>by simp only[cO,bE,zq,HH d σ l,jW]
def Rt{d:Nat}{σ:Sg}{x:SV}{y:SV}(h:(match x.av with| .p _=>some x|_=>none)=some y):(∃q,fQ d σ.a x.av=some q/\y.av= .p q)/\eO d σ.a x.av=[] :=by split at h<;>cases h;rename_i q e;rw[e];exact⟨⟨q,zm _ _ _,rfl⟩,zq _ _ _⟩
def Ds{d:Nat}{σ:Sg}{x:SV}{y:SV}(h:(match x.av with| .p _=>some x|_=>none)=some y)(hr:fW d σ x=[]):(∃q,fQ d σ.a x.av=some q/\y.av= .p q)/\eO d σ.a x.av=(fW d σ x).map aD:=by rw[hr];exact Rt h
def JOk(d:Nat)(σ:Sg):Prop:=∀x y,ip d σ x=some y->(∃q,fQ d σ.a x.av=some q/\y.av= .p q)/\eO d σ.a x.av=(fW d σ x).map aD
def lT{d:Nat}{σ:Sg}(hf:JOk d σ):∀{l m:List SV},iX (ip d σ) l=some m->(∃q,cJ (fQ d σ.a) (avs l)=some q/\avs m=q.map .p)/\bE (eO d σ.a) (avs l)=(bE (fW d σ) l).map aD
 |[],m,h=>by cases h;exact⟨⟨[],rfl,rfl⟩,rfl⟩
 |x::l,m,h=>by
  unfold iX at h;split at h<;>cases h;rename_i y m' h1 h2;obtain⟨⟨u,e1,e2⟩,e3⟩:=hf x y h1;obtain⟨⟨v,e4,e5⟩,e6⟩:=lT hf h2;refine⟨⟨u::v,?_,by rw[avs,e2,e5];rfl⟩,?_⟩
  .rw[avs,cJ,e1,e4]
  .rw[avs,bE,bE,e3,e6,dQ]
def uy{σ:Sg}:∀d:Nat,JOk d σ:=by
 intro d;induction d with
 |zero=>
  intro x y h;cases x<;>first
   |(change some (SV.sl 0 [])=some y at h;cases h;exact⟨⟨.sl 0 [],rfl,rfl⟩,rfl⟩)
   |(change some SV.junk=some y at h;cases h;exact⟨⟨.junk,rfl,rfl⟩,rfl⟩)
   |exact Ds h rfl
 |succ d ih=>
  intro x y h;cases x with
  |nil=>cases h;exact⟨⟨.sl 0 [],rfl,rfl⟩,rfl⟩
  |own s t n=>cases h;exact⟨⟨.junk,rfl,rfl⟩,rfl⟩
  |owns s t o n=>cases h;exact⟨⟨.junk,rfl,rfl⟩,rfl⟩
  |ownx s n=>cases h;exact⟨⟨.junk,rfl,rfl⟩,rfl⟩
  |owF s n=>cases h;exact⟨⟨.junk,rfl,rfl⟩,rfl⟩
  |ownf s t a n=>cases h;exact⟨⟨.junk,rfl,rfl⟩,rfl⟩
  |any=>cases h;exact⟨⟨.junk,rfl,rfl⟩,rfl⟩
  |ptr s off=>
   change (match σ s with|some (.box _ cs)=>(match iX (ip d σ) cs with|some m=>some (SV.pro m off)|none=>none)|_=>none)=_ at h;split at h
   case h_2=>cases h
   rename_i ty cs hs;split at h<;>cases h;rename_i m hm;obtain⟨⟨q,e1,e2⟩,e3⟩:=lT ih hm;have e0:Sg.a σ (aD s)=some ⟨ty,0,avs cs⟩:=by rw[Sg.bZ,hs];rfl
   refine⟨⟨.pro q off,?_,by show(match bK (avs m)with|some q=>AV.p (.pro q off)|none=> .any)=_;rw[e2,cQ]⟩,?_⟩
   .show fQ (d+1) (Sg.a σ) (.ptr (aD s) off)=_;unfold fQ;grind
   .show eO (d+1) (Sg.a σ) (.ptr (aD s) off)=_;unfold eO fW;grind
  |agg l=>
   change (match iX (ip d σ) l with|some m=>some (SV.agg m)|none=>none)=_ at h;split at h<;>cases h;rename_i m hm;obtain⟨⟨q,e1,e2⟩,e3⟩:=lT ih hm;refine⟨⟨.agg q,?_,by show dn (avs m)=_;rw[e2,nv]⟩,?_⟩
   .show fQ (d+1) (Sg.a σ) (dn (avs l))=_;unfold dn;cases hq:bK (avs l)with
    |some q'=>
     rw[fD hq,IV]at e1;cases e1;exact zm _ _ _
    |none=>unfold fQ;rw[e1];rfl
   .show eO (d+1) (Sg.a σ) (dn (avs l))=(bE (fW d σ) l).map aD;rw[<-e3];unfold dn;cases hq:bK (avs l)with
    |some q'=>rw[fD hq,HH];exact zq _ _ _
    |none=>rfl
  |fn f a b=>
   change (match iX (ip d σ) a,iX (ip d σ) b with|some x,some y=>some (SV.fnp f x y)|_,_=>none)=_ at h;split at h<;>cases h;rename_i x y h1 h2;obtain⟨⟨u,e1,e2⟩,e3⟩:=lT ih h1;obtain⟨⟨v,e4,e5⟩,e6⟩:=lT ih h2;refine⟨⟨.fn (.func f) u v,?_,by show(match bK (avs x),bK (avs y)with|some x,some y=>AV.p (.fn (.func f) x y)|_,_=> .any)=_;rw[e2,e5,cQ,cQ]⟩,?_⟩
   .show fQ (d+1) (Sg.a σ) (.fn (.func f) (avs a) (avs b))=_;unfold fQ;grind
   .show bE (eO d σ.a) (avs a)++bE (eO d σ.a) (avs b)=(bE (fW d σ) a++bE (fW d σ) b).map aD;grind
  |_=>exact Ds h rfl
def Da(l:List Nat):inC (l.map aD) (l.map ncl):=by intro s hs;obtain⟨x,hx,rfl⟩:=cC.1 hs;rw[show cls (aD x)=ncl x from cL x 0];grind
def nM:LT->Bool
 | .R| .Q| .U| .E| .F=>false
 |_=>true
def yp{t:LT}(h:nM t=true)(l:List t.ty):(t.enc l).all flat1=true:=by
 refine dY.2 λx hx=> ?_;obtain⟨e,_,hx⟩:=List.mem_flatMap.1 hx;cases t<;>first|(cases h;done)|skip
 all_goals (simp[LT.rowP]at hx;rcases hx with rfl|rfl|rfl|rfl<;>rfl)
def bJ.rset{σ:Sg}{z a:Nat}{ty ity:TypeId}{lt:LT}{L:List (List lt.ty)}{ov:List (Nat×SV)}{l':List lt.ty}{rd R:List Nat}(hs:σ z=some (.fam ty ity lt L ov))(ho:ov.lookup a=none)(ha:a<L.length)(hl:l'.length=(L.getD a []).length)(hR:inC R (rd.map ncl)):
  bJ σ rd [(z,some (.fam ty ity lt (L.set a l') ov))] R [(inn z (a+1),some ⟨ity,lt.w,(lt.enc l').map .p⟩)] :=by
 refine⟨hR,λs hm=> ?_,?_⟩
 .have hm:s=inn z (a+1):=by simpa using hm
  subst hm;rw[cL];grind
 .funext s
  unfold aY;rcases gT s with⟨y,rfl⟩|⟨y,b,rfl⟩|hno
  .rw[Sg.bZ,Sg.bZ,dD,beq_eq_false_iff_ne.2 (show aD y≠inn z (a+1)from λh=>by have:=(cI h).2;omega)];unfold aM.up;rw[dD];by_cases e:y=z
   .subst e;rw[beq_iff_eq.2 rfl,hs];show some (⟨ty,1,_⟩:Ob)=some ⟨ty,1,_⟩
    congr 2
    rw[fB];unfold cj;grind
   grind
  .rw[Sg.cq,Sg.cq,dD];unfold aM.up;rw[dD];by_cases e:y=z
   .subst e;rw[beq_iff_eq.2 rfl,hs];by_cases hb:b=a
    .subst hb;rw[beq_iff_eq.2 rfl];unfold SOb.inner;grind
    .rw[beq_eq_false_iff_ne.2 (show inn y (b+1)≠inn y (a+1)from λh=>hb (by have:=(cI h).2;omega))];unfold SOb.inner;grind
   .rw[beq_eq_false_iff_ne.2 e,beq_eq_false_iff_ne.2 (show inn y (b+1)≠inn z (a+1)from λh=>e (cI h).1)];rfl
  .rw[Sg.fp _ hno,Sg.fp _ hno,dD,beq_eq_false_iff_ne.2 (hno z (a+1))];rfl
def BO(X:Cx)(n:Nat)(σ:Sg)(fv:SV)(xs:List SV):SR:=match qu fv with
 |none=>none
 |some f=>(match X.T f with
  |some ⟨_,dec,pre,.rowB t ty l'⟩=>(match xs with
   | .own s _ m::rest=>(match σ s,iX (ip 3 σ) rest,frs σ n,qn (bE (fW 3 σ) rest) s with
     |some (.row ty' t' l),some bs,true,false=>(match decEq t' t,af ty' ty with
      | .isTrue h,true=>(match dec (.lst t (h▸l)::bs)with
        |some x=>some ((m=l.length)::(0<m)::pre x,.own n t (l' x).length,s::bE (fW 3 σ) rest,[(s,none),(n,some (.row ty t (l' x)))])
        |none=>none)
      |_,_=>none)
     |_,_,_,_=>none)
   | .ownf z _ a m::rest=>(match σ z,iX (ip 3 σ) rest,frs σ n with
     |some (.fam tyo ity t' L ov),some bs,true=>(match decEq t' t,af ity ty with
      | .isTrue h,true=>(match dec (.lst t ((h▸L:List (List t.ty)).getD a [])::bs)with
        |some x=>some ((a<L.length)::(m=(L.getD a []).length)::(0<m)::(iv ov a++pre x),.own n t (l' x).length,z::bE (fW 3 σ) rest,[(z,some (.fam tyo ity t' L ((a,.ownf z t' a m)::ov))),(n,some (.row ty t (l' x)))])
        |none=>none)
      |_,_=>none)
     |_,_,_=>none)
   |_=>none)
  |_=>none)
def WM(x:SV)(l:List SV):avs (x::l)=x.av::avs l:=rfl
def Up{X:Cx}(hX:X.Ok){n:Nat}{o:Oper}{E:SE}{σ:Sg}{c:Call}{f:Operand}(ho:o.op= .call c)(hc:c.callee= .value f):jQ X.P n o E σ (BO X n σ (E f) (c.args.toList.map E)):=by
 intro ps r rd W h hp;unfold BO at h;split at h
 .cases h
 rename_i fid hf;split at h
 case h_2=>cases h
 rename_i Y dec pre t ty l' hT;have hfv:E.a f= .p (.fn (.func fid) [] []):=vr hf;have avl:c.args.toList.map E.a=avs (c.args.toList.map E):=by rw[fy,gS];rfl
 have hC:=hX.1 fid _ hT;split at h
 .rename_i s lt m rest hxs;split at h
  case h_2=>cases h
  rename_i ty' t' l bs hs hbs hfr hmem;split at h
  case h_2=>cases h
  rename_i ht hty hb;subst ht;split at h<;>cases h;rename_i x hx;have hb:=bm hb;subst hb;have e1:m=l.length:=hp _ (by grind);have e2:0<m:=hp _ (by grind);obtain⟨A,h1,h2⟩:=hC l bs x hx (by grind);obtain⟨⟨q,k1,k2⟩,k3⟩:=lT (uy 3) hbs;have hqA:q=A:=by have:=congrArg bK (k2.symm.trans h1);rw[cQ,cQ]at this;cases this;rfl
  subst hqA;obtain⟨hn1,hn2⟩:=gU hfr;subst e1;refine⟨⟨(s::bE (fW 3 σ) rest).map aD,aM.sto [(s,none),(n,some (.row ty' t' (l' x)))],?_,?_⟩,trivial⟩
  rotate_left
  .exact bJ.flat (rd:=s::bE (fW 3 σ) rest) (W:=[(s,none),(n,some (.row ty' t' (l' x)))]) λq hq=>by
    rcases bh.1 hq with rfl|hq
    .rw[hs];exact⟨rfl,rfl⟩
    .rw[bO.1 hq,hn2];exact⟨rfl,rfl⟩
  have:=El (σ:=σ.a) (n:=n) (k:=l.length) (s:=aD s) (rest:=avs rest) (A:=q) ho hc hfv (by rw[avl,hxs];rfl) (by rw[Sg.bZ,hs];rfl) (j4 t'.gn) e2 k1 (by rw[k3];intro hm;obtain⟨y,hy,e⟩:=cC.1 hm;exact vU hmem (by rw[<-eD e];exact hy)) h2
  rw[k3]at this;show bB _ _ _ _ _ _ (aD s::_) [(aD s,none),(aD n,some _)];show bB _ _ _ _ _ (.own (aD n) 0 _) _ _;rw[hn1];exact this
 .rename_i z lt a m rest hxs;split at h
  case h_2=>cases h
  rename_i tyo ity t' L ov bs hs hbs hfr;split at h
  case h_2=>cases h
  rename_i ht hty hb;subst ht;split at h<;>cases h;rename_i x hx;have hb:=bm hb;subst hb;have e0:a<L.length:=hp _ (by grind);have e1:m=(L.getD a []).length:=hp _ (by grind);have e2:0<m:=hp _ (by grind);have hov:ov.lookup a=none:=n7 λp hq=>hp p (by grind);obtain⟨A,h1,h2⟩:=hC _ bs x hx (λp hq=>hp p (by grind));obtain⟨⟨q,k1,k2⟩,k3⟩:=lT (uy 3) hbs;have hqA:q=A:=by have:=congrArg bK (k2.symm.trans h1);rw[cQ,cQ]at this;cases this;rfl
  subst hqA;obtain⟨hn1,hn2⟩:=gU hfr;have hob:Sg.a σ (inn z (a+1))=some ⟨ity,t'.w,(t'.enc (L.getD a [])).map .p⟩:=by rw[Sg.cq,hs];show SOb.inner a (.fam tyo ity t' L ov)=_;unfold SOb.inner;dsimp only;rw[hov,b9,c8 e0];rfl
  refine⟨⟨inn z (a+1)::bE (eO 3 σ.a) (avs rest),_,?_,bJ.take (n:=n) (ob:= .row ity t' (l' x)) hs hov e1 hn2 rfl ?_⟩,trivial⟩
  .have:=El (σ:=σ.a) (n:=n) (k:=m) (s:=inn z (a+1)) (rest:=avs rest) (A:=q) ho hc hfv (by rw[avl,hxs];rfl) hob (j4 t'.gn) e2 k1 (by rw[k3];intro hm;obtain⟨y,hy,e⟩:=cC.1 hm;have:=(cI e).2;omega) (by rw[e1];exact h2)
   show bB _ _ _ _ _ (.own (aD n) 0 _) _ [(inn z (a+1),none),(aD n,some _)];rw[hn1];exact this
  .intro t ht;rcases bh.1 ht with rfl|ht
   .rw[cL];grind
   .rw[k3]at ht;exact dR _ (Da _ t ht)
 .cases h
def BN(X:Cx)(σ:Sg)(fv:SV)(xs:List SV):SR:=match qu fv with
 |none=>none
 |some f=>(match X.T f with
  |some ⟨_,dec,pre,.mutR t ty l'⟩=>(match(match nM t with|true=>xs|false=>[])with
   | .own s _ m::rest=>(match σ s,iX (ip 3 σ) rest,qn (bE (fW 3 σ) rest) s with
     |some (.row ty' t' l),some bs,false=>(match decEq t' t,af ty' ty with
      | .isTrue h,true=>(match dec (.lst t (h▸l)::bs)with
        |some x=>some ((m=l.length)::pre x,.undef,s::bE (fW 3 σ) rest,[(s,some (.row ty t (l' x)))])
        |none=>none)
      |_,_=>none)
     |_,_,_=>none)
   | .ownf z _ a m::rest=>(match σ z,iX (ip 3 σ) rest with
     |some (.fam tyo ity t' L ov),some bs=>(match decEq t' t,af ity ty with
      | .isTrue h,true=>(match dec (.lst t ((h▸L:List (List t.ty)).getD a [])::bs)with
        |some x=>some ((a<L.length)::(m=(L.getD a []).length)::(iv ov a++pre x),.undef,z::bE (fW 3 σ) rest,[(z,some (.fam tyo ity t ((h▸L:List (List t.ty)).set a (l' x)) ov))])
        |none=>none)
      |_,_=>none)
     |_,_=>none)
   |_=>none)
  |_=>none)
def Uo{X:Cx}(hX:X.Ok){n:Nat}{o:Oper}{E:SE}{σ:Sg}{c:Call}{f:Operand}(ho:o.op= .call c)(hc:c.callee= .value f):jQ X.P n o E σ (BN X σ (E f) (c.args.toList.map E)):=by
 intro ps r rd W h hp;unfold BN at h;split at h
 .cases h
 rename_i fid hf;split at h
 case h_2=>cases h
 rename_i Y dec pre t ty l' hT;have hfv:E.a f= .p (.fn (.func fid) [] []):=vr hf;have avl:c.args.toList.map E.a=avs (c.args.toList.map E):=by rw[fy,gS];rfl
 have hC:=hX.1 fid _ hT;have hfl:nM t=true/\(match nM t with|true=>c.args.toList.map E|false=>[])=c.args.toList.map E\/(match nM t with|true=>c.args.toList.map E|false=>[])=[] :=by
  cases nM t
  .grind
  .grind
 generalize (match nM t with|true=>c.args.toList.map E|false=>[])=ys at h hfl;rcases hfl with⟨hfl,rfl⟩|rfl
 rotate_left
 .cases h
 split at h
 .rename_i s lt m rest hxs;split at h
  case h_2=>cases h
  rename_i ty' t' l bs hs hbs hmem;split at h
  case h_2=>cases h
  rename_i ht hty hb;subst ht;split at h<;>cases h;rename_i x hx;have hb:=bm hb;subst hb;have e1:m=l.length:=hp _ (by grind);obtain⟨A,h1,h2⟩:=hC l bs x hx (by grind);obtain⟨⟨q,k1,k2⟩,k3⟩:=lT (uy 3) hbs;have hqA:q=A:=by have:=congrArg bK (k2.symm.trans h1);rw[cQ,cQ]at this;cases this;rfl
  subst hqA;subst e1;refine⟨⟨(s::bE (fW 3 σ) rest).map aD,aM.sto [(s,some (.row ty' t' (l' x)))],?_,?_⟩,trivial⟩
  rotate_left
  .exact bJ.flat (rd:=s::bE (fW 3 σ) rest) (W:=[(s,some (.row ty' t' (l' x)))]) λq hq=>by rw[bO.1 hq,hs];exact⟨rfl,rfl⟩
  have:=Ej (σ:=σ.a) (n:=n) (k:=l.length) (s:=aD s) (rest:=avs rest) (A:=q) ho hc hfv (by rw[avl,hxs];rfl) (by rw[Sg.bZ,hs];rfl) (j4 t'.gn) k1 (by rw[k3];intro hm;obtain⟨y,hy,e⟩:=cC.1 hm;exact vU hmem (by rw[<-eD e];exact hy)) (yp hfl _) h2
  rw[k3]at this;exact this
 .rename_i z lt a m rest hxs;split at h
  case h_2=>cases h
  rename_i tyo ity t' L ov bs hs hbs;split at h
  case h_2=>cases h
  rename_i ht hty hb;subst ht;split at h<;>cases h;rename_i x hx;have hb:=bm hb;have e0:a<L.length:=hp _ (by grind);have e1:m=(L.getD a []).length:=hp _ (by grind);have hov:ov.lookup a=none:=n7 λp hq=>hp p (by grind);obtain⟨A,h1,h2⟩:=hC _ bs x hx (λp hq=>hp p (by grind));obtain⟨⟨q,k1,k2⟩,k3⟩:=lT (uy 3) hbs;have hqA:q=A:=by have:=congrArg bK (k2.symm.trans h1);rw[cQ,cQ]at this;cases this;rfl
  have hob:Sg.a σ (inn z (a+1))=some ⟨ity,t'.w,(t'.enc (L.getD a [])).map .p⟩:=by rw[Sg.cq,hs];show SOb.inner a (.fam tyo ity t' L ov)=_;unfold SOb.inner;dsimp only;rw[hov,b9,c8 e0];rfl
  have hlen:(l' x).length=(L.getD a []).length:=by have:=h2.2.1;rw[t'.wide.length,t'.wide.length]at this;exact Nat.eq_of_mul_eq_mul_right t'.gn this
  refine⟨⟨inn z (a+1)::bE (eO 3 σ.a) (avs rest),_,?_,bJ.rset (l':=l' x) hs hov e0 hlen ?_⟩,trivial⟩
  .exact Ej (σ:=σ.a) (n:=n) (k:=m) (s:=inn z (a+1)) (rest:=avs rest) (A:=q) ho hc hfv (by rw[avl,hxs];rfl) hob (j4 t'.gn) k1 (by rw[k3];intro hm;obtain⟨y,hy,e⟩:=cC.1 hm;have:=(cI e).2;omega) (yp hfl _) (by grind)
  .intro t ht;rcases bh.1 ht with rfl|ht
   .rw[cL];grind
   .rw[k3]at ht;exact dR _ (Da _ t ht)
 .cases h
def wT:SV->Option (Nat×Nat)
 | .agg l=>LT.P.dec l
 |_=>none
def c7(k:Nat×Nat):List Int:=[(k.1:Int),(k.2:Int)]
def FL{x:SV}{k:Nat×Nat}(h:wT x=some k):x.av= .p (.agg (eL (c7 k))):=by
 unfold wT at h;split at h
 .have:=LT.tK h;show dn (avs _)=_;rw[this,nv];rfl
 .cases h
def qo(ks:List (Nat×Nat))(k:Nat×Nat):List (Nat×Nat):=if k∈ks then ks else ks++[k]
def oJ{k l:Nat×Nat}(h:c7 k=c7 l):k=l:=by unfold c7 at h;grind
def EK(k:Nat×Nat):∀ks:List (Nat×Nat),jH (fH ks) (c7 k) (.p (.bool false))= .p (.bool (decide (k∈ks)))
 |[] =>rfl
 |l::ks=>by
  show(if c7 l=c7 k then AV.p (.bool true)else jH (fH ks) (c7 k) (.p (.bool false)))=_;by_cases e:l=k
  .grind
  .rw[if_neg (λh=>e (oJ h)),EK k ks];grind
def E5(k:Nat×Nat):∀ks:List (Nat×Nat),fk (fH ks) (c7 k) (.p (.bool true))=fH (qo ks k)
 |[] =>rfl
 |l::ks=>by
  show(if c7 l=c7 k then(c7 k,AV.p (.bool true))::fH ks else(c7 l,AV.p (.bool true))::fk (fH ks) (c7 k) (.p (.bool true)))=_;by_cases e:l=k
  .subst e;rw[if_pos rfl];unfold qo;rw[if_pos (by grind)];rfl
  .rw[if_neg (λh=>e (oJ h)),E5 k ks];have:k≠l:=λh=>e h.symm;unfold qo;by_cases h2:k∈ks
   .rw[if_pos h2,if_pos (by grind)];rfl
   .rw[if_neg h2,if_neg (by grind)];rfl
def EL{ks:List (Nat×Nat)}(h:ks.Nodup):mB (fH ks):=by unfold mB fH;grind
def E6{ks:List (Nat×Nat)}:∀q∈fH ks,q.1.length=2:=by intro q hq;obtain⟨k,_,rfl⟩:=cC.1 hq;rfl
def smk(X:Cx)(n:Nat)(σ:Sg)(t:TypeId):SR:=match X.mt t,frs σ n with
 |true,true=>some ([],.mp n,[],[(n,some (.mp []))])
 |_,_=>none
def X0{X:Cx}{n:Nat}{o:Oper}{E:SE}{σ:Sg}{t:TypeId}(ho:o.op= .makeMap t none):jQ X.P n o E σ (smk X n σ t):=by intro ps r rd W h hp;unfold smk at h;split at h<;>cases h;rename_i h1 h2;obtain⟨hn1,hn2⟩:=gU h2;refine⟨⟨[],aM.sto [(n,some (.mp []))],?_,bJ.flat (rd:=[]) (W:=[(n,some (.mp []))]) λq hq=>by rw[bO.1 hq,hn2];exact⟨rfl,rfl⟩⟩,trivial⟩;have:=Db (P:=X.P) (E:=E.a) (σ:=σ.a) (n:=n) ho;show bB _ _ _ _ _ (.mp (aD n)) _ [(aD n,some ⟨1,0,[]⟩)];grind
def BT(X:Cx)(σ:Sg)(t:TypeId)(x i:SV):SR:=match X.mt t,x,wT i with
 |true,.mp s,some k=>(match σ s with
  |some (.mp ks)=>some ([ks.Nodup],.prop (k∈ks) inferInstance,[s],[])
  |_=>none)
 |_,_,_=>none
def U0{X:Cx}(hX:X.Ok){n:Nat}{o:Oper}{E:SE}{σ:Sg}{t:TypeId}{x i:Operand}(ho:o.op= .lookup t x i false):jQ X.P n o E σ (BT X σ t (E x) (E i)):=by
 intro ps r rd W h hp;unfold BT at h;split at h
 case h_2=>cases h
 rename_i s k hmt hx hi;split at h<;>cases h;rename_i ks hs;obtain⟨kt,et,g1,g2,g3⟩:=hX.2.2 t hmt;have hnd:ks.Nodup:=hp _ (by grind);refine⟨⟨[s].map aD,[],?_,bJ.read σ [s]⟩,trivial⟩;have:=Dx (E:=E.a) (σ:=σ.a) (n:=n) (m:=2) (s:=aD s) (ks:=fH ks) (xs:=c7 k) (z:= .p (.bool false)) (zv:= .bool false) ho g1 g2 g3 (λρ C=>by rfl) (by show(E x).av=_;rw[hx];rfl) (by exact FL hi) rfl (by rw[Sg.bZ,hs];rfl) E6 (EL hnd);rw[EK]at this;exact this
def Bx(X:Cx)(σ:Sg)(t:TypeId)(x i y:SV):SR:=match X.mt t,x,wT i,y with
 |true,.mp s,some k,.lit true=>(match σ s with
  |some (.mp ks)=>some ([ks.Nodup],.undef,[s],[(s,some (.mp (qo ks k)))])
  |_=>none)
 |_,_,_,_=>none
def WW{X:Cx}(hX:X.Ok){n:Nat}{o:Oper}{E:SE}{σ:Sg}{t:TypeId}{x i y:Operand}(ho:o.op= .mapUpdate t x i y):jQ X.P n o E σ (Bx X σ t (E x) (E i) (E y)):=by
 intro ps r rd W h hp;unfold Bx at h;split at h
 case h_2=>cases h
 rename_i s k hmt hx hi hy;split at h<;>cases h;rename_i ks hs;obtain⟨kt,et,g1,g2,g3⟩:=hX.2.2 t hmt;have hnd:ks.Nodup:=hp _ (by grind);refine⟨⟨[s].map aD,aM.sto [(s,some (.mp (qo ks k)))],?_,bJ.flat (rd:=[s]) (W:=[(s,some (.mp (qo ks k)))]) λq hq=>by rw[bO.1 hq,hs];exact⟨rfl,rfl⟩⟩,trivial⟩;have:=DG (E:=E.a) (σ:=σ.a) (n:=n) (m:=2) (s:=aD s) (ks:=fH ks) (xs:=c7 k) ho g1 g2 (by show(E x).av=_;rw[hx];rfl) (by exact FL hi) rfl (by rw[Sg.bZ,hs];rfl) E6 (EL hnd);rw[show E.a y= .p (.bool true)from by show(E y).av=_;rw[hy];rfl,E5]at this;exact this
def orS(a b:SR):SR:=match a with
 |some x=>some x
 |none=>b
def wD{P:Program}{n:Nat}{o:Oper}{E:SE}{σ:Sg}{a b:SR}(ha:jQ P n o E σ a)(hb:jQ P n o E σ b):jQ P n o E σ (orS a b):=by
 intro ps r rd W h hp;cases a with
 |some x=>exact ha ps r rd W h hp
 |none=>exact hb ps r rd W h hp
def BQ(X:Cx)(n:Nat)(σ:Sg)(fv:SV)(xs:List SV):SR:=match qu fv with
 |none=>none
 |some f=>(match X.T f with
  |some ⟨_,dec,pre,.own ty t l ys⟩=>(match gD (eT 3 σ) xs with
   |some (qs,bs)=>(match dec bs,frs σ n,nM t with
    |some x,true,true=>(match ys x with
     |[] =>some (qs++pre x,.own n t (l x).length,bE (cg 3 σ) xs,[(n,some (.row ty t (l x)))])
     |_=>none)
    |_,_,_=>none)
   |none=>none)
  |_=>none)
def Ur{X:Cx}(hX:X.Ok){n:Nat}{o:Oper}{E:SE}{σ:Sg}{c:Call}{f:Operand}(ho:o.op= .call c)(hc:c.callee= .value f):jQ X.P n o E σ (BQ X n σ (E f) (c.args.toList.map E)):=by
 intro ps r rd W h hp;unfold BQ at h;split at h
 .cases h
 rename_i fid hf;split at h
 case h_2=>cases h
 rename_i Y dec pre ty t l ys hT;split at h
 case h_2=>cases h
 rename_i qs bs hbs;split at h
 case h_2=>cases h
 rename_i x hx hfr hfl;split at h<;>cases h;rename_i hys;have avl:c.args.toList.map E.a=avs (c.args.toList.map E):=by rw[fy,gS];rfl
 obtain⟨A,Y2,h1,h2,h3⟩:=hX.1 fid _ hT bs x hx (λp hq=>hp p (by grind));obtain⟨q,k1,k2⟩:=p7 (λx ps y=>rn) hbs (λp hq=>hp p (by grind));have hqA:q=A:=by have:=congrArg bK (k2.symm.trans h1);rw[cQ,cQ]at this;cases this;rfl
 subst hqA;have hY:Y2=[] :=by
  rw[hys]at h2;cases Y2 with
  |nil=>rfl
  |cons y Y2=>cases h2
 subst hY;obtain⟨hn1,hn2⟩:=gU hfr;have:=UW (σ:=σ.a) (n:=n) ho hc (vr hf) (by rw[avl];exact k1) (yp hfl _) h3;rw[avl]at this;refine⟨⟨_,aM.sto [(n,some (.row ty t (l x)))],?_,⟨mX (zp 3) _,(bJ.flat (rd:=[]) (W:=[(n,some (.row ty t (l x)))]) λq hq=>by rw[bO.1 hq,hn2];exact⟨rfl,rfl⟩).2⟩⟩,trivial⟩;show bB _ _ _ _ _ (.own (aD n) 0 _) _ [(aD n,some _)];rw[hn1];exact this
def BD(P:Program)(e:TypeId):Bool:=match kk P e,P.info? e with
 |true,some i=>(match i.zero with
  |some zv=>(match zv.cells.toList with|[.int .i64 (.ofNat 0),.int .i64 (.ofNat 0),.int .i64 (.ofNat 0)] =>true|_=>false)
  |none=>false)
 |_,_=>false
def Ue{P:Program}{e:TypeId}(h:BD P e=true):∃zv,(∀w:World,(zeroValue e).run P w= .ok zv w)/\zv.cells.toList=[.int .i64 0,.int .i64 0,.int .i64 0] :=by
 unfold BD at h;split at h
 .rename_i i _ hi;split at h
  .rename_i zv hz;split at h
   .rename_i hc;exact⟨zv,λw=>by simp[zeroValue,typeInfo,hi,hz],hc⟩
   .cases h
  .cases h
 .cases h
def Ai(P:Program)(σ:Sg)(t:TypeId)(x:SV):SR:=match bp P t,x with
 |some e,.owns s .T o n=>(match σ s,BD P e with
  |some (.row ty .T l),true=>some ([o+n<=l.length],.undef,[s],[(s,some (.row ty .T (l.take o++bT n ⟨0,0,0⟩++l.drop (o+n))))])
  |_,_=>none)
 |_,_=>none
def U3{a b c d:List AV}(h:d.length=b.length):cn (a++b++c) a.length d=a++d++c:=by
 have h0:∀(l cs:List AV),l.length=cs.length->∀pre:List AV,cn (pre++cs) pre.length l=pre++l:=by
  intro l;induction l with
  |nil=>intro cs hl pre;rw[show cs=[]from iZ.1 hl.symm];rfl
  |cons x l ih=>
   intro cs hl pre;cases cs with
   |nil=>simp at hl
   |cons y cs=>
    unfold cn;have e:(pre++y::cs).set pre.length x=(pre++[x])++cs:=by rw[Co _ _ (bD _),Nat.sub_self,List.set_cons_zero,jz];rfl
    rw[e];have:=ih cs (by simpa using hl) (pre++[x]);rw[dj,List.length_singleton]at this;rw[this,jz];rfl
 have:=DU (a:=a) (b:=b) (c:=c) (l:=d) (k:=a.length) (off:=0) rfl (by omega);rw[rF]at this;rw[this];have h1:=h0 d b h [];rw[pK,pK]at h1;rw[show cn b 0 d=d from h1]
def TR{P:Program}{n:Nat}{o:Oper}{E:SE}{σ:Sg}{c:Call}{x:Operand}{t:TypeId}(ho:o.op= .call c)(hc:c.callee= .builtin .clear)(hargs:c.args= #[x])(hat:c.argTypes= #[t]):jQ P n o E σ (Ai P σ t (E x)):=by
 intro ps r rd W h hp;unfold Ai at h;split at h
 case h_2=>cases h
 rename_i e s a m hte hx;split at h<;>cases h;rename_i ty l hs hz;obtain⟨zv,hz1,hz2⟩:=Ue hz;have hle:a+m<=l.length:=hp _ (by simp);have hob:Sg.a σ (aD s)=some ⟨ty,3,(LT.T.enc l).map .p⟩:=by rw[Sg.bZ,hs];rfl
 have hw:∀q:List Pt,(LT.T.enc q).length=q.length*3:=λq=>LT.T.wide.length q;have hu:P.underlying t=some (.slice e):=by
  unfold bp at hte;split at hte
  .rename_i h;cases hte;exact h
  .cases hte
 have:=UN (P:=P) (E:=E.a) (σ:=σ.a) (n:=n) (m:=m) (off:=a*3) (zs:=[.int .i64 0,.int .i64 0,.int .i64 0]) ho hc hargs hat hu hz1 (by rw[hz2];rfl) (by rw[hz2];intro u hu;simp at hu;subst hu;rfl) (by show(E x).av=_;rw[hx];rfl) hob (show(3:Nat)≠0 by decide) rfl (by rw[dt,hw];show a*3+m*3<=_;omega)
 have e1:cn ((LT.T.enc l).map AV.p) (a*3) ((jl m [.int .i64 0,.int .i64 0,.int .i64 0]).map .p)=(LT.T.enc (l.take a++bT m ⟨0,0,0⟩++l.drop (a+m))).map .p:=by
  have e2:LT.T.enc l=LT.T.enc (l.take a)++LT.T.enc ((l.drop a).take m)++LT.T.enc (l.drop (a+m)):=by
   unfold LT.enc;rw[<-uU,<-uU]
   congr 1
   rw[jz,<-List.drop_drop,lK,lK]
  have e3:jl m [.int .i64 0,.int .i64 0,.int .i64 0] =LT.T.enc (bT m (⟨0,0,0⟩:Pt)):=by unfold jl LT.enc;rw[List.flatMap_replicate];rfl
  rw[e3]
  conv=>lhs;rw[e2]
  have e4:a*3=((LT.T.enc (l.take a)).map AV.p).length:=by rw[dt,hw,fS,rH (by omega)]
  rw[dQ,dQ,e4,U3 (by rw[dt,dt,hw,hw,mH,fS,Cp];omega)];unfold LT.enc;rw[uU,uU,dQ,dQ]
 refine⟨⟨[aD s],_,this,?_⟩,trivial⟩;rw[e1];exact bJ.flat (σ:=σ) (rd:=[s]) (W:=[(s,some (.row ty .T (l.take a++bT m ⟨0,0,0⟩++l.drop (a+m))))]) λq hq=>by rw[bO.1 hq,hs];exact⟨rfl,rfl⟩
def Bz(X:Cx)(n:Nat)(o:Op)(E:SE)(σ:Sg):SR:=match o with
 | .call {callee:= .value f,args, .. }=>orS (nJ (BM X n σ (E f) (args.toList.map E))) (orS (BO X n σ (E f) (args.toList.map E)) (orS (BN X σ (E f) (args.toList.map E)) (BQ X n σ (E f) (args.toList.map E))))
 | .call {callee:= .builtin .clear,args:=⟨[x]⟩,argTypes:=⟨[t]⟩}=>Ai X.P σ t (E x)
 | .makeMap t none=>smk X n σ t
 | .lookup t x i false=>BT X σ t (E x) (E i)
 | .mapUpdate t x i y=>Bx X σ t (E x) (E i) (E y)
 |_=>none
def WX{X:Cx}(hX:X.Ok){n:Nat}{o:Oper}{E:SE}{σ:Sg}:jQ X.P n o E σ (Bz X n o.op E σ):=by
 generalize ho:o.op=op;unfold Bz;split
 .exact wD (Ul hX ho rfl) (wD (Up hX ho rfl) (wD (Uo hX ho rfl) (Ur hX ho rfl)))
 .exact TR ho rfl rfl rfl
 .exact X0 ho
 .exact U0 hX ho
 .exact WW hX ho
 .intro ps r rd W h hp;cases h
def By(X:Cx)(raw:Bool)(n:Nat)(o:Op)(E:SE)(σ:Sg):SR:=orS (sop X raw n o E σ) (Bz X n o E σ)
def GT{X:Cx}(hX:X.Ok){raw:Bool}{n:Nat}{o:Oper}{E:SE}{σ:Sg}(hE:∀x,(E x).ok):jQ X.P n o E σ (By X raw n o.op E σ):=by refine wD ?_ (WX hX);intro ps r rd W h hp;obtain⟨h1,h2⟩:=Xy hX hE h hp;obtain⟨r',R',W',h3,rfl,h4⟩:=En h1;grind
end
noncomputable section
def dw{P:Program}{N:Nat}{ds:List (Option Nat)}{K K':List AV->Sto->dO->Prop}(hK:∀F L log,K F L log->K' F L log):∀{l:List Oper} {i:Nat} {F:List AV} {L:Sto} {log:dO},cK P N ds l i F L log K->cK P N ds l i F L log K'
 |[],i,F,L,log,h=>by unfold cK at*;grind
 |o::rest,i,F,L,log,h=>by
  unfold cK at*;split at h
  .obtain⟨r,R,W,Rc,Wc,h1,i1,i2,h2⟩:=h;exact⟨r,R,W,Rc,Wc,h1,i1,i2,dw hK h2⟩
  .split at h
   .split at h
    .rename_i e;rw[if_pos e];obtain⟨r,R,W,Rc,Wc,h1,i1,i2,h2⟩:=h;exact⟨r,R,W,Rc,Wc,h1,i1,i2,dw hK h2⟩
    .rename_i e;rw[if_neg e];exact dw hK h
   .exact dw hK h
   .exact h
def cX.mono{P:Program}{o:Oper}{F:List AV}{L:Sto}{N:Nat}{K K':List AV->Sto->Nat->Prop}(hK:∀F L N,K F L N->K' F L N)(h:cX P o F L N K):cX P o F L N K':=
 λC0 B wI a w hS=>mN (h C0 B wI a w hS) (by grind)
def pZ{P:Program}{ds:List (Option Nat)}{K K':List AV->Sto->Nat->Prop}(hK:∀F L N,K F L N->K' F L N):∀{k:Nat} {l:List Oper} {i:Nat} {F:List AV} {L:Sto} {N:Nat},kP P ds k l i F L N K->kP P ds k l i F L N K'
 |0,_,_,_,_,_,h=>dw (λF L _ h=>hK F L _ h) h
 |_+1,_,_,_,_,_,.inl h=> .inl (dw (λF L _ h=>hK F L _ h) h)
 |_+1,_,_,_,_,_,.inr ⟨pre,o,post,e,hg,h⟩=> .inr ⟨pre,o,post,e,hg,dw (λF L _ h=>h.mono λF L N h=>pZ hK h) h⟩
def gi{P:Program}:∀(c:Code) {Q Q':kL} (_:∀e F L N,Q e F L N->Q' e F L N) {F:List AV} {L:Sto} {N:Nat},awp P c Q F L N->awp P c Q' F L N:=by
 intro c;induction c with
 |skip=>intro Q Q' hQ F L N h;exact hQ _ _ _ _ h
 |region id ops draw=>
  intro Q Q' hQ F L N h;rcases h with h|⟨hd,k,h3⟩|⟨hd,anc,h1,h2,h3,h4⟩
  rotate_left
  .exact .inr (.inl ⟨hd,k,pZ (by grind) h3⟩)
  .exact .inr (.inr ⟨hd,anc,h1,h2,h3,dw (by grind) h4⟩)
  cases draw with
  |true=>obtain⟨anc,h1,h2,h3,h4⟩:=h;exact .inl ⟨anc,h1,h2,h3,dw (by grind) h4⟩
  |false=>obtain⟨h1,h2⟩:=h;exact .inl ⟨h1,dw (by grind) h2⟩
 |seq a b iha ihb=>
  intro Q Q' hQ F L N h;obtain⟨M,h1,h2⟩:=h;refine⟨M,iha ?_ h1,λF L N hm=> ?_⟩
  .grind
  grind
 |cond c t e iht ihe=>
  intro Q Q' hQ F L N h;obtain⟨b,hb,h1,h2⟩:=h;exact⟨b,hb,by grind,by grind⟩
 |block id c ih=>
  intro Q Q' hQ F L N h;refine ih ?_ h;grind
 |loop c ih=>
  intro Q Q' hQ F L N h;obtain⟨Inv,μ,h1,h2⟩:=h;refine⟨Inv,μ,h1,λF L N hi=>ih ?_ (h2 F L N hi)⟩;grind
 |exit id=>intro Q Q' hQ F L N h;exact hQ _ _ _ _ h
 |ret=>intro Q Q' hQ F L N h;exact hQ _ _ _ _ h
 |rangeFunc f params x y _ _=>intro Q Q' hQ F L N h;exact h.elim
 |scope c ih=>
  intro Q Q' hQ F L N h;refine ih ?_ h;grind
 |label l=>intro Q Q' hQ F L N h;exact hQ _ _ _ _ h
 |goto l=>intro Q Q' hQ F L N h;exact h.elim
 |refuse s=>intro Q Q' hQ F L N h;exact h.elim
def Frm.ok(F:Frm):Prop:=∀t,(F.at t).ok
def Xv(v:Value):(svC v).ok:=by
 unfold svC;split
 .split<;>trivial
 .split<;>trivial
 .unfold svK;split<;>trivial
def Fs{n:Nat}{F:Frm}(h:F.ok)(x:Operand):(br n F x).ok:=by
 cases x with
 |tmp t=>
  show(match dB t n with|true=>F.at t|false=>SV.any).ok;split
  .exact h t
  .trivial
 |const v=>exact Xv v
 |func f=>trivial
 |global g=>trivial
def Frm.Gk{F:Frm}(h:F.ok){d:Nat}{v:SV}(hv:v.ok):Frm.ok ((d,v)::F):=by
 intro t;rw[Frm.cW];split
 .exact hv
 .exact h t
def di(n:Nat)(F:Frm)(d:Option Nat)(r:SV):Frm:=match d with
 |none=>F
 |some d=>(match dB d n with|true=>(d,r)::F|false=>F)
def dU(a b:Nat):dB a b=true↔a<b:=by simp_all
def UZ{a b:Nat}(h:dB a b=false):¬a<b:=λhh=>by rw[(dU a b).2 hh]at h;cases h
def ik{n:Nat}{F:Frm}{d:Option Nat}{r:SV}:cF (F.av n) d r.av=(di n F d r).av n:=by
 cases d with
 |none=>rfl
 |some d=>
  unfold di;dsimp only;split
  .rename_i h;exact Frm.od ((dU _ _).1 h)
  .rename_i h;unfold cF;dsimp only;rw[List.set_eq_of_length_le (by rw[Frm.dv];exact Nat.le_of_not_lt (UZ h))]
def Pre(S:Nat->Prop)(F F':Frm):Prop:=∃pre:Frm,F'=pre++F/\∀q∈pre,S q.1
def dr(L L':aM):Prop:=∃pre:aM,L'=pre++L
def Pre.rfl{S:Nat->Prop}{F:Frm}:Pre S F F:=⟨[],by simp,by grind⟩
def Pre.trans{S:Nat->Prop}{F G H:Frm}(h1:Pre S F G)(h2:Pre S G H):Pre S F H:=by obtain⟨p,rfl,hp⟩:=h1;obtain⟨q,rfl,hq⟩:=h2;exact⟨q++p,by simp,by grind⟩
def Pre.mono{S T:Nat->Prop}{F G:Frm}(h1:Pre S F G)(h:∀d,S d->T d):Pre T F G:=by obtain⟨p,e,hp⟩:=h1;exact⟨p,e,by grind⟩
def dr.rfl{L:aM}:dr L L:=⟨[],by simp⟩
def dr.trans{L M O:aM}(h1:dr L M)(h2:dr M O):dr L O:=by obtain⟨p,rfl⟩:=h1;obtain⟨q,rfl⟩:=h2;exact⟨q++p,by simp⟩
def pi{n:Nat}{F:Frm}{d:Option Nat}{r:SV}{S:Nat->Prop}(h:∀t,d=some t->S t):Pre S F (di n F d r):=by
 cases d with
 |none=>exact Pre.rfl
 |some d=>
  unfold di;dsimp only;split
  .exact⟨[(d,r)],by simp,by grind⟩
  .exact Pre.rfl
def mg{n:Nat}{F:Frm}{d:Option Nat}{r:SV}(h:F.ok)(hr:r.ok):(di n F d r).ok:=by
 cases d with
 |none=>exact h
 |some d=>
  unfold di;dsimp only;split
  .exact Frm.Gk h hr
  .exact h
def lD(X:Cx)(n:Nat)(raw:Bool)(N i:Nat)(o:Oper)(F:Frm)(L:aM)(log:dO)(k:Frm->aM->dO->Fm):Fm:=match By X raw (N+i) o.op (br n F) L.at with
 |some (ps,r,R,W)=>needs ps (k (di n F o.dst r) (W++L) (log++[(R.map ncl,W.map λ(q:Nat×Option SOb)=>ncl q.1)]))
 |none=> .stuck i
def kO(n:Nat)(o:Oper)(F:Frm)(L:aM)(log:dO)(k:Frm->aM->dO->Fm):Fm:=k (di n F o.dst .undef) L (log++[([],[])])
def dX(X:Cx)(n:Nat)(raw:Nat->Bool)(N:Nat)(ds:List (Option Nat)):List Oper->Nat->Frm->aM->dO->(Frm->aM->dO->Fm)->Fm
 |[],_,F,L,log,K=>K F L log
 |o::rest,i,F,L,log,K=>match o.guard with
  |none=>lD X n (raw i) N i o F L log λF L log=>dX X n raw N ds rest (i+1) F L log K
  |some (j,want)=>(match(ds[j]?).join with
   |some d=>(match dB d n,F.at d with
    |true,.lit b=>(match b,want with
     |true,false=>kO n o F L log λF L log=>dX X n raw N ds rest (i+1) F L log K
     |false,true=>kO n o F L log λF L log=>dX X n raw N ds rest (i+1) F L log K
     |_,_=>lD X n (raw i) N i o F L log λF L log=>dX X n raw N ds rest (i+1) F L log K)
    |true,.undef=>kO n o F L log λF L log=>dX X n raw N ds rest (i+1) F L log K
    |true,.prop p _=> .both
     (.imp p (match want with
       |true=>lD X n (raw i) N i o ((d,.lit true)::F) L log λF L log=>dX X n raw N ds rest (i+1) F L log K
       |false=>kO n o ((d,.lit true)::F) L log λF L log=>dX X n raw N ds rest (i+1) F L log K))
     (.imp (¬p) (match want with
       |false=>lD X n (raw i) N i o ((d,.lit false)::F) L log λF L log=>dX X n raw N ds rest (i+1) F L log K
       |true=>kO n o ((d,.lit false)::F) L log λF L log=>dX X n raw N ds rest (i+1) F L log K))
    |true,.bool c=> .both
     (.imp (c=true) (match want with
       |true=>lD X n (raw i) N i o ((d,.lit true)::F) L log λF L log=>dX X n raw N ds rest (i+1) F L log K
       |false=>kO n o ((d,.lit true)::F) L log λF L log=>dX X n raw N ds rest (i+1) F L log K))
     (.imp (c=false) (match want with
       |false=>lD X n (raw i) N i o ((d,.lit false)::F) L log λF L log=>dX X n raw N ds rest (i+1) F L log K
       |true=>kO n o ((d,.lit false)::F) L log λF L log=>dX X n raw N ds rest (i+1) F L log K))
    |_,_=> .stuck i)
   |none=> .stuck i)
def Frm.Xo{n:Nat}{F:Frm}{d:Nat}{v:SV}(h:v.av=(F.at d).av):Frm.av n ((d,v)::F)=F.av n:=by apply mI;intro t _;rw[Frm.cW];grind
def aM.fn(L:aM):Sto:=Sg.a L.at
def eB(n:Nat)(S:Nat->Prop)(F:Frm)(L:aM)(FA:List AV)(LA:Sto)(G:Frm->aM->Prop):Prop:=∃F' L',FA=F'.av n/\LA=L'.fn/\F'.ok/\Pre S F F'/\dr L L'/\G F' L'
def eB.step{n:Nat}{S:Nat->Prop}{F F1:Frm}{L L1:aM}{FA:List AV}{LA:Sto}{G:Frm->aM->Prop}(h1:Pre S F F1)(h2:dr L L1)(h:eB n S F1 L1 FA LA G):eB n S F L FA LA G:=by obtain⟨F',L',a,b,c,d,e,f⟩:=h;exact⟨F',L',a,b,c,h1.trans d,h2.trans e,f⟩
def iC{X:Cx}(hX:X.Ok){n:Nat}{raw:Nat->Bool}{N:Nat}{ds:List (Option Nat)}{K:Frm->aM->dO->Fm}:
  ∀(l:List Oper) (i:Nat) (F:Frm) (L:aM) (log:dO),(∀o∈l,o.dst∈ds)->F.ok->(dX X n raw N ds l i F L log K).holds->
   cK X.P N ds l i (F.av n) L.fn log λFA LA log'=>eB n (λd=>some d∈ds) F L FA LA λF' L'=>(K F' L' log').holds
 |[],i,F,L,log,_,hF,h=>by
  unfold cK;exact⟨F,L,rfl,rfl,hF,Pre.rfl,dr.rfl,h⟩
 |o::rest,i,F,L,log,hd,hF,h=>by
  have hd':∀o∈rest,o.dst∈ds:=by grind
  have hod:∀t,o.dst=some t->some t∈ds:=by grind
  have run:∀F:Frm,F.ok->(lD X n (raw i) N i o F L log λF L log=>dX X n raw N ds rest (i+1) F L log K).holds->
    ∃r R W Rc Wc,bB X.P o (c6 (F.av n)) L.fn (N+i) r R W/\inC R Rc/\inC (W.map (·.1)) Wc/\cK X.P N ds rest (i+1) (cF (F.av n) o.dst r) (aY L.fn W) (log++[(Rc,Wc)]) λFA LA log'=>eB n (λd=>some d∈ds) F L FA LA λF' L'=>(K F' L' log').holds:=by
   intro F hF h;unfold lD at h;split at h
   .rename_i ps r R W hs;obtain⟨h1,h2⟩:=j8 h;obtain⟨⟨R',W',h5,f1,f2,f3⟩,h4⟩:=GT hX (Fs hF) _ _ _ _ hs h1;have e1:SE.a (br n F)=c6 (F.av n):=funext λx=>eG x;rw[e1]at h5;refine⟨r.av,R',W',_,_,h5,f1,f2,?_⟩;have e3:aY L.fn W'=aM.fn (W++L):=by unfold aM.fn;rw[f3,aM.oh]
    rw[ik,e3];exact dw (λ_ _ _=>eB.step (pi hod) ⟨W,rfl⟩) (iC hX rest (i+1) _ _ _ hd' (mg hF h4) h2)
   .exact h.elim
  have skip:∀F:Frm,F.ok->(kO n o F L log λF L log=>dX X n raw N ds rest (i+1) F L log K).holds->
    cK X.P N ds rest (i+1) (cF (F.av n) o.dst .undef) L.fn (log++[([],[])]) λFA LA log'=>eB n (λd=>some d∈ds) F L FA LA λF' L'=>(K F' L' log').holds:=by
   intro F hF h;unfold kO at h;have:=iC hX rest (i+1) _ _ _ hd' (mg (n:=n) (d:=o.dst) hF (show SV.ok .undef from trivial)) h;rw[<-ik]at this;exact dw (λ_ _ _=>eB.step (pi hod) dr.rfl) this
  unfold dX at h;unfold cK;split at h
  .grind
  .rename_i j want hg;rw[hg];dsimp only;split at h
   case h_2=>exact h.elim
   rename_i d hdj;have gd:∀F:Frm,d<n->gdA ds (F.av n) j=(match(F.at d).av with| .p (.bool b)=>some (some b)| .undef=>some none|_=>none):=by intro F hlt;unfold gdA;rw[hdj];dsimp only;rw[Frm.fU hlt];rfl
   have split1:∀(b:Bool),d<n->(F.at d).av= .p (.bool b)->(match want with
      |true=>(match b with
       |true=>lD X n (raw i) N i o ((d,.lit true)::F) L log λF L log=>dX X n raw N ds rest (i+1) F L log K
       |false=>kO n o ((d,.lit false)::F) L log λF L log=>dX X n raw N ds rest (i+1) F L log K)
      |false=>(match b with
       |true=>kO n o ((d,.lit true)::F) L log λF L log=>dX X n raw N ds rest (i+1) F L log K
       |false=>lD X n (raw i) N i o ((d,.lit false)::F) L log λF L log=>dX X n raw N ds rest (i+1) F L log K)).holds->
     (match(gdA ds (F.av n) j:Option (Option Bool))with
       |some (some b)=>if b=want then∃r R W Rc Wc,bB X.P o (c6 (F.av n)) L.fn (N+i) r R W/\inC R Rc/\inC (W.map (·.1)) Wc/\cK X.P N ds rest (i+1) (cF (F.av n) o.dst r) (aY L.fn W) (log++[(Rc,Wc)]) (λFA LA log'=>eB n (λd=>some d∈ds) F L FA LA λF' L'=>(K F' L' log').holds)
        else cK X.P N ds rest (i+1) (cF (F.av n) o.dst .undef) L.fn (log++[([],[])]) (λFA LA log'=>eB n (λd=>some d∈ds) F L FA LA λF' L'=>(K F' L' log').holds)
       |some none=>cK X.P N ds rest (i+1) (cF (F.av n) o.dst .undef) L.fn (log++[([],[])]) (λFA LA log'=>eB n (λd=>some d∈ds) F L FA LA λF' L'=>(K F' L' log').holds)
       |none=>False):=by
    intro b hlt hb h;rw[gd F hlt,hb];dsimp only;have e0:∀c,c=b->Frm.av n ((d,.lit c)::F)=F.av n:=λc hc=>Frm.Xo (by rw[hb,hc];rfl);have hpre:∀c,Pre (λd=>some d∈ds) F ((d,SV.lit c)::F):=λc=>⟨[(d,.lit c)],rfl,by grind⟩;have up:∀c FA LA (G:Frm->aM->Prop),eB n (λd=>some d∈ds) ((d,SV.lit c)::F) L FA LA G->eB n (λd=>some d∈ds) F L FA LA G:=λc FA LA G=>eB.step (hpre c) dr.rfl;have hok:∀c,Frm.ok ((d,SV.lit c)::F):=λc=>Frm.Gk hF (show SV.ok (.lit c)from trivial);cases want<;>cases b<;>dsimp only at h
    .have:=run _ (hok false) h;rw[e0 false rfl]at this;obtain⟨r,R,W,Rc,Wc,h1,i1,i2,h2⟩:=this;exact⟨r,R,W,Rc,Wc,h1,i1,i2,dw (by grind) h2⟩
    .have:=skip _ (hok true) h;rw[e0 true rfl]at this;exact dw (by grind) this
    .have:=skip _ (hok false) h;rw[e0 false rfl]at this;exact dw (by grind) this
    .have:=run _ (hok true) h;rw[e0 true rfl]at this;obtain⟨r,R,W,Rc,Wc,h1,i1,i2,h2⟩:=this;exact⟨r,R,W,Rc,Wc,h1,i1,i2,dw (by grind) h2⟩
   split at h
   .rename_i b hlt hb;have hlt:=(dU _ _).1 hlt;rw[gd F hlt,hb];show(if b=want then _ else _);cases b<;>cases want<;>dsimp only at h
    .grind
    .grind
    .grind
    grind
   .rename_i hlt hb;have hlt:=(dU _ _).1 hlt;rw[gd F hlt,hb];exact skip F hF h
   .rename_i p dec hlt hb;obtain⟨h1,h2⟩:=Fm.lM h;have hlt:=(dU _ _).1 hlt;have hav:(F.at d).av= .p (.bool (@decide p dec)):=by rw[hb];rfl
    by_cases hp:p
    .refine split1 true hlt (by grind) ?_;have h1:=(h1:p->_) hp;omega
    .have h2:=(h2:¬p->_) hp;grind
   .rename_i c hlt hb;obtain⟨h1,h2⟩:=Fm.lM h;have hlt:=(dU _ _).1 hlt;have hav:(F.at d).av= .p (.bool c):=by rw[hb];rfl
    cases c with
    |true=>
     refine split1 true hlt hav ?_;have h1:=(h1:(true=true)->_) rfl;omega
    |false=>
     have h2:=(h2:(false=false)->_) rfl;grind
   .exact h.elim
end
noncomputable section
abbrev Rm:=List (Nat×Option Nat)
def ji:Rm->Nat->Option (Option Nat)
 |[],_=>none
 |(k,x)::m,s=>match af s k with|true=>some x|false=>ji m s
def k9(f:SV->SV->Option (List Prop×Rm)):List SV->List SV->Option (List Prop×Rm)
 |[],[] =>some ([],[])
 |x::l,y::r=>(match f x y,k9 f l r with
  |some (p,m),some (q,k)=>some (p++q,m++k)
  |_,_=>none)
 |_,_=>none
def CJ:SV->SV->Option (List Prop×Rm)
 | .any,_=>some ([],[])
 | .undef,.undef=>some ([],[])
 | .nil,.nil=>some ([],[])
 | .int k a,.int k' b=>(match decEq k k' with| .isTrue _=>some ([b=a],[])| .isFalse _=>none)
 | .bool a,.bool b=>some ([b=a],[])
 | .bool a,.lit b=>some ([b=a],[])
 | .bool a,.prop p d=>some ([@decide p d=a],[])
 | .lit a,.lit b=>some ([b=a],[])
 | .lit a,.bool b=>some ([b=a],[])
 | .lit a,.prop p d=>some ([@decide p d=a],[])
 | .prop p _,.prop q _=>some ([q↔p],[])
 | .prop p d,.bool b=>some ([b= @decide p d],[])
 | .prop p d,.lit b=>some ([b= @decide p d],[])
 | .str a,.str b=>some ([b=a],[])
 | .lst t l,.lst t' l'=>(match decEq t' t with| .isTrue h=>some ([(h▸l':List t.ty)=l],[])| .isFalse _=>none)
 | .lst _ l,.sl 0 [] =>some ([l=[]],[])
 | .lst t l,.sl n cs=>(match t.decs n cs with|some l'=>some ([l'=l],[])|none=>none)
 | .ptr s off,.ptr s' off'=>(match af off off' with|true=>some ([],[(s,some s')])|false=>none)
 | .own s t n,.own s' t' n'=>(match decEq t' t with| .isTrue _=>some ([n'=n],[(s,some s')])| .isFalse _=>none)
 | .own s _ n,.ownx s' n'=>some ([n'=n],[(s,some s')])
 | .own s _ n,.nil=>some ([n=0],[(s,none)])
 | .ownx s n,.ownx s' n'=>(match af n n' with|true=>some ([],[(s,some s')])|false=>none)
 | .owF s n,.owF s' n'=>some ([n'=n],[(s,some s')])
 | .mp s,.mp s'=>some ([],[(s,some s')])
 | .junk,.junk=>some ([],[])
 |_,_=>none
def eqv:Nat->SV->SV->Option (List Prop×Rm)
 |d+1,.agg l,.agg r=>k9 (eqv d) l r
 |d+1,.tup l,.tup r=>k9 (eqv d) l r
 |d+1,.fn f a b,.fn f' a' b'=>(match af f f',k9 (eqv d) a a',k9 (eqv d) b b' with
  |true,some (p,m),some (q,k)=>some (p++q,m++k)
  |_,_,_=>none)
 |_,x,y=>CJ x y
def iS(m:Rf)(r:Rm):Prop:=∀q∈r,m (aD q.1)=some (q.2.map aD)
def iS.left{m:Rf}{r k:Rm}(h:iS m (r++k)):iS m r:=λq hq=>h q (by grind)
def iS.right{m:Rf}{r k:Rm}(h:iS m (r++k)):iS m k:=λq hq=>h q (by grind)
def mY{f:SV->SV->Option (List Prop×Rm)}{m:Rf}(hf:∀x y ps r,f x y=some (ps,r)->(∀p∈ps,p)->iS m r->dh m x.av y.av):
  ∀{l k:List SV} {ps:List Prop} {r:Rm},k9 f l k=some (ps,r)->(∀p∈ps,p)->iS m r->dG m (avs l) (avs k)
 |[],[],ps,r,_,_,_=>by rfl
 |[],_::_,ps,r,h,_,_=>by cases h
 |_::_,[],ps,r,h,_,_=>by cases h
 |x::l,y::k,ps,r,h,hp,hm=>by
  unfold k9 at h;split at h<;>cases h;rename_i p m1 q m2 h1 h2;exact⟨_,_,rfl,hf x y p m1 h1 (λa ha=>hp a (by grind)) hm.left,mY hf h2 (λa ha=>hp a (by grind)) hm.right⟩
def Fv{m:Rf}{x y:SV}{ps:List Prop}{r:Rm}(h:CJ x y=some (ps,r))(hp:∀p∈ps,p)(hm:iS m r):dh m x.av y.av:=by
 unfold CJ at h;split at h
 .trivial
 .rfl
 .rfl
 .split at h<;>cases h;rename_i e _;subst e;rw[<-hp _ (bO.2 rfl)];rfl
 .cases h;rw[<-hp _ (bO.2 rfl)];rfl
 .cases h;rw[<-hp _ (bO.2 rfl)];rfl
 .cases h;rw[<-hp _ (bO.2 rfl)];rfl
 .cases h;rw[<-hp _ (bO.2 rfl)];rfl
 .cases h;rw[<-hp _ (bO.2 rfl)];rfl
 .cases h;rw[<-hp _ (bO.2 rfl)];rfl
 .rename_i p d q e;cases h;have hh:q↔p:=hp _ (by grind);show AV.p (.bool (decide q))=AV.p (.bool (decide p));grind
 .cases h;refine dc ?_;rw[<-hp _ (bO.2 rfl)];rfl
 .cases h;refine dc ?_;rw[<-hp _ (bO.2 rfl)];rfl
 .cases h;rw[<-hp _ (bO.2 rfl)];rfl
 .rename_i t l t' l';split at h<;>cases h;rename_i e _;subst e;have:l'=l:=hp _ (by grind);subst this;exact dc rfl
 .cases h;rename_i t l;have:l=[] :=hp _ (by grind);subst this;exact dc rfl
 .rename_i t l n cs _;split at h<;>cases h;rename_i l' hl;have:l'=l:=hp _ (by grind);subst this;obtain⟨e1,e2⟩:=LT.oT hl;show(match bK (avs cs)with|some q=>AV.p (.sl n q)|none=> .any)=_;rw[e2,cQ,e1]
 .rename_i s off s' off';split at h<;>cases h;simp only[SV.av];exact⟨aD s',hm _ (bO.2 rfl),by simp_all⟩
 .rename_i s t n s' t' n';split at h<;>cases h;have:n'=n:=hp _ (by grind);simp only[SV.av];exact .inl ⟨aD s',hm _ (bO.2 rfl),by rw[this]⟩
 .cases h;rename_i s t n s' n';have:n'=n:=hp _ (by grind);simp only[SV.av];exact .inl ⟨aD s',hm _ (bO.2 rfl),by rw[this]⟩
 .cases h;rename_i s t n;have:n=0:=hp _ (by grind);exact .inr ⟨hm _ (bO.2 rfl),rfl,rfl,this⟩
 .rename_i s n s' n';split at h<;>cases h;simp only[SV.av];exact .inl ⟨aD s',hm _ (bO.2 rfl),by simp_all⟩
 .cases h;rename_i s n s' n';have:n'=n:=hp _ (by grind);simp only[SV.av];exact .inl ⟨aD s',hm _ (bO.2 rfl),by rw[this]⟩
 .cases h;rename_i s s';exact⟨aD s',hm _ (bO.2 rfl),rfl⟩
 .exact dc rfl
 .cases h
def sW{m:Rf}:∀(d:Nat) (x y:SV) (ps:List Prop) (r:Rm),eqv d x y=some (ps,r)->(∀p∈ps,p)->iS m r->dh m x.av y.av:=by
 intro d;induction d with
 |zero=>
  intro x y ps r h hp hm;refine Fv (ps:=ps) (r:=r) ?_ hp hm;exact h
 |succ d ih=>
  intro x y ps r h hp hm;unfold eqv at h;split at h
  .rename_i d' l k e;cases e;exact u6 (mY ih h hp hm)
  .rename_i d' l k e;cases e;exact ye (mY ih h hp hm)
  .rename_i d' f a b f' a' b' e;cases e;split at h<;>cases h;rename_i p m1 q m2 e h1 h2;show dh m (.fn (.func f) (avs a) (avs b)) (.fn (.func f') (avs a') (avs b'));exact⟨_,_,by simp_all,mY ih h1 (λa ha=>hp a (by grind)) hm.left,mY ih h2 (λa ha=>hp a (by grind)) hm.right⟩
  .exact Fv h hp hm
mutual
def SV.sites:SV->List Nat
 | .agg l=>kg l
 | .tup l=>kg l
 | .fn _ a b=>kg a++kg b
 | .ptr s _=>[s]
 | .pte s _ _ _=>[s]
 | .own s _ _=>[s]
 | .owns s _ _ _=>[s]
 | .ownx s _=>[s]
 | .ownf s _ _ _=>[s]
 | .ptef s _ _ _ _=>[s]
 | .ptf s _=>[s]
 | .owF s _=>[s]
 | .mp s=>[s]
 |_=>[]
def kg:List SV->List Nat
 |[] =>[]
 |x::l=>x.sites++kg l
end
def jM(m:Rf)(s:Nat):Prop:=∀a,m (inn s a)=some (some (inn s a))
mutual
theorem rc{m:Rf}:∀(v:SV),(∀s∈v.sites,jM m s)->dh m v.av v.av
 | .any,_=>by trivial
 | .undef,_=>by rfl
 | .nil,_=>by rfl
 | .int _ _,_=>dc rfl
 | .bool _,_=>dc rfl
 | .lit _,_=>dc rfl
 | .prop _ _,_=>dc rfl
 | .str _,_=>dc rfl
 | .lst _ _,_=>dc rfl
 | .pe _ _ _ _,_=>dc rfl
 | .clo1 _ _ _ _,_=>dc rfl
 | .clo2 _ _ _ _,_=>dc rfl
 | .ptb _ _ _,_=>dc rfl
 | .junk,_=>dc rfl
 | .mp s,h=>by exact⟨aD s,h s (by simp[SV.sites]) 0,rfl⟩
 | .sl n cs,_=>by
   simp only[SV.av];split
   .exact dc rfl
   .trivial
 | .pro cs off,_=>by
   simp only[SV.av];split
   .exact dc rfl
   .trivial
 | .fnp f a b,_=>by
   simp only[SV.av];split
   .exact dc rfl
   .trivial
 | .agg l,h=>by exact u6 (nu l h)
 | .tup l,h=>by exact ye (nu l h)
 | .fn f a b,h=>by
   exact⟨_,_,rfl,nu a (λs hs=>h s (by simp only[SV.sites];grind)),nu b (λs hs=>h s (by simp only[SV.sites];grind))⟩
 | .ptr s off,h=>by exact⟨aD s,h s (by simp[SV.sites]) 0,rfl⟩
 | .pte s t i off,h=>by exact⟨aD s,h s (by simp[SV.sites]) 0,rfl⟩
 | .own s t n,h=>by exact .inl ⟨aD s,h s (by simp[SV.sites]) 0,rfl⟩
 | .owns s t o n,h=>by exact .inl ⟨aD s,h s (by simp[SV.sites]) 0,rfl⟩
 | .ownx s n,h=>by exact .inl ⟨aD s,h s (by simp[SV.sites]) 0,rfl⟩
 | .owF s n,h=>by exact .inl ⟨aD s,h s (by simp[SV.sites]) 0,rfl⟩
 | .ownf s t a n,h=>by exact .inl ⟨inn s (a+1),h s (by simp[SV.sites]) (a+1),rfl⟩
 | .ptf s a,h=>by exact⟨aD s,h s (by simp[SV.sites]) 0,rfl⟩
 | .ptef s t a i off,h=>by exact⟨inn s (a+1),h s (by simp[SV.sites]) (a+1),rfl⟩
theorem nu{m:Rf}:∀(l:List SV),(∀s∈kg l,jM m s)->dG m (avs l) (avs l)
 |[],_=>by rfl
 |x::l,h=>by
  exact⟨_,_,rfl,rc x (λs hs=>h s (by simp only[kg];grind)),nu l (λs hs=>h s (by simp only[kg];grind))⟩
end
def SOb.sites:SOb->List Nat
 | .box _ cs=>kg cs
 | .arr _ _ cs=>kg cs
 | .row .. =>[]
 | .fam _ _ _ _ ov=>ov.flatMap λq=>q.2.sites
 | .mp _=>[]
 | .mf _=>[]
 | .it _ _=>[]
def vA{ov:List (Nat×SV)}{i:Nat}{v:SV}(h:ov.lookup i=some v):(i,v)∈ov:=by
 induction ov with
 |nil=>cases h
 |cons q ov ih=>
  grind
def j7{m:Rf}(o:SOb)(x:Nat)(hx:jM m x)(h:∀s∈o.sites,jM m s):kH m (o.ob x) (o.ob x):=by
 cases o with
 |box ty cs=>exact⟨rfl,rfl,nu cs h⟩
 |arr ty ez cs=>exact⟨rfl,rfl,nu cs h⟩
 |row ty t l=>exact⟨rfl,rfl,fg m _⟩
 |mp ks=>refine⟨rfl,rfl,?_⟩;show dG m (bu (fH ks)) (bu (fH ks));rw[n8];exact fg m _
 |mf M=>
  refine⟨rfl,rfl,?_⟩;have:∀(M:List ((Nat×Nat)×List Int)) (i:Nat),dG m (bu (mfK (λi=>inn x (i+1)) i M)) (bu (mfK (λi=>inn x (i+1)) i M)):=λM=>by
   induction M with
   |nil=>intro i;rfl
   |cons q M ih=>intro i;exact⟨_,_,rfl,rfl,_,_,rfl,.inl ⟨_,hx (i+1),rfl⟩,ih (i+1)⟩
  exact this M 0
 |it cur M=>
  refine⟨rfl,rfl,?_⟩;refine⟨_,_,rfl,⟨_,hx 1,rfl⟩,_,_,rfl,?_,_,_,rfl,⟨_,hx 0,rfl⟩,?_⟩
  .cases cur with
   |none=>trivial
   |some q=>exact⟨_,.inl rfl,fg m [_,_]⟩
  .rw[vV];exact fg m _
 |fam ty ity t L ov=>
  refine⟨rfl,rfl,mT _ _ _ λi _=> ?_⟩;unfold cj;split
  .rename_i v hv;exact rc v λs hs=>h s (List.mem_flatMap.2 ⟨(i,v),vA hv,hs⟩)
  .exact .inl ⟨_,hx (i+1),rfl⟩
def tc:SOb->SOb->Option (List Prop×Rm)
 | .box ty cs,.box ty' cs'=>(match af ty ty' with|true=>k9 (eqv 3) cs cs'|false=>none)
 | .arr ty ez cs,.arr ty' ez' cs'=>(match af ty ty',af ez ez' with|true,true=>k9 (eqv 3) cs cs'|_,_=>none)
 | .row ty t l,.row ty' t' l'=>(match af ty ty',decEq t' t with|true,.isTrue h=>some ([(h▸l':List t.ty)=l],[])|_,_=>none)
 | .mp ks,.mp ks'=>some ([ks'=ks],[])
 | .row ty t l,.arr ty' ez cs=>(match af ty ty',af ez t.w,t.decs (cs.length/t.w) cs with|true,true,some l'=>some ([l'=l],[])|_,_,_=>none)
 |_,_=>none
def UD{m:Rf}{x y:SOb}{ps:List Prop}{r:Rm}(h:tc x y=some (ps,r))(hp:∀p∈ps,p)(hm:iS m r)(k k':Nat):kH m (x.ob k) (y.ob k'):=by
 unfold tc at h;split at h
 .split at h
  .rename_i e;exact⟨bm e,rfl,mY (sW 3) h hp hm⟩
  .cases h
 .split at h
  .rename_i e1 e2;exact⟨bm e1,bm e2,mY (sW 3) h hp hm⟩
  .cases h
 .split at h<;>cases h;rename_i e2 e1 _;subst e2;have:=hp _ (bO.2 rfl);subst this;exact⟨bm e1,rfl,fg m _⟩
 .cases h;have:=hp _ (bO.2 rfl);subst this;refine⟨rfl,rfl,?_⟩;show dG m (bu (fH _)) (bu (fH _));rw[n8];exact fg m _
 .split at h<;>cases h;rename_i l' e1 e2 e3;have:=hp _ (bO.2 rfl);subst this;obtain⟨_,e4⟩:=LT.oT e3;refine⟨bm e1,(bm e2).symm,?_⟩;show dG m ((LT.enc _ l').map .p) (avs _);rw[e4];exact fg m _
 .cases h
end
noncomputable section
def mem(l:List Nat)(s:Nat):Bool:=match l with
 |[] =>false
 |x::l=>(match af s x with|true=>true|false=>mem l s)
def mem_iff(s:Nat):∀l:List Nat,mem l s=true↔s∈l
 |[] =>by simp[mem]
 |x::l=>by
  unfold mem;cases h:af s x with
  |true=>simp_all
  |false=>simp[fw h,mem_iff s l]
def co{α:Type}(p:α->Bool):List α->Bool
 |[] =>true
 |x::l=>(match p x with|true=>co p l|false=>false)
def dE{α:Type}{p:α->Bool}:∀{l:List α},co p l=true->∀x∈l,p x=true
 |[],_,x,hx=>by cases hx
 |y::l,h,x,hx=>by
  unfold co at h;cases hy:p y with
  |false=>grind
  |true=>
   rw[hy]at h;rcases bh.1 hx with rfl|hx
   .exact hy
   .exact dE h x hx
def fO(rk:List Nat)(N0:Nat)(s:Nat):Bool:=match dB (ncl s) N0,mem rk s with
 |true,false=>true
 |_,_=>false
def hU(F:Frm)(rk:List Nat)(N0:Nat):Frm->List Nat
 |[] =>[]
 |(d,v)::r=>(match co (fO rk N0) v.sites with
  |true=>hU F rk N0 r
  |false=>(match co (fO rk N0) (F.at d).sites with
   |true=>hU F rk N0 r
   |false=>d::hU F rk N0 r))
def iu(F:Frm)(upd:Frm)(hav:List Nat):Frm:=upd++(hav.map λd=>(d,SV.any))++F
def gO(L:aM)(obs:List (Nat×SOb)):aM:=(obs.map λq=>(q.1,some q.2))++L
def tW(obs:List (Nat×SOb)):List Nat:=obs.map λq=>q.1
def ZD(L:aM)(keys rk:List Nat)(N0:Nat):Bool:=co (λ(q:Nat×Option SOb)=>match mem keys q.1 with
 |true=>true
 |false=>(match L.at q.1 with
  |none=>true
  |some ob=>(match fO rk N0 q.1 with|true=>co (fO rk N0) ob.sites|false=>false))) L
def qr(n:Nat)(F':Frm):Frm->Option (List Prop×Rm)
 |[] =>some ([],[])
 |(d,v)::r=>(match dB d n,v.ape,eqv 3 v (F'.at d),qr n F' r with
  |true,false,some (p,m),some (q,k)=>some (p++q,m++k)
  |_,_,_,_=>none)
def Bk(rk:List Nat)(s o:Nat):SOb->SOb->Option (List Prop)
 | .fam ty ity t M [],.fam ty' ity' t' M' [] =>(match af s o,mem rk s,af ty ty',af ity ity',decEq t' t with
   |true,false,true,true,.isTrue h=>some [(h▸M':List (List t.ty))=M]
   |_,_,_,_,_=>none)
 | .mf M,.mf M'=>(match af s o,mem rk s with
   |true,false=>some [M'=M]
   |_,_=>none)
 | .it none M,.it none M'=>(match af s o,mem rk s with
   |true,false=>some [M'=M]
   |_,_=>none)
 |_,_=>none
def Vo{rk:List Nat}{s o:Nat}{x y:SOb}{ps:List Prop}(h:Bk rk s o x y=some ps)(hp:∀p∈ps,p):s=o/\mem rk s=false/\x=y/\x.sites=[] :=by
 unfold Bk at h;split at h
 .split at h<;>cases h;rename_i e h1 h2 h3 h4 _;subst e;have:=hp _ (bO.2 rfl);subst this;rw[bm h3,bm h4];exact⟨bm h1,h2,rfl,rfl⟩
 .split at h<;>cases h;rename_i h1 h2;have:=hp _ (bO.2 rfl);subst this;exact⟨bm h1,h2,rfl,rfl⟩
 .split at h<;>cases h;rename_i h1 h2;have:=hp _ (bO.2 rfl);subst this;exact⟨bm h1,h2,rfl,rfl⟩
 .cases h
def pE(L':aM)(rk:List Nat):List (Nat×SOb)->Rm->Option (List Prop×Rm)
 |[],mm=>some ([],mm)
 |(s,ob)::r,mm=>(match(match mem rk s with|true=>ji mm s|false=>some (some s))with
  |none=>none
  |some none=>(match ob with
   | .row _ _ l=>(match pE L' rk r (mm++[(s,none)])with|some (q,k)=>some ((l=[])::q,k)|none=>none)
   |_=>none)
  |some (some o)=>(match L'.at o with
   |none=>none
   |some ob'=>(match tc ob ob' with
    |none=>(match Bk rk s o ob ob' with
     |none=>none
     |some p=>(match pE L' rk r (mm++[(s,some o)])with|some (q,k)=>some (p++q,k)|none=>none))
    |some (p,m2)=>(match pE L' rk r (mm++(s,some o)::m2)with|some (q,k)=>some (p++q,k)|none=>none))))
def eqO:Option Nat->Option Nat->Bool
 |none,none=>true
 |some a,some b=>af a b
 |_,_=>false
def Ay{a b:Option Nat}(h:eqO a b=true):a=b:=by cases a<;>cases b<;>first|rfl|(cases h;done)|(rw[bm h])
def isO:Option (Option Nat)->Option Nat->Bool
 |some a,b=>eqO a b
 |none,_=>false
def okM(rk:List Nat)(N0 N1:Nat)(mm:Rm):Bool:=co (λ(q:Nat×Option Nat)=>match isO (ji mm q.1) q.2,mem rk q.1 with
 |true,true=>(match dB (ncl q.1) N1,q.2 with
  |true,none=>true
  |true,some o=>(match(match dB (ncl o) N0 with|false=>true|true=>mem rk o)with
   |true=>co (λ(q2:Nat×Option Nat)=>match eqO q2.2 (some o)with|true=>af q2.1 q.1|false=>true) mm
   |false=>false)
  |_,_=>false)
 |true,false=>(match fO rk N0 q.1 with|true=>eqO q.2 (some q.1)|false=>false)
 |_,_=>false) mm
def ZB(N0:Nat)(keys:List Nat)(pre:aM):Bool:=co (λ(q:Nat×Option SOb)=>match mem keys q.1 with
 |true=>true
 |false=>(match dB (ncl q.1) N0 with|true=>false|false=>true)) pre
def aAo(rk:List Nat)(N0:Nat)(mm:Rm):Nat->Option (Option Nat):=λs=>match ji mm s with
 |some x=>some x
 |none=>(match fO rk N0 s with|true=>some (some s)|false=>none)
open Classical in
def jI(mn:Nat->Option (Option Nat))(st:Nat->Bool):Rf:=λs=>if inn (nm s) (sub s)=s then(match sub s with
 |0=>(mn (nm s)).map (Option.map aD)
 |_+1=>(match st (nm s)with|true=>some (some s)|false=>none))else none
def yQ(mn:Nat->Option (Option Nat))(st:Nat->Bool)(x:Nat):jI mn st (aD x)=(mn x).map (Option.map aD):=by unfold jI aD;rw[lR,la,if_pos rfl]
def EX(mn:Nat->Option (Option Nat))(st:Nat->Bool)(x a:Nat):jI mn st (inn x (a+1))=(match st x with|true=>some (some (inn x (a+1)))|false=>none):=by unfold jI;rw[lR,la,if_pos rfl]
def Ve(mn:Nat->Option (Option Nat))(st:Nat->Bool){s:Nat}(h:∀x a,s≠inn x a):jI mn st s=none:=by unfold jI;grind
def wX(n:Nat)(L:aM)(N0 N1:Nat)(rk:List Nat)(upd:Frm)(obs:List (Nat×SOb))(F':Frm)(L':aM):Option (List Prop):=
 match qr n F' upd with
 |none=>none
 |some (p,m1)=>(match pE L' rk obs m1 with
  |none=>none
  |some (q,m2)=>(match okM rk N0 N1 m2,ZB N0 (tW obs) (L'.take (L'.length-L.length)),ZD L (tW obs) rk N0,iL N0 N1 with
   |true,true,true,true=>some (p++q)
   |_,_,_,_=>none))
def EU{m:Rm}{s:Nat}{x:Option Nat}(h:ji m s=some x):(s,x)∈m:=by
 induction m with
 |nil=>cases h
 |cons q m ih=>
  obtain⟨a,b⟩:=q;unfold ji at h;split at h
  .simp_all
  grind
def Fu{n:Nat}{F':Frm}{m:Rf}:∀{upd:Frm} {ps:List Prop} {r:Rm},qr n F' upd=some (ps,r)->(∀p∈ps,p)->iS m r->∀q∈upd,dh m q.2.av (F'.at q.1).av/\q.2.ok
 |[],ps,r,_,_,_,q,hq=>by cases hq
 |(d,v)::upd,ps,r,h,hp,hm,q,hq=>by
  unfold qr at h;split at h<;>cases h;rename_i p1 m1 p2 m2 h1 h2 h3 h4;rcases bh.1 hq with rfl|hq
  .exact⟨sW 3 _ _ _ _ h3 (λa ha=>hp a (by grind)) hm.left,SV.jh h2⟩
  .exact Fu h4 (λa ha=>hp a (by grind)) hm.right q hq
def Ss{x y:SOb}{q:List Prop×Rm}(h:tc x y=some q):x.flat=true:=by unfold tc at h;cases x<;>first|rfl|grind
def vX{L':aM}{rk:List Nat}{m:Rf}:∀{obs:List (Nat×SOb)} {mm:Rm} {ps:List Prop} {r:Rm},pE L' rk obs mm=some (ps,r)->(∀p∈ps,p)->iS m r->
  (∃k,r=mm++k)/\∀q∈obs,(q.2.flat=true/\((∃y ob,m (aD q.1)=some (some (aD y))/\L'.at y=some ob/\kH m (q.2.ob q.1) (ob.ob y))\/(m (aD q.1)=some none/\(q.2.ob q.1).esz≠0/\(q.2.ob q.1).cells=[])))\/((q.1,some q.1)∈r/\mem rk q.1=false/\L'.at q.1=some q.2/\q.2.sites=[])
 |[],mm,ps,r,h,_,_=>by unfold pE at h;simp_all
 |(s,ob)::obs,mm,ps,r,h,hp,hm=>by
  unfold pE at h;split at h
  .cases h
  .split at h
   .rename_i ty t l;split at h<;>cases h;rename_i q k hk;obtain⟨⟨k',e⟩,h2⟩:=vX hk (by grind) hm;refine⟨by grind,λq hq=> ?_⟩;rcases bh.1 hq with rfl|hq
    .have:m (aD s)=some none:=hm (s,none) (by rw[e];simp);have hl:l=[] :=hp _ (by grind);subst hl;exact .inl ⟨rfl,.inr ⟨this,j4 t.gn,rfl⟩⟩
    grind
   .cases h
  .rename_i o hi;split at h
   .cases h
   .rename_i ob' hob;split at h
    .split at h
     .cases h
     .rename_i p hfe;split at h<;>cases h;rename_i q k hk;obtain⟨⟨k',e⟩,h2⟩:=vX hk (λa ha=>hp a (by grind)) hm;refine⟨by grind,λq hq=> ?_⟩;rcases bh.1 hq with rfl|hq
      .obtain⟨f1,f2,f3,f4⟩:=Vo hfe λa ha=>hp a (by grind);grind
      grind
    .rename_i p m2 he;split at h<;>cases h;rename_i q k hk;obtain⟨⟨k',e⟩,h2⟩:=vX hk (λa ha=>hp a (by grind)) hm;refine⟨by grind,λq hq=> ?_⟩;rcases bh.1 hq with rfl|hq
     .have:m (aD s)=some (some (aD o)):=hm (s,some o) (by rw[e];simp);refine .inl ⟨Ss he,.inl ⟨o,ob',this,hob,UD he (λa ha=>hp a (by grind)) ?_ _ _⟩⟩;intro q hq;exact hm q (by grind)
     grind
def ve{F:Frm}{rk:List Nat}{N0:Nat}{d:Nat}:∀{G:Frm},(∃v,(d,v)∈G/\co (fO rk N0) v.sites=false)->d∉hU F rk N0 G->co (fO rk N0) (F.at d).sites=true
 |[],⟨v,h,_⟩,_=>by cases h
 |(e,u)::G,⟨v,h,hv⟩,hn=>by
  unfold hU at hn;rcases bh.1 h with h|h
  .grind
  .split at hn
   .exact ve ⟨v,h,hv⟩ hn
   .split at hn
    .exact ve ⟨v,h,hv⟩ hn
    .exact ve ⟨v,h,hv⟩ (by grind)
def Yq(F:Frm)(d:Nat):(F.at d)= .undef\/(d,F.at d)∈F:=by
 induction F with
 |nil=>exact .inl rfl
 |cons q F ih=>
  rw[Frm.cW];grind
def XM{F:Frm}{rk:List Nat}{N0 d:Nat}(h:d∉hU F rk N0 F):co (fO rk N0) (F.at d).sites=true:=by
 rcases Yq F d with e|e
 .rw[e];rfl
 .cases hb:co (fO rk N0) (F.at d).sites with
  |true=>rfl
  |false=>rw[<-hb];exact ve ⟨_,e,hb⟩ h
def Frm.lQ(A B:Frm)(d:Nat):(Frm.at (A++B) d)=if d∈A.map (·.1)then A.at d else B.at d:=by
 induction A with
 |nil=>simp
 |cons q A ih=>
  rw[mF,Frm.cW,Frm.cW,ih];grind
def JL(l:List Nat)(d:Nat):(Frm.at (l.map λd=>(d,SV.any)) d)=if d∈l then .any else .undef:=by
 induction l with
 |nil=>rfl
 |cons e l ih=>
  rw[cO,Frm.cW,ih];grind
def wj{F:Frm}{d:Nat}(h:d∈F.map (·.1)):(d,F.at d)∈F:=by
 induction F with
 |nil=>cases h
 |cons q F ih=>
  rw[Frm.cW];grind
def aM.lQ(A B:aM)(s:Nat):(aM.at (A++B) s)=if s∈A.map (·.1)then A.at s else B.at s:=by
 induction A with
 |nil=>simp
 |cons q A ih=>
  obtain⟨e,v⟩:=q;show(match af s e with|true=>v|false=>aM.at (A++B) s)=if _ then(match af s e with|true=>v|false=>aM.at A s)else _;cases h:af s e with
  |true=>simp_all
  |false=>
   have:=fw h;grind
def aM.wj{L:aM}{s:Nat}{ob:SOb}(h:L.at s=some ob):(s,some ob)∈L:=by
 induction L with
 |nil=>cases h
 |cons q L ih=>
  obtain⟨e,v⟩:=q;change (match af s e with|true=>v|false=>aM.at L s)=some ob at h;cases hb:af s e with
  |true=>simp_all
  |false=>grind
def GO{x:Nat}:∀{obs:List (Nat×SOb)},x∈obs.map (·.1)->∃q∈obs,q.1=x/\aM.at (obs.map λq=>(q.1,some q.2)) x=some q.2
 |[],h=>by grind
 |q::obs,h=>by
  show∃q'∈q::obs,q'.1=x/\(match af x q.1 with|true=>some q.2|false=>aM.at (obs.map λq=>(q.1,some q.2)) x)=some q'.2;cases hb:af x q.1 with
  |true=>simp_all
  |false=>
   rcases bh.1 h with h|h
   .simp_all
   .obtain⟨q',h1,h2,h3⟩:=GO h;grind
def jX{m:Rf}{o':SOb}{a:Nat}{ob':Ob}(hs:o'.inner a=some ob'):kH m ob' ob':=by
 cases o' with
 |fam ty ity t LL ov=>
  change (match ov.lookup a with|some _=>none|none=>(LL[a]?).map λl=>(⟨ity,t.w,(t.enc l).map .p⟩:Ob))=some ob' at hs;split at hs
  .cases hs
  .cases hL2:LL[a]? with
   |none=>grind
   |some l=>rw[hL2]at hs;cases hs;exact⟨rfl,rfl,fg _ _⟩
 |mf M=>
  change (M[a]?).map (λq=>(⟨3,1,(LT.enc .I q.2).map .p⟩:Ob))=some ob' at hs;cases hL2:M[a]? with
  |none=>rw[hL2]at hs;cases hs
  |some l=>rw[hL2]at hs;cases hs;exact⟨rfl,rfl,fg _ _⟩
 |_=>cases hs
def ES{n:Nat}{F F' upd:Frm}{L L':aM}{N0 N1 N':Nat}{obs:List (Nat×SOb)}{hav:List Nat}{ps:List Prop}{rk:List Nat}(h:wX n L N0 N1 rk upd obs F' L'=some ps)(hp:∀p∈ps,p)
  (hF:Pre (λd=>d∈hav) F F') (hbad:∀d∈hU F rk N0 F,d∈hav) (hL:dr L L'):
  cU (F'.av n) L'.fn N' ((iu F upd hav).av n) (gO L obs).fn N1:=by
 unfold wX at h;split at h
 .cases h
 rename_i p1 m1 h1;split at h
 .cases h
 rename_i p2 mm h2;split at h<;>cases h;rename_i h3 h4 h5 h6
 let mn:Nat->Option (Option Nat):=aAo rk N0 mm
 let m:Rf:=jI mn (fO rk N0)
 have hokM:∀s x,(s,x)∈mm->ji mm s=some x/\((mem rk s=true/\ncl s<N1/\∀o,x=some o->(ncl o<N0->mem rk o=true)/\∀s',(s',some o)∈mm->s'=s)\/(mem rk s=false/\ncl s<N0/\x=some s)):=by
  intro s x hs;have:=dE h3 (s,x) hs;dsimp only at this;split at this
  .rename_i e1 e2;refine⟨?_,.inl ⟨e2,?_⟩⟩
   .unfold isO at e1;split at e1
    .rename_i heq;rw[heq,Ay e1]
    .cases e1
   .split at this
    .simp_all
    .rename_i o e3;refine⟨(dU _ _).1 e3,λo' ho=> ?_⟩;cases ho;split at this
     .rename_i e4;refine⟨λhlt=> ?_,λs' hs'=> ?_⟩
      .rw[(dU _ _).2 hlt]at e4;exact e4
      .have:=dE this (s',some o) hs';rw[show eqO (some o) (some o)=true from Nat.beq_refl o]at this;simp_all
     .cases this
    .cases this
  .rename_i e1 e2;split at this
   .rename_i e3;refine⟨?_,.inr ⟨e2,?_,Ay this⟩⟩
    .unfold isO at e1;split at e1
     .rename_i heq;rw[heq,Ay e1]
     .cases e1
    .unfold fO at e3;split at e3
     .simp_all
     .cases e3
   .cases this
  .cases this
 have hstay:∀s,fO rk N0 s=true->mn s=some (some s)/\ncl s<N0/\mem rk s=false:=by
  intro s hs;have:ncl s<N0/\mem rk s=false:=by
   unfold fO at hs;split at hs
   .rename_i e1 e2;exact⟨(dU _ _).1 e1,e2⟩
   .cases hs
  refine⟨?_,this⟩;show(match ji mm s with|some x=>some x|none=>_)=_;cases hl:ji mm s with
  |some x=>
   rcases(hokM s x (EU hl)).2 with⟨e,_⟩|⟨_,_,e⟩
   .grind
   .rw[e]
  |none=>grind
 have hm:∀s x,mn s=some x->(s,x)∈mm\/(fO rk N0 s=true/\x=some s):=by
  intro s x hs;change (match ji mm s with|some x=>some x|none=>(match fO rk N0 s with|true=>some (some s)|false=>none))=some x at hs;cases hl:ji mm s with
  |some y=>rw[hl]at hs;cases hs;exact .inl (EU hl)
  |none=>
   grind
 have hag:iS m mm:=by
  intro q hq;have:=(hokM q.1 q.2 hq).1;have e:mn q.1=some q.2:=by show(match ji mm q.1 with|some x=>some x|none=>_)=_;rw[this]
  show jI mn (fO rk N0) (aD q.1)=_;rw[yQ,e];rfl
 have hst:∀s,fO rk N0 s=true->jM m s:=by
  intro s hs a;cases a with
  |zero=>show jI mn _ (aD s)=_;rw[yQ,(hstay s hs).1];rfl
  |succ a=>show jI mn _ (inn s (a+1))=_;rw[EX,hs]
 have hcase:∀s x,m s=some x->(∃y z,s=aD y/\mn y=some z/\x=z.map aD)\/(∃y a,s=inn y (a+1)/\fO rk N0 y=true/\x=some s):=by
  intro s x hs;rcases gT s with⟨y,rfl⟩|⟨y,a,rfl⟩|hno
  .change jI mn _ (aD y)=some x at hs;rw[yQ]at hs;cases hy:mn y with
   |none=>grind
   |some z=>grind
  .change jI mn _ (inn y (a+1))=some x at hs;rw[EX]at hs;grind
  .change jI mn _ s=some x at hs;rw[Ve _ _ hno]at hs;cases hs
 have hlt:∀s x,mn s=some x->ncl s<N1:=by
  intro s x hs;rcases hm s x hs with h|⟨h,_⟩
  .rcases(hokM s x h).2 with⟨_,e,_⟩|⟨_,e,_⟩
   .exact e
   .have:=jA h6;omega
  .have:=(hstay s h).2.1;have:=jA h6;omega
 obtain⟨⟨k,hk⟩,hobs⟩:=vX h2 (λa ha=>hp a (by grind)) hag;have hfst:∀y,(y,some y)∈mm->mem rk y=false->fO rk N0 y=true:=by
  intro y hy hr;rcases(hokM y _ hy).2 with⟨e,_⟩|⟨_,e,_⟩
  .grind
  .unfold fO;rw[(dU _ _).2 e,hr]
 have hag1:iS m m1:=λq hq=>hag q (by grind);have hupd:=Fu h1 (λa ha=>hp a (by grind)) hag1;have h6':=jA h6;refine sJ m ?_ ?_ (by rw[Frm.dv,Frm.dv]) ?_ ?_
 .intro s x hs;rcases hcase s x hs with⟨y,z,rfl,h,_⟩|⟨y,a,rfl,h,_⟩
  .rw[show cls (aD y)=ncl y from cL y 0];grind
  .rw[cL];grind
 .intro s s' o hs hs';have inj:∀s s' o,mn s=some (some o)->mn s'=some (some o)->s=s':=by
   intro s s' o hs hs';rcases hm s (some o) hs with h|⟨h,e⟩
   .rcases(hokM s _ h).2 with⟨e1,e2,e3⟩|⟨e1,e2,e3⟩
    .grind
    .rcases hm s' (some o) hs' with h'|⟨h',e'⟩
     .grind
     grind
   .rcases hm s' (some o) hs' with h'|⟨h',e'⟩
    .grind
    grind
  rcases hcase s _ hs with⟨y,z,rfl,h,e⟩|⟨y,a,rfl,h,e⟩
  .rcases hcase s' _ hs' with⟨y',z',rfl,h',e'⟩|⟨y',a',rfl,h',e'⟩
   .cases z with
    |none=>cases e
    |some z=>
     cases z' with
     |none=>cases e'
     |some z'=>
      have e:=fx e;have e':=fx e';have:z=z':=eD (e.symm.trans e');grind
   .cases z with
    |none=>cases e
    |some z=>
     have e:=fx e;have e':=fx e';have:=(cI (e.symm.trans e')).2;omega
  .rcases hcase s' _ hs' with⟨y',z',rfl,h',e'⟩|⟨y',a',rfl,h',e'⟩
   .cases z' with
    |none=>cases e'
    |some z'=>
     have e:=fx e;have e':=fx e';have:=(cI (e'.symm.trans e)).2;omega
   grind
 .intro t ht;rw[Frm.dv]at ht;rw[Frm.fU ht,Frm.fU ht];unfold iu;rw[Frm.lQ,Frm.lQ];split
  .split
   .rename_i hu;exact(hupd _ (wj hu)).1
   .rw[JL];split
    .trivial
    grind
  .rename_i hin;have hh:t∉hav:=by grind
   have hgood:=XM (λhb=>hh (hbad t hb));obtain⟨pre,e,hpre⟩:=hF;have:Frm.at F' t=Frm.at F t:=by rw[e,Frm.lQ,if_neg];intro h;simp only[cC]at h;obtain⟨q,hq,e⟩:=h;grind
   rw[this];exact rc _ λs hs=>hst s (dE hgood s hs)
 .intro s ob' hs;have kept:∀x o',x∉(obs.map λq=>(q.1,some q.2)).map (·.1)->(gO L obs).at x=some o'->fO rk N0 x=true/\co (fO rk N0) o'.sites=true/\L'.at x=some o':=by
   intro x o' hnk ho;unfold gO at ho;rw[aM.lQ,if_neg hnk]at ho;have hnk':mem (tW obs) x=false:=by
    cases hb:mem (tW obs) x with
    |false=>rfl
    |true=>
     exfalso;have:=(mem_iff _ _).1 hb;unfold tW at this;grind
   have:=dE h5 _ (aM.wj ho);dsimp only at this;rw[hnk',ho]at this;dsimp only at this;split at this
   .rename_i hst;refine⟨hst,this,?_⟩;obtain⟨pre,e⟩:=hL;rw[e,aM.lQ,if_neg,ho];intro hin;have h4':=h4;rw[e]at h4';rw[show(pre++L).length-L.length=pre.length by simp,uV]at h4';simp only[cC]at hin;obtain⟨q,hq,e2⟩:=hin;have:=dE h4' q hq;rw[e2,hnk']at this;rw[(dU _ _).2 (hstay x hst).2.1]at this;cases this
   .cases this
  have told:∀x,x∈(obs.map λq=>(q.1,some q.2)).map (·.1)->∃q∈obs,q.1=x/\(gO L obs).at x=some q.2:=by
   intro x hk;have e:(gO L obs).at x=aM.at (obs.map λq=>(q.1,some q.2)) x:=by unfold gO;rw[aM.lQ,if_pos hk]
   rw[e];exact GO (by grind)
  rcases gT s with⟨x,rfl⟩|⟨x,a,rfl⟩|hno
  .change Sg.a (gO L obs).at (aD x)=some ob' at hs;rw[Sg.bZ]at hs;by_cases hk:x∈(obs.map λq=>(q.1,some q.2)).map (·.1)
   .obtain⟨q,hq,rfl,ho⟩:=told x hk;rw[ho]at hs;cases hs;rcases hobs q hq with⟨_,⟨y,ob,g1,g2,g3⟩|⟨g1,g2,g3⟩⟩|⟨g1,g2,g3,g4⟩
    .rw[g1];exact⟨ob.ob y,by show Sg.a L'.at (aD y)=_;rw[Sg.bZ,g2];rfl,g3⟩
    .grind
    .have hq':=hfst q.1 g1 g2;rw[show m (aD q.1)=some (some (aD q.1))from hst q.1 hq' 0];exact⟨q.2.ob q.1,by show Sg.a L'.at (aD q.1)=_;rw[Sg.bZ,g3];rfl,j7 _ q.1 (hst q.1 hq') (by grind)⟩
   .cases ho:(gO L obs).at x with
    |none=>grind
    |some o'=>
     rw[ho]at hs;cases hs;obtain⟨k1,k2,k3⟩:=kept x o' hk ho;rw[show m (aD x)=some (some (aD x))from hst x k1 0];exact⟨o'.ob x,by show Sg.a L'.at (aD x)=_;rw[Sg.bZ,k3];rfl,j7 _ x (hst x k1) λs hs=>hst s (dE k2 s hs)⟩
  .change Sg.a (gO L obs).at (inn x (a+1))=some ob' at hs;rw[Sg.cq]at hs;by_cases hk:x∈(obs.map λq=>(q.1,some q.2)).map (·.1)
   .obtain⟨q,hq,rfl,ho⟩:=told x hk;rw[ho]at hs;rcases hobs q hq with⟨hfl,_⟩|⟨g1,g2,g3,g4⟩
    .have:=SOb.yT hfl a;grind
    .have hq':=hfst q.1 g1 g2;rw[show m (inn q.1 (a+1))=some (some (inn q.1 (a+1)))from hst q.1 hq' (a+1)];exact⟨ob',by show Sg.a L'.at (inn q.1 (a+1))=_;rw[Sg.cq,g3];exact hs,jX hs⟩
   .cases ho:(gO L obs).at x with
    |none=>grind
    |some o'=>
     rw[ho]at hs;obtain⟨k1,k2,k3⟩:=kept x o' hk ho;rw[show m (inn x (a+1))=some (some (inn x (a+1)))from hst x k1 (a+1)];exact⟨ob',by show Sg.a L'.at (inn x (a+1))=_;rw[Sg.cq,k3];exact hs,jX hs⟩
  .change Sg.a (gO L obs).at s=some ob' at hs;rw[Sg.fp _ hno]at hs;cases hs
end
noncomputable section
def lw(N x s z:Nat):Bool:=match dB (ncl z) N,af z s,af z x with
 |true,false,false=>true
 |_,_,_=>false
def tF(N x s:Nat)(v:SV):Bool:=match v with
 | .owF y _=>(match dB (ncl y) N,af y s with|true,false=>true|_,_=>false)
 |v=>co (lw N x s) v.sites
def f9(N x s:Nat)(v:SV):Bool:=match v with
 | .agg l=>co (tF N x s) l
 |v=>tF N x s v
def iQ(N x s y:Nat)(ob:SOb):Bool:=match lw N x s y with
 |true=>(match ob with
  | .box _ cs=>co (f9 N x s) cs
  | .arr _ _ cs=>co (f9 N x s) cs
  | .row .. =>true
  | .mp _=>true
  | .mf _=>true
  | .it _ _=>true
  | .fam _ _ _ _ ov=>co (λq:Nat×SV=>f9 N x s q.2) ov)
 |false=>false
open Classical in
def eK(N x a s:Nat):Rf:=λt=>if cls t<N then(if t=inn x (a+1)then some (some (aD s))else if t=aD s then none else some (some t))else none
def kc{N x s z:Nat}(h:lw N x s z=true):ncl z<N/\z≠s/\z≠x:=by
 unfold lw at h;split at h
 .rename_i h1 h2 h3;exact⟨(dU _ _).1 h1,fw h2,fw h3⟩
 .cases h
def Ev{N x a s t:Nat}(h1:cls t<N)(h2:t≠inn x (a+1))(h3:t≠aD s):eK N x a s t=some (some t):=by unfold eK;grind
def j9{N x a s z:Nat}(h1:ncl z<N)(h2:z≠s):eK N x a s (aD z)=some (some (aD z)):=
 Ev (by rw[show cls (aD z)=ncl z from cL z 0];exact h1) (λe=>by have:=(cI e).2;omega) (λe=>h2 (eD e))
def kZ{N x a s z b:Nat}(h1:ncl z<N)(h2:z=x->b≠a):eK N x a s (inn z (b+1))=some (some (inn z (b+1))):=
 Ev (by rw[cL];exact h1) (λe=>h2 (cI e).1 (by have:=(cI e).2;omega)) (λe=>by have:=(cI e).2;omega)
def pV{N x a s z:Nat}(h:lw N x s z=true):jM (eK N x a s) z:=by
 obtain⟨h1,h2,h3⟩:=kc h;intro b;cases b with
 |zero=>exact j9 h1 h2
 |succ b=>exact kZ h1 (by grind)
def D4{N x a s:Nat}{v:SV}(h:tF N x s v=true):dh (eK N x a s) v.av v.av:=by
 unfold tF at h;split at h
 .rename_i y n;split at h
  .rename_i h1 h2;exact .inl ⟨_,j9 ((dU _ _).1 h1) (fw h2),rfl⟩
  .cases h
 .exact rc v λz hz=>pV (dE h z hz)
def Dd{N x a s:Nat}:∀{cs:List SV},(∀v∈cs,tF N x s v=true)->dG (eK N x a s) (avs cs) (avs cs)
 |[],_=>by rfl
 |v::cs,h=>by
  exact⟨_,_,rfl,D4 (by grind),Dd (by grind)⟩
def oA{N x a s:Nat}{v:SV}(h:f9 N x s v=true):dh (eK N x a s) v.av v.av:=by
 unfold f9 at h;split at h
 .exact u6 (Dd (dE h))
 .exact D4 h
def rX{N x a s:Nat}:∀{cs:List SV},(∀v∈cs,f9 N x s v=true)->dG (eK N x a s) (avs cs) (avs cs)
 |[],_=>by rfl
 |v::cs,h=>by
  exact⟨_,_,rfl,oA (by grind),rX (by grind)⟩
def ms(F:Frm)(t:Nat):∀hav:List Nat,Frm.at ((hav.map λd=>(d,SV.any))++F) t=SV.any\/(t∉hav/\Frm.at ((hav.map λd=>(d,SV.any))++F) t=F.at t)
 |[] =>by grind
 |d::hav=>by
  rw[cO,mF,Frm.cW];by_cases h:t=d
  .grind
  .rw[if_neg h];rcases ms F t hav with h1|⟨h1,h2⟩
   .exact .inl h1
   grind
def ui{a i:Nat}(h:i≠a):∀ov:List (Nat×SV),(ov.filter λq=> !(af q.1 a)).lookup i=ov.lookup i
 |[] =>rfl
 |q::ov=>by
  rw[uS,dD];cases hq:af q.1 a with
  |true=>
   have:=bm hq;rw[if_neg (by simp),ui h ov,beq_eq_false_iff_ne.2 (by omega)]
  |false=>
   rw[if_pos (by simp),dD,ui h ov]
def uh{a:Nat}:∀ov:List (Nat×SV),(ov.filter λq=> !(af q.1 a)).lookup a=none
 |[] =>rfl
 |q::ov=>by
  rw[uS];cases hq:af q.1 a with
  |true=>exact uh ov
  |false=>rw[if_pos (by simp),dD,beq_eq_false_iff_ne.2 (λe=>fw hq e.symm)];exact uh ov
def TC{n N0 N x a s k:Nat}{F:Frm}{L:aM}{ty ity:TypeId}{lt:LT}{M:List (List lt.ty)}{l:List lt.ty}{ov:List (Nat×SV)}{hav:List Nat}
  (hx:L.at x=some (.fam ty ity lt M ((a,.own s lt k)::ov))) (hs:L.at s=some (.row ity lt l)) (ha:a<M.length) (hk:k=l.length) (hxN:ncl x<N)
  (hov:∀q∈ov,q.1≠a->f9 N x s q.2=true) (hF:∀t,t<n->t∈hav\/f9 N x s (F.at t)=true) (hL:∀y ob,L.at y=some ob->y=x\/y=s\/iQ N x s y ob=true):
  cU (F.av n) L.fn N0 (Frm.av n ((hav.map λd=>(d,SV.any))++F)) (aM.fn ((x,some (.fam ty ity lt (M.set a l) (ov.filter λq=> !(af q.1 a))))::(s,none)::L)) N:=by
 have hxs:x≠s:=λe=>by grind
 refine sJ (eK N x a s) ?_ ?_ (by rw[Frm.dv,Frm.dv]) ?_ ?_
 .intro t y ht;unfold eK at ht;grind
 .intro t t' o ht ht';unfold eK at ht ht';grind
 .intro t ht;rw[Frm.dv]at ht;rw[Frm.fU ht,Frm.fU ht];rcases ms F t hav with h|⟨h1,h2⟩
  .rw[h];trivial
  .rw[h2];exact oA (by grind)
 .intro t ob' ht;have hat:∀y,aM.at ((x,some (.fam ty ity lt (M.set a l) (ov.filter λq=> !(af q.1 a))))::(s,none)::L) y=if y=x then some (.fam ty ity lt (M.set a l) (ov.filter λq=> !(af q.1 a)))else if y=s then none else L.at y:=by
   intro y;show(match af y x with|true=>_|false=>(match af y s with|true=>_|false=>_))=_;cases h1:af y x with
   |true=>simp_all
   |false=>
    rw[if_neg (fw h1)];cases h2:af y s with
    |true=>simp_all
    |false=>rw[if_neg (fw h2)]
  have hset:∀i,i≠a->(M.set a l).getD i [] =M.getD i [] :=by grind
  have hseta:(M.set a l).getD a [] =l:=by rw[b9,List.getElem?_set_self ha];rfl
  have hcons:∀i,i≠a->cH i ((a,SV.own s lt k)::ov)=ov.lookup i:=by grind
  rcases gT t with⟨y,rfl⟩|⟨y,b,rfl⟩|hno
  .change Sg.a _ (aD y)=some ob' at ht;rw[Sg.bZ,hat y]at ht;by_cases hyx:y=x
   .subst hyx;rw[if_pos rfl]at ht;have ht:=fx ht;rw[j9 hxN hxs];refine⟨_,by show Sg.a L.at (aD y)=_;rw[Sg.bZ,hx];rfl,?_⟩;rw[<-ht];refine⟨rfl,rfl,?_⟩;show dG _ ((bN (M.set a l).length).map (cj y (M.set a l) (ov.filter λq=> !(af q.1 a)))) ((bN M.length).map (cj y M ((a,.own s lt k)::ov)));rw[fB];refine mT _ _ _ λi _=> ?_;unfold cj;by_cases hi:i=a
    .subst hi;rw[uh,dD,beq_iff_eq.2 rfl,hseta];show dh _ (.own (inn y (i+1)) 0 l.length) (.own (aD s) 0 k);refine .inl ⟨aD s,?_,by rw[hk]⟩;unfold eK;rw[if_pos (by rw[cL];exact hxN),if_pos rfl]
    .rw[ui hi,hcons i hi,hset i hi];cases ho:ov.lookup i with
     |some v=>exact oA (hov (i,v) (vA ho) hi)
     |none=>
      exact .inl ⟨_,kZ hxN λ_=>hi,rfl⟩
   .rw[if_neg hyx]at ht;by_cases hys:y=s
    .grind
    .rw[if_neg hys]at ht;cases ho:L.at y with
     |none=>grind
     |some ob=>
      rw[ho]at ht;have ht:=fx ht;have hk':=((hL y ob ho).resolve_left hyx).resolve_left hys;unfold iQ at hk';split at hk'
      case h_2=>cases hk'
      rename_i hz;rw[j9 (kc hz).1 hys];refine⟨_,by show Sg.a L.at (aD y)=_;rw[Sg.bZ,ho];rfl,?_⟩;rw[<-ht];split at hk'
      .exact⟨rfl,rfl,rX (dE hk')⟩
      .exact⟨rfl,rfl,rX (dE hk')⟩
      .exact⟨rfl,rfl,fg _ _⟩
      .refine⟨rfl,rfl,?_⟩;show dG _ (bu (fH _)) (bu (fH _));rw[n8];exact fg _ _
      .exact j7 (.mf _) y (pV hz) (λs hs=>(dP hs).elim)
      .exact j7 (.it _ _) y (pV hz) (λs hs=>(dP hs).elim)
      .refine⟨rfl,rfl,mT _ _ _ λi _=> ?_⟩;unfold cj;split
       .rename_i v hv;exact oA (dE hk' (i,v) (vA hv))
       .exact .inl ⟨_,kZ (kc hz).1 (by grind),rfl⟩
  .change Sg.a _ (inn y (b+1))=some ob' at ht;rw[Sg.cq,hat y]at ht;by_cases hyx:y=x
   .subst hyx;rw[if_pos rfl]at ht;change (match cH b (ov.filter λq=> !(af q.1 a))with|some _=>none|none=>((M.set a l)[b]?).map λl=>(⟨ity,lt.w,(lt.enc l).map .p⟩:Ob))=some ob' at ht;by_cases hb:b=a
    .subst hb;rw[uh,List.getElem?_set_self ha]at ht;have ht:=fx ht;have hm:eK N y b s (inn y (b+1))=some (some (aD s)):=by unfold eK;rw[if_pos (by rw[cL];exact hxN),if_pos rfl]
     rw[hm];refine⟨_,by show Sg.a L.at (aD s)=_;rw[Sg.bZ,hs];rfl,?_⟩;rw[<-ht];exact⟨rfl,rfl,fg _ _⟩
    .rw[ui hb,List.getElem?_set_ne (Ne.symm hb)]at ht;rw[kZ hxN λ_=>hb];refine⟨ob',?_,?_⟩
     .show Sg.a L.at (inn y (b+1))=_;rw[Sg.cq,hx];show(match cH b ((a,SV.own s lt k)::ov)with|some _=>none|none=>(M[b]?).map λl=>(⟨ity,lt.w,(lt.enc l).map .p⟩:Ob))=_;grind
     .split at ht
      .cases ht
      .cases hM:M[b]? with
       |none=>grind
       |some l'=>
        rw[hM]at ht;rw[<-fx ht];exact⟨rfl,rfl,fg _ _⟩
   .rw[if_neg hyx]at ht;by_cases hys:y=s
    .grind
    .rw[if_neg hys]at ht;cases ho:L.at y with
     |none=>grind
     |some ob=>
      have hk':=((hL y ob ho).resolve_left hyx).resolve_left hys;unfold iQ at hk';split at hk'
      case h_2=>cases hk'
      rename_i hz;rw[kZ (kc hz).1 (by grind)];rw[ho]at ht;refine⟨ob',by show Sg.a L.at (inn y (b+1))=_;rw[Sg.cq,ho];exact ht,?_⟩;exact jX (o':=ob) ht
  .change Sg.a _ t=some ob' at ht;rw[Sg.fp _ hno]at ht;cases ht
def Df{a:Nat}:∀{ov:List (Nat×SV)},(∀p∈iv ov a,p)->(ov.filter λq=> !(af q.1 a))=ov
 |[],_=>rfl
 |q::ov,h=>by
  have h1:a≠q.1:=h _ eC;have h2:af q.1 a=false:=by
   cases hb:af q.1 a with
   |true=>simp_all
   |false=>rfl
  rw[uS,if_pos (by rw[h2];rfl),Df λp hp=>h p (dR _ hp)]
def qw(N x s:Nat)(F:Frm):Frm->List Nat
 |[] =>[]
 |(d,_)::r=>match f9 N x s (F.at d)with
  |true=>qw N x s F r
  |false=>d::qw N x s F r
def zb{N x s t:Nat}{F:Frm}:∀{G:Frm},t∈G.map (·.1)->t∈qw N x s F G\/f9 N x s (F.at t)=true
 |[],h=>by grind
 |(d,v)::G,h=>by
  unfold qw;cases hk:f9 N x s (F.at d)with
  |true=>
   rcases bh.1 h with h|h
   .grind
   .exact zb h
  |false=>
   rcases bh.1 h with h|h
   .grind
   .rcases zb (G:=G) h with h|h
    .exact .inl (dR _ h)
    grind
def JH{t:Nat}:∀{G:Frm},t∉G.map (·.1)->G.at t=Frm.at [] t
 |[],_=>rfl
 |(d,v)::G,h=>by
  rw[Frm.cW,if_neg (by grind),JH (by grind)]
def sK(N x:Nat)(F:Frm)(L:aM):Option (List Prop×Frm×aM):=match L.at x with
 |some (.fam ty ity lt M ((a,.own s lt' k)::ov))=>(match L.at s with
  |some (.row ity' lt2 l)=>(match decEq lt' lt,decEq lt2 lt,af ity' ity,dB (ncl x) N,co (λq:Nat×SV=>f9 N x s q.2) ov,co (λq:Nat×Option SOb=>match af q.1 x,af q.1 s,L.at q.1 with|false,false,some ob=>iQ N x s q.1 ob|_,_,_=>true) L with
   | .isTrue _,.isTrue h,true,true,true,true=>some ((a<M.length)::(k=l.length)::iv ov a,((qw N x s F F).map λd=>(d,SV.any))++F,(x,some (.fam ty ity lt (M.set a (h▸l:List lt.ty)) ov))::(s,none)::L)
   |_,_,_,_,_,_=>none)
  |_=>none)
 |_=>none
def JI{y:Nat}{ob:SOb}:∀{L:aM},L.at y=some ob->∃q∈L,q.1=y
 |[],h=>by cases h
 |(k,o)::L,h=>by
  cases hb:af y k with
  |true=>simp_all
  |false=>
   have:aM.at L y=some ob:=by change (match af y k with|true=>o|false=>aM.at L y)=some ob at h;rw[hb]at h;exact h
   obtain⟨q,h1,h2⟩:=JI this;grind
def RX{n N0 N x:Nat}{F F':Frm}{L L':aM}{ps:List Prop}(h:sK N x F L=some (ps,F',L'))(hp:∀p∈ps,p):cU (F.av n) L.fn N0 (F'.av n) L'.fn N:=by
 unfold sK at h;split at h
 case h_2=>cases h
 rename_i ty ity lt M a s lt' k ov hx;split at h
 case h_2=>cases h
 rename_i ity' lt2 l hs;split at h
 case h_2=>cases h
 rename_i e1 e2 _ _ hi hN hov hL;subst e1;subst e2;cases h;have hi:=bm hi;subst hi;have hne:∀p∈iv ov a,p:=by grind
 have:=TC (n:=n) (N0:=N0) (N:=N) (F:=F) (hav:=qw N x s F F) hx hs (hp _ (by grind)) (hp _ (by grind)) ((dU _ _).1 hN) (λq hq _=>dE hov q hq) (λt _=> ?_) (λy ob ho=> ?_)
 .rw[Df hne]at this;exact this
 .by_cases hm:t∈F.map (·.1)
  .exact zb hm
  .right;rw[JH hm];rfl
 .obtain⟨q,hq,rfl⟩:=JI ho;have:=dE hL q hq;split at this
  .grind
  .by_cases hx':q.1=x
   .omega
   .by_cases hs':q.1=s
    .omega
    .have b1:af q.1 x=false:=by
      cases hb:af q.1 x with
      |true=>exact absurd (bm hb) hx'
      |false=>rfl
     have b2:af q.1 s=false:=by
      cases hb:af q.1 s with
      |true=>exact absurd (bm hb) hs'
      |false=>rfl
     grind
def oi(N:Nat):Nat->List Nat->Frm->aM->List Prop×Frm×aM
 |0,_,F,L=>([],F,L)
 |_+1,[],F,L=>([],F,L)
 |f+1,x::xs,F,L=>match sK N x F L with
  |some (ps,F',L')=>(match oi N f (x::xs) F' L' with|(qs,r)=>(ps++qs,r))
  |none=>oi N f xs F L
def yJ{n N:Nat}:∀{f:Nat} {xs:List Nat} {F F':Frm} {L L':aM} {ps:List Prop},oi N f xs F L=(ps,F',L')->(∀p∈ps,p)->∀N0,(ps=[]/\F'=F/\L'=L)\/cU (F.av n) L.fn N0 (F'.av n) L'.fn N
 |0,xs,F,F',L,L',ps,h,_,_=>by cases h;grind
 |f+1,[],F,F',L,L',ps,h,_,_=>by cases h;grind
 |f+1,x::xs,F,F',L,L',ps,h,hp,N0=>by
  unfold oi at h;split at h
  .rename_i p1 F1 L1 h1;split at h;rename_i qs r h2;cases h;have w1:=RX (n:=n) (N0:=N0) h1 λp hq=>hp p (by grind);rcases yJ (n:=n) h2 (λp hq=>hp p (by grind)) N with⟨_,rfl,rfl⟩|w2
   .exact .inr w1
   .exact .inr λC0 B wI a w hst=>w2 C0 B wI a w (w1 C0 B wI a w hst)
  .exact yJ h hp N0
def Rs{N x:Nat}{F F':Frm}{L L':aM}{ps:List Prop}(h:sK N x F L=some (ps,F',L')):(∃p,F'=p++F)/\∃q,L'=q++L:=by
 unfold sK at h;split at h
 case h_2=>cases h
 split at h
 case h_2=>cases h
 split at h
 case h_2=>cases h
 cases h;exact⟨⟨_,rfl⟩,⟨[(_,_),(_,_)],rfl⟩⟩
def yX{N:Nat}:∀{f:Nat} {xs:List Nat} {F F':Frm} {L L':aM} {ps:List Prop},oi N f xs F L=(ps,F',L')->(∃p,F'=p++F)/\∃q,L'=q++L
 |0,xs,F,F',L,L',ps,h=>by cases h;simp_all
 |f+1,[],F,F',L,L',ps,h=>by cases h;simp_all
 |f+1,x::xs,F,F',L,L',ps,h=>by
  unfold oi at h;split at h
  .rename_i p1 F1 L1 h1;split at h;rename_i qs r h2;obtain⟨⟨p,e1⟩,⟨q,e2⟩⟩:=Rs h1;obtain⟨⟨p',e3⟩,⟨q',e4⟩⟩:=yX h2;grind
  .exact yX h
def Av:aM->List Nat
 |[] =>[]
 |(k,some (.fam ..))::L=>k::Av L
 |_::L=>Av L
end
def frS(s:Nat)(cells:List PV)(x' y:AV):Prop:=x'= .any\/x'=y\/∃n k,y= .own s 0 n/\x'= .p (.sl n (cells.take k))
def frO(s:Nat)(cells:List PV)(o:Option Ob)(ob:Ob):Prop:=o=some ob\/∃ob0,o=some ob0/\ob.ty=ob0.ty/\ob.esz=ob0.esz/\¬(ob.esz=0/\ob.ty<=2)/\ob.cells.length=ob0.cells.length/\
 ∀(i:Nat) x,ob.cells[i]? =some x->∃y,ob0.cells[i]? =some y/\frS s cells x y
def frO.get{s:Nat}{cells:List PV}{o:Option Ob}{ob:Ob}(h:frO s cells o ob):∃ob0,o=some ob0/\ob.ty=ob0.ty/\ob.esz=ob0.esz:=by
 rcases h with h|⟨ob0,h1,h2,h3,_⟩
 .grind
 grind
def yA{F F':List AV}{L L':Sto}{N:Nat}{ty esz:Nat}(s:Nat)(cells:List PV)(hs:L s=some ⟨ty,esz,cells.map .p⟩)(hz:esz≠0)(hl:F'.length=F.length)
  (hF:∀t,t<F.length->frS s cells (F'.getD t .any) (F.getD t .any)) (hL:∀k ob,L' k=some ob->k≠s/\frO s cells (L k) ob):cU F L N F' L' N:=by
 intro C0 B wI a w ⟨⟨ρ,s1,s2,s3⟩,s4,s5,s6,s7⟩;have hdead:∀k,L k=none->L' k=none:=by
  intro k hk;cases h:L' k with
  |none=>rfl
  |some ob=>obtain⟨ob0,h0,_⟩:=(hL k ob h).2.get;grind
 have hmono:∀b o v,ak C0 B w ρ L b o v->ak C0 B w ρ L' b o v:=λb o v ⟨e1,e2,e3⟩=>⟨e1,λk c h=>hdead k (e2 k c h),e3⟩;have hone:∀x' y v,frS s cells x' y->aR ρ (ak C0 B w ρ L) y v->aR ρ (ak C0 B w ρ L') x' v:=by
  rintro x' y v (rfl|rfl|⟨n,kt,rfl,rfl⟩) hv
  .unfold aR;trivial
  .exact aR.mono (λ_ _ h=>h) hmono _ v hv
  .unfold aR at hv|-;obtain⟨q,c,hρ,hcase⟩:=hv;obtain⟨q2,c2,hρ2,hob⟩:=s1.ob s _ hs;rw[hρ]at hρ2;cases hρ2;unfold a8;rcases hcase with⟨h1,h4,h5,_⟩|⟨b,o',c',h1,h4,h5,h6,h7⟩
   .subst h5;rcases hob with⟨_,⟨_,h8,_⟩|⟨h8,_⟩⟩|⟨b,arr,h8,_⟩
    .exact⟨none,0,h4,bD _,λ_=>⟨rfl,by simp_all⟩,λad e=>by cases e⟩
    .grind
    grind
   .obtain⟨rfl,rfl⟩:=h7 rfl;rcases hob with⟨h8,_⟩|⟨b2,arr,h8,h9,h10⟩
    .grind
    .rw[h1]at h8;cases h8;refine⟨_,c',h4,h5,(λe=>by cases e),λad e=> ?_⟩;cases e;refine⟨λ_=>rfl,cc.take (cc.of _ _ _ λi x hi=> ?_) kt⟩;obtain⟨u,k1,k2,k3⟩:=h10.cells i (.p x) (by grind);unfold aR at k3;refine⟨u,⟨by rw[gR,h10.cell];exact k1,λk c2 hk=> ?_,.inl h9⟩,k2,a8.mono hmono x u k3⟩;cases h:L' k with
     |none=>rfl
     |some ob=>
      obtain⟨hne,h2⟩:=hL k ob h;obtain⟨ob0,h2,_⟩:=h2.get;exact absurd (s1.inj k s ob0 _ b c2 c' h2 hs hk (by rw[hρ,h1])) hne
 refine⟨⟨ρ,⟨?_,?_,?_⟩,s2,?_⟩,s4,s5,by rw[s6,hl],s7⟩
 .intro k ob hk;obtain⟨hne,h2|⟨ob0,h2,g1,g2,g3,g4,g5⟩⟩:=hL k ob hk
  .obtain⟨q,c,hρ,hcase⟩:=s1.ob k ob h2;refine⟨q,c,hρ,?_⟩;rcases hcase with⟨g1,g2⟩|⟨b,arr,g1,g2,g3⟩
   .refine .inl ⟨g1,?_⟩;rcases g2 with g2|⟨g2,g3⟩
    .exact .inl g2
    .exact .inr ⟨g2,g3.mono (λ_ _ h=>h) hmono λ_ _ _ _=>rfl⟩
   .refine .inr ⟨b,arr,g1,g2,⟨g3.blk,g3.box,g3.row,λi x hi=> ?_⟩⟩;obtain⟨v,m1,m2,m3⟩:=g3.cells i x hi;exact⟨v,m1,m2,aR.mono (λ_ _ h=>h) hmono _ v m3⟩
  .obtain⟨q,c,hρ,hcase⟩:=s1.ob k ob0 h2;refine⟨q,c,hρ,?_⟩;rcases hcase with⟨k1,⟨k2,k3,k4⟩|⟨k2,k3⟩⟩|⟨b,arr,k1,k2,k3⟩
   .grind
   .exfalso;refine g3 ⟨by omega,?_⟩;rw[g1];rcases k3 with⟨k3,_⟩|⟨k3,_⟩|⟨k3,_⟩<;>(rw[k3];decide)
   .refine .inr ⟨b,arr,k1,k2,⟨by rw[g1];exact k3.blk,λh=>by rw[g4];exact k3.box (by omega),λh=>by rw[g4,g2];exact k3.row (by omega),λi x hi=> ?_⟩⟩;obtain⟨y,y1,y2⟩:=g5 i x hi;obtain⟨v,m1,m2,m3⟩:=k3.cells i y y1;grind
 .intro k k' o o' b c c' h1 h2 h3 h4;obtain⟨o1,e1,_⟩:=(hL k o h1).2.get;obtain⟨o2,e2,_⟩:=(hL k' o' h2).2.get;exact s1.inj k k' o1 o2 b c c' e1 e2 h3 h4
 .intro k k' o o' c c' h1 h2 h3 h4 h5 h6 h7;obtain⟨o1,e1,a1,a2⟩:=(hL k o h1).2.get;obtain⟨o2,e2,b1,b2⟩:=(hL k' o' h2).2.get;refine s1.mpi k k' o1 o2 c c' e1 e2 (by omega) (by omega) h5 h6 ?_;unfold mA at h7|-;grind
 .intro t;rcases jT t F.length with h|h
  .grind
  .rw[b9,d8 (by omega)];show aR _ _ .any _;unfold aR;trivial
end Go.Proofs.YtdnhebjljnfjaaaGreat
