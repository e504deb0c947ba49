/- What the statement stands on: contracts of functions, plain laws. Part 3 of 6, no condition of its own. (N10 N20 N21 N22 N23 E1 E3 N16 X1 X2 X3 X4 N24 X12 X5 X6 X7 X11 N25) -/
import Derived.Test.YtdaeofhdgabhjaaGreatCV2
import Derived.MapKept
import Derived.IntWalk
set_option linter.all false
set_option maxRecDepth 100000
set_option maxHeartbeats 8000000
open Go.World renaming block_lt_of_cell?->jh,cell?_of_block->i6
open List renaming replicate->cO,getD_eq_getElem?_getD->de,getElem?_append_left->mI,getElem?_append_right->kM,getElem?_replicate->Ci,getElem?_eq_none->lS,getElem?_eq_getElem->eZ,lookup->gh,map_nil->j6,map_cons->cT,cons_append->j7,cons.injEq->nK,all_eq_true->bZ,getElem_of_mem->jf,mem_map->bM,pairwise_cons->gX,getElem?_eq_some_iff->rK,ext_getElem?->Ce,getElem?_set->yZ,mem_append_left->gZ,mem_append_right->fY,getElem?_map->fy,flatMap_cons->fX,length_cons->gY,length_take->kP,take_left->Cj,take_append_drop->vj,take_of_length_le->gu,drop_eq_nil_of_le->SI,mem_singleton->bh,range->bP,length_map->cL,map_append->dQ,map_drop->Ck,map_take->yf,getElem?_range->IE,lookup_cons->dS,map_map->cv,mem_cons_self->cE,mem_cons_of_mem->cB,ext_getElem->rH,append_assoc->kO,mem_cons->bO,map_congr_left->iy,replicate_succ->vY,length->fW,take_length->vl,drop_zero->Cl,mem_append->bq,getElem_map->iZ,not_mem_nil->cl,isEmpty_iff->II,mem_flatMap->dI,length_set->yh
open Nat renaming le_refl->bQ,lt_or_ge->nF,decEq->om,zero_add->jg,add_mul->yd,min_eq_left->IH,mul_le_mul_right->Cf,sub_add_cancel->Hs,mod_eq_of_lt->dj,beq->bB,ne_of_beq_eq_false->lT,blt->iM,ble->mM,le_of_ble_eq_true->o5,eq_of_beq_eq_true->dM,add_assoc->rG,ne_of_gt->nL
open Array renaming replicate->nI,getD_eq_getD_getElem?->fx,getElem?_append_left->CV,getElem?_append_right->SM,getElem?_replicate->CY,mapM_eq_mapM_toList->SN,map->s8,toList_inj->ol,getElem?_setIfInBounds->vS
open Go.Sem renaming run_bind->cn,run_pure->dZ,run->fm
open Go.Result renaming andThen_ok->cp,andThen->vf
open Option renaming map_eq_some_iff->lQ,some.injEq->fZ,bind_eq_some_iff->qE,map_some->eI,bind_some->qD,some.inj->mO
open Bool renaming and_eq_true->bm
open Go.Deferred renaming ofValue->s9
open Go.Op renaming operands->cU
open Go.Call renaming operands->jI
open Go.Value renaming int->cV
open Prod renaming mk.injEq->sz
open Go.Obj renaming map->vX
open Go.Proofs.Tryz renaming prog->bD
open Go.IntKind renaming i64->ic
open Int renaming toNat_natCast->i7,le_refl->iz
open Go.RowKit
open Go.Proofs.YtdaeofhdgabhjaaGreat.Geo
open Go.Proofs.YtdaeofhdgabhjaaGreat.Geo renaming nth->aEn
namespace Go.Proofs.YtdaeofhdgabhjaaGreat
section
def iW(P:Program):List ResultVar->List AV->(Nat->Option Ob)->(List AV->Prop)->Prop
 |[],_,_,K=>K []
 | .tmp t::rs,F,σ,K=>iW P rs F σ λl=>K (F.getD t .any::l)
 | .cell a t::rs,F,σ,K=>(match F.getD a .any with
   | .ptr s off=>∃ob,σ s=some ob/\qu P t ob.cells off λr=>iW P rs F σ λl=>K (r::l)
   |_=>False)
def u7:List PV->PV
 |[x] =>x
 |m=> .tup m
def B6(tmps:Array Value):ResultVar->Sem Value
 | .tmp t=>pure (tmps.getD t Go.undef)
 | .cell a t=>do loadVar t (<-asAddr (tmps.getD a Go.undef))
def C2(fn:Func)(tmps:Array Value):results fn tmps=(do let vs<-fn.results.mapM (B6 tmps);pure (if h:vs.size=1 then vs[0]else .tuple vs)):=by
 congr 1
def HI(P:Program)(rs:List ResultVar)(r:PV):oM:=λe F L _=>match e with
 | .normal| .ret=>iW P rs F L λl=>∃m,di (dL 3 L) l=some m/\u7 m=r
 |_=>False
section
variable {P:Program} {C0:bF} {B:Nat} {wI:World}
def xC{ρ:Ren}{σ:Nat->Option Ob}{a:Act}{w:World}{F:List AV}(hs:StR C0 ρ σ w B)(hf:∀t,aR ρ (bE C0 B w ρ σ) (F.getD t .any) (a.tmps.getD t Go.undef)):
  ∀(rs:List ResultVar) (K:List AV->Prop),iW P rs F σ K->∃l vs,K l/\(rs.mapM (B6 a.tmps)).run P w= .ok vs w/\ak ρ (bE C0 B w ρ σ) l vs
 |[],K,h=>⟨[],[],h,by simp,by rfl⟩
 | .tmp t::rs,K,h=>by
   obtain⟨l,vs,h1,h2,h3⟩:=xC hs hf rs _ h;refine⟨_,_::vs,h1,?_,by exact⟨_,vs,rfl,hf t,h3⟩⟩;simp[List.mapM_cons,h2,B6]
 | .cell x t::rs,K,h=>by
   unfold iW at h;split at h
   .rename_i s off e;obtain⟨ob,hob,hl⟩:=h;obtain⟨r,hr,hv⟩:=KZ hl;obtain⟨l,vs,h1,h2,h3⟩:=xC hs hf rs _ hr;have hx:=hf x;rw[e]at hx;obtain⟨b,c,hq,hpt⟩:=hx;obtain⟨_,arr,hO⟩:=hs.at hob hq;obtain⟨v,hrun,hrep⟩:=hv _ _ w b c arr hO;have hrun':(loadVar t ⟨b,off,none⟩).run P w= .ok v w:=by simpa[Instr.loadAt,Instr.sureAddr]using hrun
    refine⟨_,v::vs,h1,?_,by unfold ak;grind⟩;simp[List.mapM_cons,h2,B6,hpt,asAddr,hrun']
   grind
def yD:Sto:=λs=>if s=sit 0 0 then some ⟨0,0,[.undef]⟩else none
def sK(L:Sto)(N:Nat):Prop:=(L=(λ_=>none)/\N=0)\/(L=yD/\N=1)
def sK.st{L:Sto}{N:Nat}(h:sK L N){C:bF}{w:World}(hC:∀b o v,C b o v->w.cell? ⟨b,o,none⟩=some v):
  ∃ρ:Ren,StR C ρ L w w.heap.size/\(∀s,N<=cls s->ρ s=none)/\∀s b c,ρ s≠some (some b,c):=by
 rcases h with⟨rfl,rfl⟩|⟨rfl,rfl⟩
 .exact⟨λ_=>none,⟨by grind,by grind,by grind⟩,λ_ _=>rfl,by grind⟩
 .have hat:∀s o,yD s=some o->s=sit 0 0/\o=⟨0,0,[.undef]⟩:=by
   intro s o h;unfold yD at h;split at h
   .grind
   .cases h
  refine⟨λs=>if s=sit 0 0 then some (none,0)else none,⟨?_,?_,?_⟩,?_,?_⟩
  .intro s o h;obtain⟨rfl,rfl⟩:=hat s o h;have hno:∀i v,¬C w.heap.size i v:=λi v hv=>absurd (jh w ⟨w.heap.size,i,none⟩ (hC _ _ _ hv)) (Nat.lt_irrefl _);exact⟨none,0,by simp,.inl ⟨rfl,.inr ⟨rfl,.inl (by grind)⟩⟩⟩
  .grind
  .grind
  .intro s hs;try dsimp only
   split
   .rename_i e;rw[e,gm]at hs;omega
   .rfl
  grind
def UR{f:FuncId}{fn:Func}{c:Code}{A:List PV}{r:PV}(hok:jX P f=true)(hf:P.funcs[f]? =some fn)(hb:fn.body=some c)
  {L0:Sto} {N0:Nat} (h0:sK L0 N0) (h:awp P c (HI P fn.results.toList r) (A.map .p++cO (fn.ntmps-A.length) .undef) L0 N0):Sat P false f A r:=by
 refine⟨hok,λC w vs hC hrep=> ?_⟩;obtain⟨ρ0,z1,z2,z3⟩:=h0.st hC;have hlen:=hrep.length;refine calls_of_wp hf hb (wp_mono (EJ (C0:=C) (B:=w.heap.size) (wI:=w) c _ _ _ _ _ _ h ?_) ?_)
 .refine⟨⟨ρ0,z1,z2,λt=> ?_⟩,bQ _,rfl,by simp[hlen],Below.refl _ _⟩;by_cases ht:t<A.length
  .have e1:(A.map AV.p++cO (fn.ntmps-A.length) AV.undef).getD t .any= .p A[t] :=by rw[de,mI (by grind)];simp[ht]
   obtain⟨v,h1,h2⟩:=hrep.get _ _ t A[t] (by grind);have e2:(vs.toArray++nI (fn.ntmps-vs.toArray.size) undef).getD t undef=v:=by rw[fx,CV (by simp;omega)];simp[h1]
   rw[e1];rw[e2];refine aU.mono (λb o x hx=>⟨hC b o x hx,by grind,.inr hx⟩) _ v h2
  .by_cases ht2:t<A.length+(fn.ntmps-A.length)
   .have e1:(A.map AV.p++cO (fn.ntmps-A.length) AV.undef).getD t .any= .undef:=by rw[de,kM (by simp;omega),Ci,if_pos (by simp;omega)];rfl
    have e2:(vs.toArray++nI (fn.ntmps-vs.toArray.size) undef).getD t undef=undef:=by rw[fx,SM (by simp;omega),CY];split<;>rfl
    rw[e1];rw[e2];rfl
   .have e1:(A.map AV.p++cO (fn.ntmps-A.length) AV.undef).getD t .any= .any:=by rw[de,lS (by simp;omega)];rfl
    rw[e1];trivial
 .rintro e a w' ⟨F,L,N,hq,⟨ρ,s1,s2,s3⟩,s4,s5,s6,s7⟩;have fin:iW P fn.results.toList F L (λl=>∃m,di (dL 3 L) l=some m/\u7 m=r)->a.defers=[]/\∃v,(results fn a.tmps).run P w'= .ok v w'/\∃v',Ending.returned v= .returned v'/\aU (λb o x=>((false:Bool)=false/\C b o x)\/(w.heap.size<=b/\w'.cell? ⟨b,o,none⟩=some x)) r v'/\Below w.heap.size w w':=by
   intro h;refine⟨s5,?_⟩;obtain⟨l,us,⟨m,hm,hr⟩,h2,h3⟩:=xC s1 s3 _ _ h;have hres:(results fn a.tmps).run P w'= .ok (if h:us.toArray.size=1 then us.toArray[0]else .tuple us.toArray) w':=by rw[C2,SN];simp only[cn,Sem.run_map,h2,cp,dZ]
   refine⟨_,hres,_,rfl,?_,s7⟩;obtain⟨g1,g2⟩:=nW hm;have hrl:af (λb o x=>((false:Bool)=false/\C b o x)\/(w.heap.size<=b/\w'.cell? ⟨b,o,none⟩=some x)) m us:=by
    refine af.of _ _ (by rw[<-g1];exact h3.length) λi y hi=> ?_;have hlt:i<l.length:=by rw[g1];grind
    obtain⟨y',h5,h6⟩:=g2 i _ (eZ hlt);rw[hi]at h5;cases h5;obtain⟨v,k1,k2⟩:=h3.get _ _ i _ (eZ hlt);refine⟨v,k1,ET s1 _ (λ_=>True) ?_ ?_ 3 _ _ v h6 (by grind) k2⟩
    .rintro b o x ⟨e1,e2,e3⟩;grind
    .grind
   rw[<-hr];cases m with
   |nil=>
    subst hrl;exact⟨[],rfl,by rfl⟩
   |cons x m=>
    cases m with
    |nil=>
     obtain⟨v,r',rfl,h7,h8⟩:=hrl;subst h8;unfold u7;grind
    |cons y m=>
     have hl:¬us.toArray.size=1:=by have:=hrl.length;simp at this;simp;omega
     unfold u7 aU;grind
  cases e<;>first|exact fin hq|exact hq.elim
end
def il:∀{l:List AV} {A:List PV},bG l=some A->l=A.map .p
 |[],A,h=>by simp[bG]at h;subst h;rfl
 |x::l,A,h=>by
  unfold bG at h;split at h
  .grind
  .rename_i y l' e;cases e;simp only[lQ]at h;obtain⟨r,h1,rfl⟩:=h;rw[il h1];rfl
  .cases h
section
variable {P:Program} {σ:Nat->Option Ob} {f:FuncId} {fr:Bool} {A:List PV} {r:PV} {avs:List AV} {K:Res}
def DE(hs:Sat P fr f A r)(hA:bG avs=some A)(hK:K (.p r) [] []):pT P σ f avs K:=by have:=il hA;subst this;refine .inl ⟨A,sH 3 σ A,fr,r,hs,.inl ⟨.inr hA,?_⟩⟩;rw[pJ];exact hK
def Im{R:List Nat}(hs:Sat P true f A r)(hA:di (dL 3 σ) avs=some A)(hR:bK (cJ 3 σ) avs=R)(hK:K (.p r) R []):pT P σ f avs K:=by subst hR;exact .inl ⟨A,hA,true,r,hs,by grind⟩
def Tt{R:List Nat}(hs:Sat P fr f A r)(hA:di (dL 3 σ) avs=some A)(hR:bK (cJ 3 σ) avs=R)(hK:K (.p r) R (R.map (·,none))):pT P σ f avs K:=by subst hR;exact .inl ⟨A,hA,fr,r,hs,.inr hK⟩
def PV.flat:PV->Bool
 | .int .. | .bool _| .str _=>true
 | .agg l| .tup l=>l.all λx=>match x with| .int .. | .bool _| .str _=>true|_=>false
 |_=>false
def aU.flat1{C C':bF}{x:PV}{v:Value}(hf:(match x with| .int .. | .bool _| .str _=>true|_=>false)=true)(h:aU C x v):aU C' x v:=by cases x<;>first|(cases hf;done)|(unfold aU at*;exact h)
def af.flat{C C':bF}:∀{l:List PV} {vs:List Value},l.all (λx=>match x with| .int .. | .bool _| .str _=>true|_=>false)=true->af C l vs->af C' l vs
 |[],vs,_,h=>by exact h
 |x::l,vs,hf,h=>by
  obtain⟨v,r,rfl,h1,h2⟩:=h;simp only[List.all_cons,bm]at hf;exact⟨v,r,rfl,aU.flat1 hf.1 h1,af.flat hf.2 h2⟩
def aU.flat{C C':bF}{x:PV}{v:Value}(hf:x.flat=true)(h:aU C x v):aU C' x v:=by
 cases x<;>first|(cases hf;done)|(unfold aU at*;exact h)|skip
 .obtain⟨vs,h1,h2,h3⟩:=h;exact⟨vs,h1,af.flat hf h2,h3⟩
 .obtain⟨vs,h1,h2⟩:=h;exact⟨vs,h1,af.flat hf h2⟩
def Sat.fresh(hs:Sat P fr f A r)(hf:r.flat=true):Sat P true f A r:=
 ⟨hs.1,λC w vs hC hr=>(hs.2 C w vs hC hr).mono λ_e _w' ⟨v,h1,h2,h3⟩=>⟨v,h1,aU.flat hf h2,h3⟩⟩
end
def HJ(P:Program)(rs:List ResultVar)(ty esz:Nat)(cells:List PV)(m:Nat)(ys:List PV):oM:=λe F L _=>match e with
 | .normal| .ret=>iW P rs F L λl=>(∃s,l= .own s 0 m::ys.map .p/\L s=some ⟨ty,esz,cells.map .p⟩)\/(l= .nil::ys.map .p/\m=0/\cells=[])
 |_=>False
section
variable {P:Program} {C0:bF} {B:Nat} {wI:World}
def ak.Eg{ρ:Ren}{C:bF}:∀{l:List PV} {vs:List Value},ak ρ C (l.map .p) vs->af C l vs
 |[],vs,h=>by exact h
 |x::l,vs,h=>by
  obtain⟨v,r,rfl,h2,h3⟩:=h;exact⟨v,r,rfl,h2,ak.Eg h3⟩
def J9{f:FuncId}{fn:Func}{c:Code}{A:List PV}{Q:oM}{C:bF}{w:World}{vs:List Value}{R:Ending->World->Prop}(hf:P.funcs[f]? =some fn)(hb:fn.body=some c)(hC:∀b o v,C b o v->w.cell? ⟨b,o,none⟩=some v)(hrep:af C A vs)
  {L0:Sto} {N0:Nat} (h0:sK L0 N0) (h:awp P c Q (A.map .p++cO (fn.ntmps-A.length) .undef) L0 N0)
  (hR:∀e a w' F L N,Q e F L N->St C w.heap.size w F L N a w'->(match e with| .normal| .ret=>a.defers=[]/\∃v,(results fn a.tmps).run P w'= .ok v w'/\R (.returned v) w'|_=>False)):Calls P f vs.toArray w R:=by
 obtain⟨ρ0,z1,z2,z3⟩:=h0.st hC;have hlen:=hrep.length;refine calls_of_wp hf hb (wp_mono (EJ (C0:=C) (B:=w.heap.size) (wI:=w) c _ _ _ _ _ _ h ?_) ?_)
 .refine⟨⟨ρ0,z1,z2,λt=> ?_⟩,bQ _,rfl,by simp[hlen],Below.refl _ _⟩;by_cases ht:t<A.length
  .have e1:(A.map AV.p++cO (fn.ntmps-A.length) AV.undef).getD t .any= .p A[t] :=by rw[de,mI (by grind)];simp[ht]
   obtain⟨v,h1,h2⟩:=hrep.get _ _ t A[t] (by grind);have e2:(vs.toArray++nI (fn.ntmps-vs.toArray.size) undef).getD t undef=v:=by rw[fx,CV (by simp;omega)];simp[h1]
   rw[e1];rw[e2];refine aU.mono (λb o x hx=>⟨hC b o x hx,by grind,.inr hx⟩) _ v h2
  .by_cases ht2:t<A.length+(fn.ntmps-A.length)
   .have e1:(A.map AV.p++cO (fn.ntmps-A.length) AV.undef).getD t .any= .undef:=by rw[de,kM (by simp;omega),Ci,if_pos (by simp;omega)];rfl
    have e2:(vs.toArray++nI (fn.ntmps-vs.toArray.size) undef).getD t undef=undef:=by rw[fx,SM (by simp;omega),CY];split<;>rfl
    rw[e1];rw[e2];rfl
   .have e1:(A.map AV.p++cO (fn.ntmps-A.length) AV.undef).getD t .any= .any:=by rw[de,lS (by simp;omega)];rfl
    rw[e1];trivial
 .rintro e a w' ⟨F,L,N,hq,hS⟩;have:=hR e a w' F L N hq hS;cases e<;>first|exact this|exact this.elim
def Tc{f:FuncId}{fn:Func}{c:Code}{A:List PV}{ty esz:Nat}{cells:List PV}{m:Nat}{ys:List PV}(hok:jX P f=true)(he:esz≠0)(hf:P.funcs[f]? =some fn)(hb:fn.body=some c)
  {L0:Sto} {N0:Nat} (h0:sK L0 N0) (h:awp P c (HJ P fn.results.toList ty esz cells m ys) (A.map .p++cO (fn.ntmps-A.length) .undef) L0 N0):vF P f A ty esz cells m ys:=by
 refine⟨hok,he,λC w vs hC hrep=>J9 hf hb hC hrep h0 h ?_⟩;rintro e a w' F L N hq ⟨⟨ρ,s1,s2,s3⟩,s4,s5,s6,s7⟩;have fin:iW P fn.results.toList F L (λl=>(∃s,l= .own s 0 m::ys.map .p/\L s=some ⟨ty,esz,cells.map .p⟩)\/(l= .nil::ys.map .p/\m=0/\cells=[]))->a.defers=[]/\∃v,(results fn a.tmps).run P w'= .ok v w'/\∃v' us q c,Ending.returned v= .returned (yG v' us)/\Below w.heap.size w w'/\af (oC C w.heap.size q w') ys us/\
   ((q=none/\v'= .slice none 0 0/\m=0/\cells=[]/\c=0)\/∃b arr,q=some b/\v'= .slice (some ⟨b,0,none⟩) m c/\m<=c/\w.heap.size<=b/\w'.heap[b]? =some (.cells arr ty (0,0))/\
     arr.size=c*esz/\cells.length<=arr.size/\c<=maxLen/\∀(i:Nat) x,cells[i]? =some x->∃u,arr[i]? =some u/\u.oneCell'=true/\aU (oC C w.heap.size q w') x u):=by
  intro h;refine⟨s5,?_⟩;obtain⟨l,us,hl,h2,h3⟩:=xC s1 s3 _ _ h;have hres:(results fn a.tmps).run P w'= .ok (if h:us.toArray.size=1 then us.toArray[0]else .tuple us.toArray) w':=by rw[C2,SN];simp only[cn,Sem.run_map,h2,cp,dZ]
  refine⟨_,hres,?_⟩;have hout:∀v us',us=v::us'->(if h:us.toArray.size=1 then us.toArray[0]else Value.tuple us.toArray)=yG v us':=by
   rintro v us' rfl;cases us' with
   |nil=>rfl
   |cons u us'=>rfl
  rcases hl with⟨s,rfl,hs⟩|⟨rfl,hm,hc⟩
  .obtain⟨v,us',rfl,hv,hys⟩:=h3;obtain⟨q,c,hρ,hcase⟩:=hv;have hkeep:∀b o x,bE C w.heap.size w' ρ L b o x->oC C w.heap.size q w' b o x:=by
    rintro b o x ⟨e1,e2,e3|e3⟩
    .refine .inr ⟨e3,λhq=> ?_,e1⟩;grind
    .exact .inl e3
   refine⟨v,us',q,c,by grind,s7,af.mono hkeep _ _ (ak.Eg hys),?_⟩;obtain⟨q2,c2,hρ2,hob⟩:=s1.ob s _ hs;rw[hρ]at hρ2;cases hρ2;rcases hcase with⟨h1,h4,h5,_⟩|⟨b,o',c',h1,h4,h5,h6,h7⟩
   .simp_all
   .obtain⟨rfl,rfl⟩:=h7 rfl;rcases hob with⟨h8,_⟩|⟨b2,arr,h8,h9,h10⟩
    .grind
    .rw[h1]at h8;cases h8;obtain⟨r1,r2,r3⟩:=h10.row he;refine .inr ⟨b,arr,h1,h4,h5,h9,h10.blk,r1,by grind,r3,λi x hi=> ?_⟩;obtain⟨u,k1,k2,k3⟩:=h10.cells i (.p x) (by grind);exact⟨u,k1,k2,aU.mono hkeep x u k3⟩
  .obtain⟨v,us',rfl,hv,hys⟩:=h3;refine⟨v,us',none,0,by grind,s7,af.mono ?_ _ _ (ak.Eg hys),.inl ⟨rfl,hv,hm,hc,rfl⟩⟩;rintro b o x ⟨e1,e2,e3|e3⟩
   .exact .inr (by grind)
   .exact .inl e3
 cases e<;>first|exact fin hq|exact hq.elim
end
end
section
def YX{ρ:Ren}{C:bF}{A:List AV}{vs:List Value}{n:Nat}(h:ak ρ C A vs)(t:Nat):aR ρ C ((A++cO (n-A.length) AV.undef).getD t .any) ((vs.toArray++nI (n-vs.toArray.size) Go.undef).getD t Go.undef):=by
 have hlen:=h.length;by_cases ht:t<A.length
 .obtain⟨v,h1,h2⟩:=h.get _ _ t A[t] (eZ ht);have e1:(A++cO (n-A.length) AV.undef).getD t .any=A[t] :=by rw[de,mI ht];simp[ht]
  have e2:(vs.toArray++nI (n-vs.toArray.size) Go.undef).getD t Go.undef=v:=by rw[fx,CV (by simp;omega)];simp[h1]
  grind
 .by_cases ht2:t<A.length+(n-A.length)
  .have e1:(A++cO (n-A.length) AV.undef).getD t .any= .undef:=by rw[de,kM (by omega),Ci,if_pos (by omega)];rfl
   have e2:(vs.toArray++nI (n-vs.toArray.size) Go.undef).getD t Go.undef=Go.undef:=by rw[fx,SM (by simp;omega),CY];split<;>rfl
   rw[e1,e2];unfold aR;rfl
  .have e1:(A++cO (n-A.length) AV.undef).getD t .any= .any:=by rw[de,lS (by simp;omega)];rfl
   rw[e1];unfold aR;trivial
abbrev eO:Nat:=sit 0 0
def ES{C0:bF}{B:Nat}{ρ:Ren}{w:World}{L:Sto}{S:List AV}(h:StR C0 ρ L w B)(hL:L eO=some ⟨0,0,.undef::S⟩):
  ∃c,ρ eO=some (none,c)/\(∀(i:Nat) x,(AV.undef::S)[i]? =some x->∀v,C0 B i v->aR ρ (bE C0 B w ρ L) x v)/\∀i v,C0 B i v->i<(AV.undef::S).length:=by
 obtain⟨q,c,h1,⟨rfl,h2|⟨_,h2⟩⟩|⟨b,arr,_,_,h2⟩⟩:=h.ob _ _ hL
 .grind
 .rcases h2 with⟨_,h3,h4⟩|⟨h3,_⟩
  .grind
  .cases h3
 .obtain⟨v,_,h3,h4⟩:=h2.cells 0 .undef rfl;unfold aR at h4;subst h4;cases h3
def StR.stk{C0 C1:bF}{B:Nat}{ρ:Ren}{w:World}{L:Sto}{S T:List AV}(h:StR C0 ρ L w B)(hL:L eO=some ⟨0,0,.undef::S⟩)(h1:∀b,b<B->C1 b=C0 b)
  (h2:∀(i:Nat) x,T[i]? =some x->∀v,C1 B i v->aR ρ (bE C0 B w ρ L) x v) (h3:∀i v,C1 B i v->i<T.length):
  (∀b o x,bE C1 B w ρ (ao L [(eO,some ⟨0,0,T⟩)]) b o x↔bE C0 B w ρ L b o x)/\StR C1 ρ (ao L [(eO,some ⟨0,0,T⟩)]) w B:=by
 obtain⟨c0,k1,_,_⟩:=ES h hL;have hup:∀s,s≠eO->ao L [(eO,some ⟨0,0,T⟩)] s=L s:=by intro s hs;unfold ao;simp[gh,beq_eq_false_iff_ne.2 hs]
 have hus:ao L [(eO,some ⟨0,0,T⟩)] eO=some ⟨0,0,T⟩:=by unfold ao;simp[gh]
 have hC:∀b o x,bE C1 B w ρ (ao L [(eO,some ⟨0,0,T⟩)]) b o x↔bE C0 B w ρ L b o x:=by
  intro b o x;have e:(B<=b\/C1 b o x)↔(B<=b\/C0 b o x):=by
   rcases nF b B with hb|hb
   .rw[h1 b hb]
   .omega
  unfold bE;rw[e];refine and_congr_right λ_=>and_congr_left λ_=>forall_congr' λs=>forall_congr' λc=> ?_;by_cases hs:s=eO
  .grind
  .rw[hup s hs]
 refine⟨hC,?_,?_,?_⟩
 .intro s o ho;by_cases hs:s=eO
  .subst hs;rw[hus]at ho;cases ho;exact⟨none,c0,k1,.inl ⟨rfl,.inr ⟨rfl,.inl ⟨rfl,λi x hi v hv=>aR.mono (λ_ _ h=>h) (λb o x h=>(hC b o x).2 h) x v (h2 i x hi v hv),h3⟩⟩⟩⟩
  .rw[hup s hs]at ho;obtain⟨q,c,e1,⟨e2,e3|⟨e3,e4⟩⟩|⟨b,arr,e2,e3,e4⟩⟩:=h.ob s o ho
   .grind
   .refine⟨q,c,e1,.inl ⟨e2,.inr ⟨e3,?_⟩⟩⟩;rcases e4 with⟨f1,f2,f3⟩|⟨f1,f2,es,clock,f3,f4⟩
    .subst e2;exact absurd (h.mpi s eO o _ c c0 ho hL e3 rfl e1 k1 (.inr ⟨f1,rfl⟩)) hs
    .exact .inr ⟨f1,f2,es,clock,f3,ak.mono (λ_ _ h=>h) (λb o x h=>(hC b o x).2 h) _ _ f4⟩
   .refine⟨q,c,e1,.inr ⟨b,arr,e2,e3,e4.blk,e4.box,e4.row,λi x hi=> ?_⟩⟩;obtain⟨v,g1,g2,g3⟩:=e4.cells i x hi;exact⟨v,g1,g2,aR.mono (λ_ _ h=>h) (λb o x h=>(hC b o x).2 h) x v g3⟩
 .intro s s' o o' b c c' e1 e2 e3 e4;have n1:s≠eO:=λe=>by grind
  have n2:s'≠eO:=λe=>by grind
  rw[hup s n1]at e1;rw[hup s' n2]at e2;exact h.inj s s' o o' b c c' e1 e2 e3 e4
 .intro s s' o o' c c' e1 e2 m1 m2 e3 e4 hT;have key:∀s o,ao L [(eO,some ⟨0,0,T⟩)] s=some o->∃o2,L s=some o2/\o2.ty=o.ty/\o2.esz=o.esz:=by
   intro s o ho;by_cases hs:s=eO
   .grind
   .grind
  obtain⟨p,f1,f2,f3⟩:=key s o e1;obtain⟨p',f1',f2',f3'⟩:=key s' o' e2;exact h.mpi s s' p p' c c' f1 f1' (by omega) (by omega) e3 e4 (by unfold rC at*;grind)
variable {P:Program}
def rA:List AV->AV
 |[] => .undef
 |[x] =>x
 |l=> .tup l
def NJ{C0:bF}{B:Nat}{fn:Func}{ρ:Ren}{σ:Nat->Option Ob}{a:Act}{w:World}{F:List AV}{K:List AV->Prop}(hs:StR C0 ρ σ w B)(hf:∀t,aR ρ (bE C0 B w ρ σ) (F.getD t .any) (a.tmps.getD t Go.undef))(h:iW P fn.results.toList F σ K):
  ∃l v,K l/\(results fn a.tmps).run P w= .ok v w/\aR ρ (bE C0 B w ρ σ) (rA l) v:=by
 obtain⟨l,us,hl,h2,h3⟩:=xC hs hf _ _ h;have hres:(results fn a.tmps).run P w= .ok (if h:us.toArray.size=1 then us.toArray[0]else .tuple us.toArray) w:=by rw[C2,SN];simp only[cn,Sem.run_map,h2,cp,dZ]
 refine⟨l,_,hl,hres,?_⟩;match l,us,h3 with
 |[],us,h3=>unfold ak at h3;subst h3;show aR _ _ .undef _;unfold aR;rfl
 |[x],us,h3=>
  unfold ak at h3;obtain⟨v,r,rfl,h4,h5⟩:=h3;unfold ak at h5;subst h5;exact h4
 |x::y::l,us,h3=>
  have hlen:=h3.length;rw[dif_neg (by grind)];show aR _ _ (.tup (x::y::l)) _;unfold aR;grind
def Ro(P:Program)(rs:List ResultVar)(d:Option Nat)(m n:Nat)(K:List AV->Sto->Nat->Prop):oM:=λe Fc Lc Nc=>match e with
 | .normal| .ret=>iW P rs Fc Lc λl=>∃S F2,Lc eO=some ⟨0,0,.undef::(S++F2)⟩/\S.length=m/\F2.length=n/\K (eL F2 d (rA l)) (ao Lc [(eO,some ⟨0,0,.undef::S⟩)]) Nc
 |_=>False
def Xu{o:Oper}{c:Call}{f:Operand}{fid:FuncId}{fn:Func}{body:Code}{A S F:List AV}{L:Sto}{N:Nat}{K:List AV->Sto->Nat->Prop}(ho:o.op= .call c)(hc:c.callee= .value f)(hfv:jt F f= .p (.fn (.func fid) [] []))
  (hA:c.args.toList.map (jt F)=A) (hok:jX P fid=true) (hf:P.funcs[fid]? =some fn) (hb:fn.body=some body) (hL:L eO=some ⟨0,0,.undef::S⟩)
  (h:awp P body (Ro P fn.results.toList o.dst S.length F.length K) (A++cO (fn.ntmps-A.length) .undef) (ao L [(eO,some ⟨0,0,.undef::(S++F)⟩)]) N):sn P o F L N K:=by
 intro C0 B wI a w ⟨⟨ρ,s1,s2,s3⟩,s4,s5,s6,s7⟩;obtain⟨c0,k1,k2,k3⟩:=ES s1 hL
 let V:Nat->Value:=λs=>a.tmps.getD s Go.undef
 have hev:∀x:Operand,aR ρ (bE C0 B w ρ L) (jt F x) (bI V x):=λx=>zw λt _=>s3 t;have hvf:bI V f= .func (.func fid) #[] #[] :=by have:=hev f;rw[hfv]at this;unfold aR aU at this;obtain⟨v1,v2,h1,h2,h3⟩:=this;unfold af at h2 h3;rw[h1,h2,h3]
 have hrun:(execOp (bI V) o).run P w= .ok (.enter fid (c.args.toList.map (bI V)).toArray) w:=by
  unfold execOp;rw[ho];have e2: #[] ++s8 (bI V) c.args++ #[] =(c.args.toList.map (bI V)).toArray:=by apply ol.1;simp
  simp only[resolve,hc,hvf,s9,cn,dZ,cp,invoke,kk hok,e2]
 have hargs:ak ρ (bE C0 B w ρ L) A (c.args.toList.map (bI V)):=by
  rw[<-hA];generalize c.args.toList=l;induction l with
  |nil=>simp only[j6];unfold ak;rfl
  |cons x l ih=>simp only[cT];unfold ak;grind
 let C1:bF:=λb i v=>if b=B then(if i<(AV.undef::S).length then C0 B i v else a.tmps[i-(AV.undef::S).length]? =some v)else C0 b i v
 have hC1:∀b,b<B->C1 b=C0 b:=λb hb=>by grind
 have hC1B:∀i v,C1 B i v->if i<(AV.undef::S).length then C0 B i v else a.tmps[i-(AV.undef::S).length]? =some v:=λi v hv=>by grind
 obtain⟨hCC,hst⟩:=s1.stk (C1:=C1) (T:= .undef::(S++F)) hL hC1 (by
  intro i x hi v hv;have hv:=hC1B i v hv;rw[<-j7]at hi;split at hv
  .grind
  .rename_i hlt;rw[kM (by omega)]at hi;have:=s3 (i-(AV.undef::S).length);simp_all) (by
  grind)
 unfold cI;rw[hrun];dsimp only;have hlen:=hargs.length;have hfin:∀(e:Exit) (a':Act) (w':World),(∃F' L' N',Ro P fn.results.toList o.dst S.length F.length K e F' L' N'/\St C1 B w F' L' N' a' w')->
   match e with| .normal| .ret=>a'.defers=[]/\∃v,(results fn a'.tmps).run P w'= .ok v w'/\∃v',Ending.returned v= .returned v'/\∃F' L' N',K F' L' N'/\St C0 B wI F' L' N' (a.put o.dst v') w'|_=>False:=by
  rintro e a' w' ⟨Fc,Lc,Nc,hq,⟨⟨ρ1,t1,t2,t3⟩,t4,t5,t6,t7⟩⟩;have fin:iW P fn.results.toList Fc Lc (λl=>∃S2 F2,Lc eO=some ⟨0,0,.undef::(S2++F2)⟩/\S2.length=S.length/\F2.length=F.length/\K (eL F2 o.dst (rA l)) (ao Lc [(eO,some ⟨0,0,.undef::S2⟩)]) Nc)->
    a'.defers=[]/\∃v,(results fn a'.tmps).run P w'= .ok v w'/\∃v',Ending.returned v= .returned v'/\∃F' L' N',K F' L' N'/\St C0 B wI F' L' N' (a.put o.dst v') w':=by
   intro hr;obtain⟨l,v,⟨S2,F2,hL2,hS2,hF2,hK⟩,hres,hrep⟩:=NJ t1 t3 hr;refine⟨t5,v,hres,v,rfl,_,_,Nc,hK,?_⟩;obtain⟨c1,j1,j2,j3⟩:=ES t1 hL2;have hl2:(AV.undef::S2).length=(AV.undef::S).length:=by simp[hS2]
   obtain⟨hCC2,hst2⟩:=t1.stk (C1:=C0) (T:= .undef::S2) hL2 (λb hb=>(hC1 b hb).symm) (by
    grind) (by
    grind)
   have hfr:∀t,aR ρ1 (bE C0 B w' ρ1 (ao Lc [(eO,some ⟨0,0,.undef::S2⟩)])) (F2.getD t .any) (a.tmps.getD t Go.undef):=by
    intro t;by_cases ht:t<F2.length
    .have htm:t<a.tmps.size:=by rw[s6];omega
     have e1:F2.getD t .any=F2[t] :=by rw[de];simp[ht]
     have e2:a.tmps.getD t Go.undef=a.tmps[t] :=by rw[fx];simp[htm]
     rw[e1,e2];refine aR.mono (λ_ _ h=>h) (λb o x h=>(hCC2 b o x).2 h) _ _ (j2 ((AV.undef::S).length+t) F2[t] (by grind) a.tmps[t] ?_);grind
    .rw[de,lS (by omega)];show aR _ _ .any _;unfold aR;trivial
   refine⟨⟨ρ1,hst2,t2,λt=> ?_⟩,t4,by cases hd:o.dst<;>exact s5,by rw[DA,hF2];cases hd:o.dst<;>simpa[Act.put]using s6,s7.trans t7⟩;rw[KL,Lm,s6];by_cases e:o.dst=some t/\t<F.length
   .rw[if_pos (by grind),if_pos e];exact aR.mono (λ_ _ h=>h) (λb o x h=>(hCC2 b o x).2 h) _ _ hrep
   .grind
  cases e<;>first|exact fin hq|exact hq.elim
 refine calls_of_wp hf hb (wp_mono (EJ (C0:=C1) (B:=B) (wI:=w) body _ _ _ _ _ _ h ?_) ?_)
 .refine⟨⟨ρ,hst,s2,λt=> ?_⟩,s4,rfl,by simp[hlen],Below.refl _ _⟩;exact aR.mono (λ_ _ h=>h) (λb o x h=>(hCC b o x).2 h) _ _ (YX hargs t)
 .intro e a' w' h;have:=hfin e a' w' h;cases e<;>first|exact this|exact this.elim
end
section
abbrev Rf:=Nat->Option (Option Nat)
mutual
def cN(m:Rf):AV->AV->Prop
 | .any,_=>True
 | .p x,y=>y= .p x
 | .nil,y=>y= .nil
 | .undef,y=>y= .undef
 | .ptr s off,y=>∃o,m s=some (some o)/\y= .ptr o off
 | .own s o n,y=>(∃s',m s=some (some s')/\y= .own s' o n)\/(m s=some none/\y= .nil/\o=0/\n=0)
 | .agg l,y=>∃r,(y= .agg r\/∃q:List PV,y= .p (.agg q)/\r=q.map .p)/\eo m l r
 | .tup l,y=>∃r,(y= .tup r\/∃q:List PV,y= .p (.tup q)/\r=q.map .p)/\eo m l r
 | .fn f a b,y=>∃a2 b2,y= .fn f a2 b2/\eo m a a2/\eo m b b2
 | .mp s,y=>∃o,m s=some (some o)/\y= .mp o
def eo(m:Rf):List AV->List AV->Prop
 |[],r=>r=[]
 |x::l,r=>∃y r',r=y::r'/\cN m x y/\eo m l r'
end
def jH(m:Rf)(ρ:Ren):Ren:=λs=>match m s with
 |some (some o)=>ρ o
 |some none=>some (none,0)
 |none=>none
mutual
theorem tj{m:Rf}{ρ:Ren}{C C':bF}(hC:∀b o v,C b o v->C' b o v):∀(x y:AV) (v:Value),cN m x y->aR ρ C y v->aR (jH m ρ) C' x v
 | .any,y,v,_,_=>by trivial
 | .p x,y,v,h,hv=>by subst h;exact aU.mono hC _ v hv
 | .nil,y,v,h,hv=>by subst h;exact hv
 | .undef,y,v,h,hv=>by subst h;exact hv
 | .ptr s off,y,v,h,hv=>by
   obtain⟨o,h1,rfl⟩:=h;obtain⟨b,c,h2,h3⟩:=hv;exact⟨b,c,by unfold jH;grind,h3⟩
 | .own s o n,y,v,h,hv=>by
   rcases h with⟨s',h1,rfl⟩|⟨h1,rfl,rfl,rfl⟩
   .obtain⟨q,c,h2,h3⟩:=hv;exact⟨q,c,by unfold jH;grind,h3⟩
   .exact⟨none,0,by unfold jH;rw[h1],.inl ⟨rfl,hv,rfl,rfl⟩⟩
 | .agg l,y,v,h,hv=>by
   obtain⟨r,hy,hr⟩:=h;have:∃vs:List Value,v= .agg vs.toArray/\ak ρ C r vs/\gP vs:=by
    rcases hy with rfl|⟨q,rfl,rfl⟩
    .exact hv
    .obtain⟨vs,h1,h2,h3⟩:=hv;exact⟨vs,h1,h2.toA,h3⟩
   obtain⟨vs,h1,h2,h3⟩:=this;exact⟨vs,h1,td hC l r vs hr h2,h3⟩
 | .tup l,y,v,h,hv=>by
   obtain⟨r,hy,hr⟩:=h;have:∃vs:List Value,v= .tuple vs.toArray/\ak ρ C r vs:=by
    rcases hy with rfl|⟨q,rfl,rfl⟩
    .exact hv
    .obtain⟨vs,h1,h2⟩:=hv;exact⟨vs,h1,h2.toA⟩
   obtain⟨vs,h1,h2⟩:=this;exact⟨vs,h1,td hC l r vs hr h2⟩
 | .fn f a b,y,v,h,hv=>by
   obtain⟨a2,b2,rfl,h1,h2⟩:=h;obtain⟨vs1,vs2,h3,h4,h5⟩:=hv;exact⟨vs1,vs2,h3,td hC a a2 vs1 h1 h4,td hC b b2 vs2 h2 h5⟩
 | .mp s,y,v,h,hv=>by
   obtain⟨o,h1,rfl⟩:=h;obtain⟨c,h2,h3⟩:=hv;exact⟨c,by unfold jH;grind,h3⟩
theorem td{m:Rf}{ρ:Ren}{C C':bF}(hC:∀b o v,C b o v->C' b o v):∀(l r:List AV) (vs:List Value),eo m l r->ak ρ C r vs->ak (jH m ρ) C' l vs
 |[],r,vs,h,hv=>by subst h;exact hv
 |x::l,r,vs,h,hv=>by
  obtain⟨y,r',rfl,h1,h2⟩:=h;obtain⟨v,vs',rfl,h3,h4⟩:=hv;exact⟨v,vs',rfl,tj hC x y v h1 h3,td hC l r' vs' h2 h4⟩
end
def KK{m:Rf}:∀{l r:List AV},eo m l r->l.length=r.length/\∀(i:Nat) x,l[i]? =some x->∃y,r[i]? =some y/\cN m x y
 |[],r,h=>by unfold eo at h;grind
 |x::l,r,h=>by
  obtain⟨y,r',rfl,h1,h2⟩:=h;obtain⟨h3,h4⟩:=KK h2;grind
def pi(m:Rf)(ob' ob:Ob):Prop:=ob'.ty=ob.ty/\ob'.esz=ob.esz/\eo m ob'.cells ob.cells
def StR.rf{C0:bF}{B:Nat}{ρ:Ren}{w:World}{L L':Sto}(m:Rf)(hinj:∀s s' o,m s=some (some o)->m s'=some (some o)->s=s')
  (hL:∀s ob',L' s=some ob'->match m s with|some (some o)=>∃ob,L o=some ob/\pi m ob' ob|some none=>ob'.esz≠0/\ob'.cells=[] |none=>False) (s1:StR C0 ρ L w B):
  (∀b o v,bE C0 B w ρ L b o v->bE C0 B w (jH m ρ) L' b o v)/\StR C0 (jH m ρ) L' w B:=by
 have hCC:∀b o v,bE C0 B w ρ L b o v->bE C0 B w (jH m ρ) L' b o v:=by
  intro b o v ⟨e1,e2,e3⟩;refine⟨e1,λs c hs=> ?_,e3⟩;cases hl:L' s with
  |none=>rfl
  |some ob'=>
   unfold jH at hs;grind
 refine⟨hCC,?_,?_,?_⟩
 .intro s ob' hl;have:=hL s ob' hl;split at this
  .rename_i o ho;obtain⟨ob,h1,h2,h3,h4⟩:=this;obtain⟨q,c,k1,k2⟩:=s1.ob o ob h1;refine⟨q,c,by unfold jH;grind,?_⟩;obtain⟨g1,g2⟩:=KK h4;rcases k2 with⟨k2,⟨k3,k4,k5⟩|⟨k3,k4⟩⟩|⟨b,arr,k2,k3,k4⟩
   .grind
   .refine .inl ⟨k2,.inr ⟨by omega,?_⟩⟩;rcases k4 with⟨e1,e2,e3⟩|⟨e1,e2,es,clock,e3,e4⟩
    .refine .inl ⟨by grind,λi x' hi v hv=> ?_,by grind⟩;obtain⟨x,hx,hr⟩:=g2 i x' hi;exact tj hCC _ _ v hr (e2 i x hx v hv)
    .exact .inr ⟨by grind,e2,es,clock,e3,td hCC _ _ _ h4 e4⟩
   .refine .inr ⟨b,arr,k2,k3,⟨by rw[h2];exact k4.blk,λhz=>by rw[g1];exact k4.box (by omega),λhz=>by rw[h3,g1];exact k4.row (by omega),?_⟩⟩;intro i x' hi;obtain⟨x,hx,hr⟩:=g2 i x' hi;obtain⟨v,g3,g4,g5⟩:=k4.cells i x hx;exact⟨v,g3,g4,tj hCC _ _ v hr g5⟩
  .rename_i ho;exact⟨none,0,by unfold jH;rw[ho],by grind⟩
  grind
 .intro s s' o o' b c c' h1 h2 h3 h4;have g1:=hL s o h1;have g2:=hL s' o' h2;unfold jH at h3 h4;split at h3
  .rename_i x hx;rw[hx]at g1;obtain⟨ob,k1,_⟩:=g1;split at h4
   .rename_i x' hx';rw[hx']at g2;obtain⟨ob',k2,_⟩:=g2;have:=s1.inj x x' ob ob' b c c' k1 k2 h3 h4;grind
   .cases h4
   .cases h4
  .cases h3
  .cases h3
 .intro s s' o o' c c' h1 h2 m1 m2 h3 h4 hT;have g1:=hL s o h1;have g2:=hL s' o' h2;unfold jH at h3 h4;split at h3
  .rename_i x hx;rw[hx]at g1;obtain⟨ob,k1,k2,k3,_⟩:=g1;split at h4
   .rename_i x' hx';rw[hx']at g2;obtain⟨ob',q1,q2,q3,_⟩:=g2;have:=s1.mpi x x' ob ob' c c' k1 q1 (by omega) (by omega) h3 h4 (by unfold rC at*;grind);grind
   .grind
   .cases h4
  .grind
  .cases h3
def Mo{F F':List AV}{L L':Sto}{N N':Nat}(m:Rf)(hlt:∀s x,m s=some x->cls s<N')(hinj:∀s s' o,m s=some (some o)->m s'=some (some o)->s=s')
  (hlen:F'.length=F.length) (hF:∀t,t<F.length->cN m (F'.getD t .any) (F.getD t .any))
  (hL:∀s ob',L' s=some ob'->match m s with|some (some o)=>∃ob,L o=some ob/\pi m ob' ob|some none=>ob'.esz≠0/\ob'.cells=[] |none=>False):fV F L N F' L' N':=by
 intro C0 B wI a w ⟨⟨ρ,s1,s2,s3⟩,s4,s5,s6,s7⟩;obtain⟨hCC,hst⟩:=s1.rf m hinj hL;refine⟨⟨jH m ρ,hst,?_,?_⟩,s4,s5,by rw[s6,hlen],s7⟩
 .intro s hs;cases hr:m s with
  |none=>unfold jH;rw[hr]
  |some x=>grind
 .intro t;by_cases ht:t<F.length
  .exact tj hCC _ _ _ (hF t ht) (s3 t)
  .rw[de,lS (by omega)];trivial
variable {P:Program}
def Hj(P:Program)(f:FuncId)(A:List PV)(r:AV)(σ1:Sto):Prop:=jX P f=true/\
 ∀(C:bF) (w:World) (vs:List Value),(∀b o v,C b o v->w.cell? ⟨b,o,none⟩=some v)->af C A vs->
  Calls P f vs.toArray w λe w'=>∃v ρ1,e= .returned v/\StR C ρ1 σ1 w' w.heap.size/\aR ρ1 (bE C w.heap.size w' ρ1 σ1) r v/\Below w.heap.size w w'
def yC(m:Rf)(L' L:Sto):Prop:=(∀s s' o,m s=some (some o)->m s'=some (some o)->s=s')/\
 ∀s ob',L' s=some ob'->match m s with|some (some o)=>∃ob,L o=some ob/\pi m ob' ob|some none=>ob'.esz≠0/\ob'.cells=[] |none=>False
def HH(P:Program)(rs:List ResultVar)(r:AV)(σ1:Sto):oM:=λe F L _=>match e with
 | .normal| .ret=>iW P rs F L λl=>∃m:Rf,yC m σ1 L/\cN m r (rA l)
 |_=>False
def Tb{f:FuncId}{fn:Func}{c:Code}{A:List PV}{r:AV}{σ1:Sto}(hok:jX P f=true)(hf:P.funcs[f]? =some fn)(hb:fn.body=some c)
  {L0:Sto} {N0:Nat} (h0:sK L0 N0) (h:awp P c (HH P fn.results.toList r σ1) (A.map .p++cO (fn.ntmps-A.length) .undef) L0 N0):Hj P f A r σ1:=by
 refine⟨hok,λC w vs hC hrep=>J9 hf hb hC hrep h0 h ?_⟩;rintro e a w' F L N hq ⟨⟨ρ,s1,s2,s3⟩,s4,s5,s6,s7⟩;have fin:iW P fn.results.toList F L (λl=>∃m:Rf,yC m σ1 L/\cN m r (rA l))->a.defers=[]/\∃v,(results fn a.tmps).run P w'= .ok v w'/\∃v' ρ1,Ending.returned v= .returned v'/\StR C ρ1 σ1 w' w.heap.size/\aR ρ1 (bE C w.heap.size w' ρ1 σ1) r v'/\Below w.heap.size w w':=by intro h;obtain⟨l,v,⟨m,⟨h1,h2⟩,h3⟩,hres,hrep⟩:=NJ s1 s3 h;obtain⟨k1,k2⟩:=s1.rf m h1 h2;exact⟨s5,v,hres,v,_,rfl,k2,tj k1 _ _ v h3 hrep,s7⟩
 cases e<;>first|exact fin hq|exact hq.elim
variable {o:Oper} {E:Operand->AV} {σ:Nat->Option Ob} {n:Nat}
def Wd{c:Call}{f:Operand}{fid:FuncId}{A:List PV}{r r':AV}{σ1:Sto}{m1:Rf}{W':List (Nat×Option Ob)}(ho:o.op= .call c)(hc:c.callee= .value f)(hfv:E f= .p (.fn (.func fid) [] []))
  (hA:bG (c.args.toList.map E)=some A) (hS:Hj P fid A r σ1) (hcl:∀s x,m1 s=some x->cls s=n) (hWn:∀s,W'.lookup s≠none->cls s=n/\W'.lookup s≠some none) (hR:yC m1 (λs=>(W'.lookup s).join) σ1)
  (hty:∀s ob,W'.lookup s=some (some ob)->¬(ob.esz=0/\ob.ty=0)) (hr:cN m1 r' r):bR P o E σ n r' [] W':=by
 have hfm:f∈o.op.operands.toList:=by rw[ho];simp[cU,jI,hc]
 have ham:∀x∈c.args.toList,x∈o.op.operands.toList:=by intro x hx;rw[ho];simp[cU,jI];exact .inr (by grind)
 intro C0 ρ g V w B hs hB _ hn hgn hE;have hargs:∀l:List Operand,(∀x∈l,x∈o.op.operands.toList)->ak ρ (bE C0 B w ρ g) (l.map E) (l.map (bI V)):=by
  intro l;induction l with
  |nil=>intro _;rfl
  |cons x l ih=>
   unfold ak;grind
 have hall:=qX hA (hargs _ ham);have hvf:bI V f= .func (.func fid) #[] #[] :=by have:=hE f hfm;rw[hfv]at this;unfold aR aU at this;obtain⟨v1,v2,h1,h2,h3⟩:=this;unfold af at h2 h3;rw[h1,h2,h3]
 obtain⟨hok,hcalls⟩:=hS;have hrun:(execOp (bI V) o).run P w= .ok (.enter fid (c.args.toList.map (bI V)).toArray) w:=by
  unfold execOp;rw[ho];have e2: #[] ++s8 (bI V) c.args++ #[] =(c.args.toList.map (bI V)).toArray:=by apply ol.1;simp
  simp only[resolve,hc,hvf,s9,cn,dZ,cp,invoke,kk hok,e2]
 have hlive:∀s ob b c,g s=some ob->ρ s=some (some b,c)->b<w.heap.size:=by intro s ob b c e1 e2;obtain⟨_,arr,e3⟩:=hs.at e1 e2;exact e3.lt
 unfold cI;rw[hrun];dsimp only;refine(hcalls (bE C0 B w ρ g) w _ (λb o v h=>h.1) hall).mono ?_;rintro e w' ⟨v,ρ1,rfl,t1,t2,hbel⟩;obtain⟨j1,j2⟩:=t1.rf m1 hR.1 hR.2;have hold:∀b,b<w.heap.size->w'.heap[b]? =w.heap[b]? :=λb hb=>hbel.block b hb;generalize hρL:jH m1 ρ1=ρL at*;have hLn:∀s q,ρL s=some q->cls s=n:=by
  intro s q hq;rw[<-hρL]at hq;unfold jH at hq;cases hm:m1 s with
  |none=>grind
  |some x=>grind
 let ρ':Ren:=λs=>if cls s=n then ρL s else ρ s
 have hρn:∀s,cls s=n->ρ' s=ρL s:=by grind
 have hρs:∀s,cls s≠n->ρ' s=ρ s:=by grind
 have hL':∀s ob,W'.lookup s=some (some ob)->(λs=>(W'.lookup s).join) s=some ob:=by grind
 have hup:∀s,W'.lookup s=none->ao g W' s=g s:=λs h=>by unfold ao;rw[h]
 have hupn:∀s,cls s≠n->ao g W' s=g s:=by grind
 have hnew:∀s ob,ao g W' s=some ob->cls s=n->W'.lookup s=some (some ob):=by
  intro s ob h hs';unfold ao at h;cases hl:W'.lookup s with
  |none=>grind
  |some x=>grind
 have hext:∀s q,ρ s=some q->ρ' s=some q:=by grind
 have hextL:∀s q,ρL s=some q->ρ' s=some q:=by grind
 have hge:∀s ob b c,W'.lookup s=some (some ob)->ρL s=some (some b,c)->w.heap.size<=b:=λs ob b c h1 h2=>(j2.at (hL' s ob h1) h2).1;have hmono:∀b o' x,bE C0 B w ρ g b o' x->bE C0 B w' ρ' (ao g W') b o' x:=by
  intro b o' x ⟨e1,e2,e3⟩;have hb:b<w.heap.size:=jh w ⟨b,o',none⟩ e1;refine⟨(i6 (hold b hb)).trans e1,λs c' e4=> ?_,e3⟩;by_cases hsn:cls s=n
  .cases hu:ao g W' s with
   |none=>rfl
   |some ob=>grind
  .grind
 have hCL:∀b o' x,bE (bE C0 B w ρ g) w.heap.size w' ρL (λs=>(W'.lookup s).join) b o' x->bE C0 B w' ρ' (ao g W') b o' x:=by
  intro b o' x ⟨e1,e2,e3⟩;refine⟨e1,λs c' e4=> ?_,?_⟩
  .by_cases hsn:cls s=n
   .rw[hρn s hsn]at e4;cases hu:ao g W' s with
    |none=>rfl
    |some ob=>grind
   .rw[hρs s hsn]at e4;rw[hupn s hsn];rcases e3 with e3|e3
    .cases hg:g s with
     |none=>rfl
     |some ob=>grind
    .exact e3.2.1 s c' e4
  .rcases e3 with e3|e3
   .omega
   .exact e3.2.2
 refine⟨_,rfl,ρ',hρs,hmono,?_,aR.mono hextL hCL _ _ (by rw[<-hρL];exact tj (by grind) _ _ _ hr t2),hbel.mono hB⟩;refine hs.stepG (by grind) hext hmono (by grind) (by grind) ?_;intro s ob hso;obtain⟨q,c',h1,⟨h2,h3|⟨h3,h4⟩⟩|⟨b,arr,h2,h3,h4⟩⟩:=j2.ob s ob (hL' s ob hso)
 .grind
 .refine⟨q,c',by grind,.inr (.inl ⟨h2,h3,?_,?_⟩)⟩
  .rcases h4 with⟨h5,_⟩|⟨h5,h6,es,clock,h7,h8⟩
   .grind
   .exact .inr ⟨h5,by grind,es,clock,h7,ak.mono hextL hCL _ _ h8⟩
  .intro s' ob' c2 hne hu he hρ2 hT;have hT1:ob.ty=1/\ob'.ty=1/\c'=c2:=by
    rcases hT with hT|hT
    .exact hT
    .grind
   by_cases hsn':cls s'=n
   .rw[hρn s' hsn']at hρ2;subst h2;exact hne (j2.mpi s s' ob ob' c' c2 (hL' s ob hso) (by grind) h3 he h1 hρ2 hT).symm
   .rw[hρs s' hsn']at hρ2;rw[hupn s' hsn']at hu;obtain⟨q2,c3,k1,⟨_,⟨k2,_⟩|⟨_,k2⟩⟩|⟨b,arr,k2,_⟩⟩:=hs.ob s' ob' hu
    .exact k2 he
    .rw[hρ2]at k1;cases k1;rcases k2 with⟨k3,_⟩|⟨_,_,es,clock,k3,_⟩
     .grind
     .have hlt:=qn k3;rcases h4 with⟨h5,_⟩|⟨_,h6,_⟩
      .grind
      omega
    grind
 .refine⟨q,c',by grind,.inr (.inr ⟨b,arr,h2,by grind,⟨h4.blk,h4.box,h4.row,λi x hi=> ?_⟩,?_⟩)⟩
  .obtain⟨u,g1,g2,g3⟩:=h4.cells i x hi;exact⟨u,g1,g2,aR.mono hextL hCL x u g3⟩
  .intro s' ob' c2 hne hu hρ2;subst h2;by_cases hsn':cls s'=n
   .rw[hρn s' hsn']at hρ2;exact hne (j2.inj s s' ob ob' b c' c2 (hL' s ob hso) (by grind) h1 hρ2).symm
   grind
end
section
def agI(xs:List Int):Value:= .agg (xs.map (cV .i64)).toArray
structure MKey(P:Program)(k:TypeId)(m:Nat):Prop where
 check:∀(w:World) (em:Bool) (xs:List Int),xs.length=m->(Instr.checkKey em 10000 k (agI xs)).run P w= .ok () w
 eq:∀(w:World) (xs ys:List Int),xs.length=m->ys.length=m->(Op.equal k (agI xs) (agI ys)).run P w= .ok (xs==ys) w
 now:∃d,P.underlying k=some d/\∀a b:Array Value,Instr.sameNow d (.agg a) (.agg b)=none
variable {P:Program}
def jW(es:List MapEntry)(ks:List (List Int×Value)):Prop:=es.map (λe=>(e.key,e.val))=ks.map λq=>(agI q.1,q.2)
def MN{k:TypeId}{m:Nat}(K:MKey P k m)(w:World)(xs:List Int)(hx:xs.length=m):∀(es:List MapEntry) (ks:List (List Int×Value)) (i:Nat),jW es ks->(∀q∈ks,q.1.length=m)->
  ((Instr.findAsking k (agI xs) es i).run P w= .ok none w/\∀q∈ks,q.1≠xs)\/∃j v,(Instr.findAsking k (agI xs) es i).run P w= .ok (some (i+j,v)) w/\ks[j]? =some (xs,v)
 |[],ks,i,h,_=>by
  have:ks=[] :=by simpa using h.symm
  subst this;exact .inl ⟨rfl,by grind⟩
 |e::es,ks,i,h,hl=>by
  cases ks with
  |nil=>unfold jW at h;simp at h
  |cons q ks=>
   unfold jW at h;simp only[cT,nK,sz]at h;obtain⟨⟨h1,h2⟩,h3⟩:=h;unfold Instr.findAsking;simp only[cn,h1,K.eq w xs q.1 hx (by grind),cp];by_cases hq:xs=q.1
   .right;refine⟨0,q.2,?_,by rw[hq];rfl⟩;simp_all
   .rcases MN K w xs hx es ks (i+1) h3 (by grind)with⟨h4,h5⟩|⟨j,v,h4,h5⟩
    .grind
    .exact .inr ⟨j+1,v,by grind,h5⟩
def MM{k:TypeId}{m:Nat}(K:MKey P k m)(w:World)(xs:List Int)(hx:xs.length=m)(es:List MapEntry)(ks:List (List Int×Value))(h:jW es ks)(hl:∀q∈ks,q.1.length=m):
  ((Instr.findKey k (agI xs) es).run P w= .ok none w/\∀q∈ks,q.1≠xs)\/∃j v,(Instr.findKey k (agI xs) es).run P w= .ok (some (j,v)) w/\ks[j]? =some (xs,v):=by
 obtain⟨d,hd,hn⟩:=K.now;unfold Instr.findKey;simp only[cn,run_underlying hd,cp];cases es with
 |nil=>
  left;have:ks=[] :=by simpa using h.symm
  subst this;exact⟨rfl,by grind⟩
 |cons e es=>
  have h1:Instr.findNow d (agI xs) (e::es) 0=none:=by
   unfold Instr.findNow;cases ks with
   |nil=>unfold jW at h;simp at h
   |cons q ks=>
    unfold jW at h;simp only[cT,nK,sz]at h;rw[h.1.1];unfold agI;rw[hn]
  rw[h1];simpa using MN K w xs hx (e::es) ks 0 h hl
def Sw(xs:List Int):Instr.sameBits 10000 (agI xs) (agI xs)=true:=by unfold agI Instr.sameBits;simp only[beq_self_eq_true,Bool.true_and,bZ];rintro⟨x,y⟩ h;obtain⟨i,hi,e⟩:=jf h;simp only[List.getElem_zip,sz]at e;obtain⟨rfl,rfl⟩:=e;simp[Instr.sameBits]
def V5(xs:List Int)(w:World):(Instr.keyThatStays (agI xs) (agI xs)).run P w= .ok (agI xs) w:=by unfold Instr.keyThatStays;rw[if_pos (Sw xs)];rfl
def ft(ks:List (List Int×AV)):List AV:=ks.flatMap λq=>[.p (.agg (kf q.1)),q.2]
def MF{C:bF}:∀{xs:List Int} {vs:List Value},af C (kf xs) vs->vs=xs.map (cV .i64)
 |[],vs,h=>by exact h
 |x::xs,vs,h=>by
  unfold kf at h;obtain⟨v,r,rfl,h1,h2⟩:=h;rw[h1,MF (xs:=xs) h2];rfl
def Fb{ρ:Ren}{C:bF}{xs:List Int}{v:Value}(h:aR ρ C (.p (.agg (kf xs))) v):v=agI xs:=by obtain⟨vs,rfl,h1,_⟩:=h;rw[MF h1];rfl
def Xr{ρ:Ren}{C:bF}(xs:List Int):aR ρ C (.p (.agg (kf xs))) (agI xs):=by
 refine⟨_,rfl,?_,λu hu=> ?_⟩
 .induction xs with
  |nil=>rfl
  |cons x xs ih=>exact⟨_,_,rfl,by rfl,ih⟩
 .obtain⟨x,_,rfl⟩:=bM.1 hu;rfl
def Em{ρ:Ren}{C:bF}:∀{ks:List (List Int×AV)} {es:List MapEntry},ak ρ C (ft ks) (es.flatMap λe=>[e.key,e.val])->
  ∃kv:List (List Int×Value),jW es kv/\kv.length=ks.length/\∀(j:Nat) q,ks[j]? =some q->∃v,kv[j]? =some (q.1,v)/\aR ρ C q.2 v
 |[],es,h=>by
  unfold ft at h;unfold ak at h;cases es with
  |nil=>exact⟨[],rfl,rfl,by grind⟩
  |cons e es=>simp at h
 |q::ks,es,h=>by
  unfold ft at h;cases es with
  |nil=>unfold ak at h;grind
  |cons e es=>
   obtain⟨v,r,h1,h2,h3⟩:=h;cases h1;obtain⟨v,r,h1,h4,h5⟩:=h3;cases h1;obtain⟨kv,g1,g2,g3⟩:=Em (ks:=ks) (es:=es) h5;refine⟨(q.1,e.val)::kv,?_,by simp[g2],?_⟩
   .unfold jW at*;simp only[cT,g1,Fb h2]
   grind
def Np{ρ:Ren}{C:bF}:∀{ks:List (List Int×AV)} {es:List MapEntry} {kv:List (List Int×Value)},jW es kv->kv.length=ks.length->(∀(j:Nat) q,ks[j]? =some q->∃v,kv[j]? =some (q.1,v)/\aR ρ C q.2 v)->
  ak ρ C (ft ks) (es.flatMap λe=>[e.key,e.val])
 |[],es,kv,h,hl,_=>by
  have:kv=[] :=by grind
  subst this;unfold jW at h;have:es=[] :=by simpa using h
  subst this;rfl
 |q::ks,es,kv,h,hl,hk=>by
  cases kv with
  |nil=>simp at hl
  |cons p kv=>
   cases es with
   |nil=>unfold jW at h;simp at h
   |cons e es=>
    unfold jW at h;simp only[cT,nK,sz]at h;obtain⟨⟨h1,h2⟩,h3⟩:=h;obtain⟨v,h4,h5⟩:=hk 0 q rfl;simp at h4;subst h4;refine⟨_,_,rfl,by rw[h1];exact Xr q.1,?_⟩;exact⟨_,_,rfl,by grind,Np (ks:=ks) (kv:=kv) h3 (by grind) λj q' hj=>by simpa using hk (j+1) q' (by grind)⟩
def n9:List (List Int×AV)->List Int->AV->AV
 |[],_,z=>z
 |q::ks,xs,z=>if q.1=xs then q.2 else n9 ks xs z
def ju:List (List Int×AV)->List Int->AV->List (List Int×AV)
 |[],xs,v=>[(xs,v)]
 |q::ks,xs,v=>if q.1=xs then(xs,v)::ks else q::ju ks xs v
def rD(ks:List (List Int×AV)):Prop:=ks.Pairwise λp q=>p.1≠q.1
def KY:∀{ks:List (List Int×AV)} {xs:List Int} {z:AV},(∀q∈ks,q.1≠xs)->n9 ks xs z=z
 |[],_,_,_=>rfl
 |q::ks,xs,z,h=>by unfold n9;rw[if_neg (by grind)];exact KY (by grind)
def Ed:∀{ks:List (List Int×AV)} {xs:List Int} {v:AV},(∀q∈ks,q.1≠xs)->ju ks xs v=ks++[(xs,v)]
 |[],_,_,_=>rfl
 |q::ks,xs,z,h=>by unfold ju;rw[if_neg (by grind),Ed (by grind)];rfl
def MB:∀{ks:List (List Int×AV)} {xs:List Int} {v z:AV} {j:Nat},rD ks->ks[j]? =some (xs,v)->n9 ks xs z=v
 |[],_,_,_,_,_,h=>by simp at h
 |q::ks,xs,v,z,0,_,h=>by simp at h;unfold n9;grind
 |q::ks,xs,v,z,j+1,hd,h=>by
  unfold rD at hd;rw[gX]at hd;unfold n9;rw[if_neg (by grind)];exact MB hd.2 h
def NP:∀{ks:List (List Int×AV)} {xs:List Int} {u v:AV} {j:Nat},rD ks->ks[j]? =some (xs,u)->ju ks xs v=ks.set j (xs,v)
 |[],_,_,_,_,_,h=>by simp at h
 |q::ks,xs,u,v,0,_,h=>by simp at h;unfold ju;grind
 |q::ks,xs,u,v,j+1,hd,h=>by
  unfold rD at hd;rw[gX]at hd;unfold ju;rw[if_neg (by grind),NP hd.2 h];rfl
variable {o:Oper} {E:Operand->AV} {σ:Nat->Option Ob} {n:Nat}
def Tk{t:TypeId}(ho:o.op= .makeMap t none):bR P o E σ n (.mp (sit n 0)) [] [(sit n 0,some ⟨1,0,[]⟩)] :=by
 intro C0 ρ g V w B hs hB _ hn hgn hE;have hcl:∀s,cls s≠n->s≠sit n 0:=λs h e=>h (by rw[e];exact gm n 0);generalize sit n 0=m at*;have hrun:(execOp (bI V) o).run P w= .ok (.value (.map (some w.heap.size))) (w.alloc (.map #[] 0)):=by unfold execOp;rw[ho];rfl
 unfold cI;rw[hrun];have hblk:(w.alloc (.map #[] 0)).heap[w.heap.size]? =some (.map #[] 0):=heap_alloc_new w _
 let ρ':Ren:=λs=>if s=m then some (none,w.heap.size)else ρ s
 have hext:∀s q,ρ s=some q->ρ' s=some q:=by intro s q hq;show(if s=m then _ else _)=_;rw[if_neg (by grind)];exact hq
 have hold:∀b,b<w.heap.size->(w.alloc (.map #[] 0)).heap[b]? =w.heap[b]? :=λb hb=>Below.heap_alloc w _ b hb;have hlk:∀s,s≠m->[(m,some (⟨1,0,[]⟩:Ob))].lookup s=none:=by intro s hs;simp[gh,beq_eq_false_iff_ne.2 hs]
 have hup:∀s,s≠m->ao g [(m,some ⟨1,0,[]⟩)] s=g s:=by intro s hs;unfold ao;rw[hlk s hs]
 have hmono:∀b o' x,bE C0 B w ρ g b o' x->bE C0 B (w.alloc (.map #[] 0)) ρ' (ao g [(m,some ⟨1,0,[]⟩)]) b o' x:=by
  intro b o' x ⟨e1,e2,e0⟩;have hb:b<w.heap.size:=jh w ⟨b,o',none⟩ e1;refine⟨(i6 (hold b hb)).trans e1,?_,e0⟩;intro s c' e3;by_cases e:s=m
  .grind
  .grind
 refine⟨ρ',by grind,hmono,?_,by unfold aR;grind,(Below.refl B w).alloc hB _⟩;refine hs.stepG ?_ hext hmono ?_ (by grind) ?_
 .grind
 .intro s ob' b c' _ e2 e3;obtain⟨_,arr,e4⟩:=hs.at e2 e3;exact hold b e4.lt
 .intro s ob' e;have e1:s=m:=by
   rcases om s m with h|h
   .grind
   .exact h
  subst e1;have e2:ob'=⟨1,0,[]⟩:=by simp[gh]at e;exact e.symm
  subst e2;refine⟨none,w.heap.size,by simp[ρ'],.inr (.inl ⟨rfl,rfl,.inr ⟨rfl,hB, #[],0,hblk,by rfl⟩,?_⟩)⟩;intro s' o' c' hne e3 e4 e5 hT;rw[hup s' hne]at e3;simp only[ρ',if_neg hne]at e5;obtain⟨q2,c3,k1,⟨_,⟨k2,_⟩|⟨_,k2⟩⟩|⟨b,arr,k2,_⟩⟩:=hs.ob s' o' e3
  .exact k2 e4
  .rw[e5]at k1;rcases hT with⟨_,hT2,hT3⟩|⟨hT,_⟩
   .rcases k2 with⟨k3,_⟩|⟨_,_,es,clock,k3,_⟩
    .grind
    grind
   .cases hT
  grind
def MA{C0:bF}{B:Nat}{ρ:Ren}{g:Nat->Option Ob}{w:World}{s c:Nat}{cells:List AV}(hs:StR C0 ρ g w B)(hg:g s=some ⟨1,0,cells⟩)(hρ:ρ s=some (none,c)):
  B<=c/\∃es clock,w.heap[c]? =some (vX es clock)/\ak ρ (bE C0 B w ρ g) cells (es.toList.flatMap λe=>[e.key,e.val]):=by
 obtain⟨q2,c3,k1,⟨_,⟨k2,_⟩|⟨_,k2⟩⟩|⟨b,arr,k2,_⟩⟩:=hs.ob s _ hg
 .grind
 .rw[hρ]at k1;rcases k2 with⟨k3,_⟩|⟨_,k3,es,clock,k4,k5⟩
  .cases k3
  grind
 grind
def Ud{t k e:TypeId}{x i:Operand}{m s:Nat}{ks:List (List Int×AV)}{xs:List Int}{z:AV}{zv:Value}(ho:o.op= .lookup t x i false)(ht:P.underlying t=some (.map k e))(K:MKey P k m)(hz:∀w,(zeroValue e).run P w= .ok zv w)(hzr:∀ρ C,aR ρ C z zv)
  (hx:E x= .mp s) (hi:E i= .p (.agg (kf xs))) (hxs:xs.length=m) (hob:σ s=some ⟨1,0,ft ks⟩) (hks:∀q∈ks,q.1.length=m) (hd:rD ks):bR P o E σ n (n9 ks xs z) [s] [] :=by
 refine bR.pure λC0 ρ g V w B hs hR hE=> ?_;have hgs:g s=some ⟨1,0,ft ks⟩:=by grind
 have hvx:=hE x (by rw[ho];simp[cU]);have hvi:=hE i (by rw[ho];simp[cU]);rw[hx]at hvx;rw[hi]at hvi;obtain⟨c,hρ,hvx⟩:=hvx;obtain⟨_,es,clock,hb,hrep⟩:=MA hs hgs hρ;obtain⟨kv,g1,g2,g3⟩:=Em hrep;have hkl:∀q∈kv,q.1.length=m:=by
  intro q hq;obtain⟨j,hj,e1⟩:=jf hq;have hj':j<ks.length:=by omega
  obtain⟨v,h1,_⟩:=g3 j ks[j] (by grind);rw[eZ hj,e1]at h1;cases h1;grind
 have hrun:∃v,(Instr.lookup t (.map (some c)) (agI xs) false).run P w= .ok v w/\aR ρ (bE C0 B w ρ g) (n9 ks xs z) v:=by
  rcases MM K w xs hxs es.toList kv g1 hkl with⟨h1,h2⟩|⟨j,v,h1,h2⟩
  .refine⟨zv,by simp[Instr.lookup,run_underlying ht,MapKept.run_getObj_map hb,K.check w _ xs hxs,h1,hz,vf],?_⟩;rw[KY]
   .exact hzr _ _
   .intro q hq e;obtain⟨j,hj,e1⟩:=jf hq;obtain⟨v,h3,_⟩:=g3 j q (by grind);grind
  .refine⟨v,by simp[Instr.lookup,run_underlying ht,MapKept.run_getObj_map hb,K.check w _ xs hxs,h1,vf],?_⟩;have hj:j<ks.length:=by rw[<-g2];grind
   obtain⟨q,hq⟩:∃q,ks[j]? =some q:=⟨_,eZ hj⟩;obtain⟨u,h3,h4⟩:=g3 j q hq;rw[h2]at h3;simp only[fZ,sz]at h3;obtain⟨e1,rfl⟩:=h3;rw[MB (v:=q.2) hd (by rw[hq,e1])];exact h4
 obtain⟨v,h1,h2⟩:=hrun;unfold cI execOp;rw[ho];simp only[hvx,Fb hvi,cn,h1,cp,dZ];grind
def jW.get{es:List MapEntry}{kv:List (List Int×Value)}(h:jW es kv){j:Nat}{q:List Int×Value}(hq:kv[j]? =some q):∃e,es[j]? =some e/\e.key=agI q.1/\e.val=q.2:=by have:=congrArg (λl=>l[j]?) h;grind
def S5{t k e:TypeId}{x i y:Operand}{m s:Nat}{ks:List (List Int×AV)}{xs:List Int}(ho:o.op= .mapUpdate t x i y)(ht:P.underlying t=some (.map k e))(K:MKey P k m)
  (hx:E x= .mp s) (hi:E i= .p (.agg (kf xs))) (hxs:xs.length=m) (hob:σ s=some ⟨1,0,ft ks⟩) (hks:∀q∈ks,q.1.length=m) (hd:rD ks):
  bR P o E σ n .undef [s] [(s,some ⟨1,0,ft (ju ks xs (E y))⟩)] :=by
 intro C0 ρ g V w B hs hB hR hn hgn hE;have hgs:g s=some ⟨1,0,ft ks⟩:=by grind
 have hvx:=hE x (by rw[ho];simp[cU]);have hvi:=hE i (by rw[ho];simp[cU]);have hvy:=hE y (by rw[ho];simp[cU]);rw[hx]at hvx;rw[hi]at hvi;obtain⟨c,hρ,hvx⟩:=hvx;obtain⟨hBc,es,clock,hb,hrep⟩:=MA hs hgs hρ;obtain⟨kv,g1,g2,g3⟩:=Em hrep;have hkl:∀q∈kv,q.1.length=m:=by
  intro q hq;obtain⟨j,hj,e1⟩:=jf hq;have hj':j<ks.length:=by omega
  obtain⟨v,h1,_⟩:=g3 j ks[j] (by grind);rw[eZ hj,e1]at h1;cases h1;grind
 generalize hV:bI V y=vy at*;have hrun:∃(es':Array MapEntry) (clock':Nat),(Instr.mapUpdate t (.map (some c)) (agI xs) vy).run P w= .ok () {w with heap:=w.heap.setIfInBounds c (.map es' clock')}/\
   ∃kv',jW es'.toList kv'/\kv'.length=(ju ks xs (E y)).length/\∀(ρ':Ren) (C':bF),(∀s q,ρ s=some q->ρ' s=some q)->(∀b o x,bE C0 B w ρ g b o x->C' b o x)->∀(j:Nat) q,(ju ks xs (E y))[j]? =some q->∃v,kv'[j]? =some (q.1,v)/\aR ρ' C' q.2 v:=by
  rcases MM K w xs hxs es.toList kv g1 hkl with⟨h1,h2⟩|⟨j,v,h1,h2⟩
  .refine⟨es.push ⟨agI xs,vy,clock⟩,clock+1,?_,kv++[(xs,vy)],?_,?_,?_⟩
   .simp[Instr.mapUpdate,run_underlying ht,MapKept.run_getObj_map hb,K.check w _ xs hxs,h1,MapKept.run_setObj_map _ hb,vf]
   .unfold jW at*;grind
   .rw[Ed]
    .simp[g2]
    .intro q hq e;obtain⟨j,hj,e1⟩:=jf hq;obtain⟨v,h3,_⟩:=g3 j q (by grind);grind
   .intro ρ' C' hρ' hC' j q hq;rw[Ed]at hq
    .rcases nF j ks.length with hj|hj
     .rw[mI hj]at hq;obtain⟨v,h3,h4⟩:=g3 j q hq;exact⟨v,by grind,aR.mono hρ' hC' _ _ h4⟩
     .rw[kM hj]at hq;have hj2:j-ks.length=0:=by have:=(rK.1 hq).1;simp at this;omega
      rw[hj2]at hq;simp at hq;subst hq;exact⟨vy,by grind,aR.mono hρ' hC' _ _ hvy⟩
    .intro q hq e;obtain⟨j,hj,e1⟩:=jf hq;obtain⟨v,h3,_⟩:=g3 j q (by grind);grind
  .obtain⟨e0,h5,h6,h7⟩:=g1.get h2;have hj:j<ks.length:=by rw[<-g2];grind
   obtain⟨q0,hq0⟩:∃q,ks[j]? =some q:=⟨_,eZ hj⟩;have hput:ju ks xs (E y)=ks.set j (xs,E y):=NP (u:=q0.2) hd (by grind);have hes:es[j]? =some e0:=by simpa using h5
   refine⟨es.modify j (λe=>{e with key:=agI xs,val:=vy}),clock,?_,kv.set j (xs,vy),?_,?_,?_⟩
   .simp[Instr.mapUpdate,run_underlying ht,MapKept.run_getObj_map hb,K.check w _ xs hxs,h1,hes,h6,V5,MapKept.run_setObj_map _ hb,vf]
   .unfold jW at*;have e1:(es.modify j (λe=>{e with key:=agI xs,val:=vy})).toList=es.toList.set j {e0 with key:=agI xs,val:=vy}:=by
     apply Ce;intro i;rw[yZ];by_cases hij:j=i
     .grind
     .grind
    simp_all
   .grind
   .intro ρ' C' hρ' hC' i q hq;rw[hput,yZ]at hq;split at hq
    .rename_i e1;cases hq;exact⟨vy,by grind,aR.mono hρ' hC' _ _ hvy⟩
    .obtain⟨v,h3,h4⟩:=g3 i q hq;exact⟨v,by grind,aR.mono hρ' hC' _ _ h4⟩
 obtain⟨es',clock',hr,kv',f1,f2,f3⟩:=hrun;have hclt:=qn hb;unfold cI execOp;rw[ho];simp only[hvx,Fb hvi,hV,cn,hr,cp,dZ];have hold:∀b,b≠c->({w with heap:=w.heap.setIfInBounds c (.map es' clock')}:World).heap[b]? =w.heap[b]? :=by intro b hbc;show(w.heap.setIfInBounds c _)[b]? =_;rw[vS,if_neg (by grind)]
 have hnb:({w with heap:=w.heap.setIfInBounds c (.map es' clock')}:World).heap[c]? =some (vX es' clock'):=by show(w.heap.setIfInBounds c _)[c]? =_;rw[vS,if_pos rfl,if_pos hclt]
 have hsize:({w with heap:=w.heap.setIfInBounds c (.map es' clock')}:World).heap.size=w.heap.size:=by simp
 have hos:({w with heap:=w.heap.setIfInBounds c (.map es' clock')}:World).os=w.os/\({w with heap:=w.heap.setIfInBounds c (.map es' clock')}:World).tape=w.tape/\({w with heap:=w.heap.setIfInBounds c (.map es' clock')}:World).output=w.output:=by grind
 generalize ({w with heap:=w.heap.setIfInBounds c (.map es' clock')}:World)=w' at*;have hlk:∀s',s'≠s->[(s,some (⟨1,0,ft (ju ks xs (E y))⟩:Ob))].lookup s'=none:=by intro s' hs';simp[gh,beq_eq_false_iff_ne.2 hs']
 have hup:∀s',s'≠s->ao g [(s,some ⟨1,0,ft (ju ks xs (E y))⟩)] s'=g s':=by intro s' hs';unfold ao;rw[hlk s' hs']
 have hmono:∀b' o' x',bE C0 B w ρ g b' o' x'->bE C0 B w' ρ (ao g [(s,some ⟨1,0,ft (ju ks xs (E y))⟩)]) b' o' x':=by
  intro b' o' x' ⟨e1,e2,e0⟩;have hne:b'≠c:=by intro e3;subst e3;unfold World.cell? at e1;simp[hb]at e1
  refine⟨(i6 (hold b' hne)).trans e1,?_,e0⟩;intro s' c' e3;by_cases e:s'=s
  .grind
  .grind
 refine⟨ρ,λ_ _=>rfl,hmono,?_,by rfl,⟨hos.1,hos.2.1,hos.2.2,by omega,by grind⟩⟩;refine hs.stepG (by grind) (λ_ _ h=>h) hmono ?_ ?_ ?_
 .intro s' o' b' c' e1 e2 e3;refine hold b' λe=> ?_;obtain⟨_,arr,e4⟩:=hs.at e2 e3;exact uT hb e4.blk e.symm
 .intro s' o' c' es2 clock2 e1 e2 e3 e4 e5 e6;refine hold c' λe=> ?_;subst e;have:=hs.mpi s' s o' _ c' c' e2 hgs e3 rfl e5 hρ (.inl (by grind));grind
 .intro s' o' e;have e1:s'=s:=by
   rcases om s' s with h|h
   .grind
   .exact h
  subst e1;have e2:o'=⟨1,0,ft (ju ks xs (E y))⟩:=by simp[gh]at e;exact e.symm
  subst e2;refine⟨none,c,hρ,.inr (.inl ⟨rfl,rfl,.inr ⟨rfl,hBc,es',clock',hnb,Np f1 f2 (f3 ρ _ (λ_ _ h=>h) hmono)⟩,?_⟩)⟩;intro s2 o2 c2 hne e3 e4 e5 hT;rw[hup s2 hne]at e3;exact hne (hs.mpi s' s2 _ o2 c c2 hgs e3 rfl e4 hρ e5 (by
   rcases hT with⟨_,h2,h3⟩|⟨h1,_⟩
   .exact .inl ⟨rfl,h2,h3⟩
   .cases h1)).symm
end
section
def gU:Nat->(Nat->Option Ob)->AV->Option PV
 |_,_,.p x=>some x
 |_,_,.nil=>some (.sl 0 [])
 |_,_,.own .. =>some .junk
 |_,_,.any=>some .junk
 |0,_,.ptr .. =>some .junk
 |d+1,σ,.ptr s off=>(σ s).bind λob=>(di (gU d σ) ob.cells).map λl=> .pro l off
 |d+1,σ,.agg l=>(di (gU d σ) l).map .agg
 |d+1,σ,.fn f a b=>(di (gU d σ) a).bind λx=>(di (gU d σ) b).map λy=> .fn f x y
 |_,_,_=>none
def ff:Nat->(Nat->Option Ob)->AV->List Nat
 |0,_,_=>[]
 |d+1,σ,.ptr s _=>s::(match σ s with|some ob=>bK (ff d σ) ob.cells|none=>[])
 |d+1,σ,.agg l=>bK (ff d σ) l
 |d+1,σ,.fn _ a b=>bK (ff d σ) a++bK (ff d σ) b
 |_,_,_=>[]
def VN{C0:bF}{ρ:Ren}{g σ:Nat->Option Ob}{w:World}{B s0 b0 c0:Nat}{o0:Ob}(hs:StR C0 ρ g w B)(hg0:g s0=some o0)(hρ0:ρ s0=some (some b0,c0)):
  ∀(d:Nat) (x:AV) (y:PV) (v:Value),gU d σ x=some y->(∀s∈ff d σ x,s≠s0/\g s=σ s)->aR ρ (bE C0 B w ρ g) x v->aU (λb o u=>w.cell? ⟨b,o,none⟩=some u/\b≠b0) y v:=by
 have hfull:∀b o v,bE C0 B w ρ g b o v->w.cell? ⟨b,o,none⟩=some v/\b≠b0:=λb o v h=>⟨h.1,λe=>by subst e;have:=h.2.1 s0 c0 hρ0;grind⟩;intro d;induction d with
 |zero=>
  intro x y v h hr hx;unfold gU at h;split at h<;>first|(cases h;done)|skip
  .cases h;exact aU.mono hfull _ v hx
  .cases h;unfold aR at hx;unfold aU;grind
  .cases h;trivial
  .cases h;trivial
  .cases h;trivial
  all_goals (rename_i e;cases e)
 |succ d ih=>
  have ihL:∀(l:List AV) (m:List PV) (vs:List Value),di (gU d σ) l=some m->(∀s∈bK (ff d σ) l,s≠s0/\g s=σ s)->ak ρ (bE C0 B w ρ g) l vs->af (λb o u=>w.cell? ⟨b,o,none⟩=some u/\b≠b0) m vs:=by
   intro l m vs h hr hv;obtain⟨h1,h2⟩:=nW h;refine af.of _ _ (by rw[<-h1];exact hv.length) λi y hi=> ?_;have hlt:i<l.length:=by rw[h1];grind
   obtain⟨y',h3,h4⟩:=h2 i l[i] (by grind);rw[hi]at h3;cases h3;obtain⟨v,h5,h6⟩:=hv.get _ _ i l[i] (by grind);exact⟨v,h5,ih _ _ v h4 (λs hs'=>hr s (nO (by grind) hs')) h6⟩
  intro x y v h hr hx;unfold gU at h;split at h<;>first|(cases h;done)|skip
  .cases h;exact aU.mono hfull _ v hx
  .cases h;unfold aR at hx;unfold aU;grind
  .cases h;trivial
  .cases h;trivial
  .omega
  .rename_i σ _ _ _ d' s off e;cases e;simp only[qE,lQ]at h;obtain⟨ob,h1,l,h2,rfl⟩:=h;obtain⟨hne,hg⟩:=hr s (by simp[ff]);have hg:g s=some ob:=hg.trans h1;have hr2:∀s'∈bK (ff d σ) ob.cells,s'≠s0/\g s'=σ s':=λs' hs'=>hr s' (by simp only[ff,h1];grind);obtain⟨b,c,hq,hv⟩:=hx;refine⟨b,0,by grind,?_⟩;obtain⟨hBb,arr,hO⟩:=hs.at hg hq;obtain⟨g1,g2⟩:=nW h2;refine cK.of _ _ _ λi y hi=> ?_;have hlt:i<ob.cells.length:=by rw[g1];grind
   obtain⟨y',h5,h6⟩:=g2 i ob.cells[i] (by grind);rw[hi]at h5;cases h5;obtain⟨v,k1,k2,k3⟩:=hO.cells i ob.cells[i] (by grind);refine⟨v,⟨by rw[jg,hO.cell];exact k1,λe=> ?_⟩,k2,ih _ _ v h6 (λs hs'=>hr2 s (nO (by grind) hs')) k3⟩;subst e;exact hne (hs.inj s s0 _ _ b c c0 hg hg0 hq hρ0)
  .rename_i d' l e;cases e;simp only[lQ]at h;obtain⟨m,h2,rfl⟩:=h;obtain⟨vs,h3,h4,h5⟩:=hx;exact⟨vs,h3,ihL l m vs h2 (λs hs'=>hr s hs') h4,h5⟩
  .rename_i d' f a b e;cases e;simp only[qE,lQ]at h;obtain⟨x1,h1,x2,h2,rfl⟩:=h;obtain⟨vs1,vs2,h3,h4,h5⟩:=hx;exact⟨vs1,vs2,h3,ihL a x1 vs1 h1 (λs hs'=>hr s (gZ _ hs')) h4,ihL b x2 vs2 h2 (λs hs'=>hr s (fY _ hs')) h5⟩
def JK{C0:bF}{ρ:Ren}{g σ:Nat->Option Ob}{w:World}{B s0 b0 c0 d:Nat}{o0:Ob}(hs:StR C0 ρ g w B)(hg0:g s0=some o0)(hρ0:ρ s0=some (some b0,c0)):
  ∀{l:List AV} {m:List PV} {vs:List Value},di (gU d σ) l=some m->(∀s∈bK (ff d σ) l,s≠s0/\g s=σ s)->ak ρ (bE C0 B w ρ g) l vs->af (λb o u=>w.cell? ⟨b,o,none⟩=some u/\b≠b0) m vs:=by
 intro l m vs h hr hv;obtain⟨h1,h2⟩:=nW h;refine af.of _ _ (by rw[<-h1];exact hv.length) λi y hi=> ?_;have hlt:i<l.length:=by rw[h1];grind
 obtain⟨y',h3,h4⟩:=h2 i l[i] (by grind);rw[hi]at h3;cases h3;obtain⟨v,h5,h6⟩:=hv.get _ _ i l[i] (by grind);exact⟨v,h5,VN hs hg0 hρ0 d _ _ v h4 (λs hs'=>hr s (nO (by grind) hs')) h6⟩
variable {P:Program}
def flat1(x:PV):Bool:=match x with
 | .int .. | .bool _| .str _=>true
 |_=>false
def EB{C C':bF}{x:PV}{v:Value}(hf:flat1 x=true)(h:aU C x v):aU C' x v:=by cases x<;>first|(cases hf;done)|(unfold aU at*;exact h)
def Hl(P:Program)(f:FuncId)(n:Nat)(A:List PV)(ty esz:Nat)(cells cells':List PV)(m:Nat):Prop:=jX P f=true/\cells'.length<=cells.length/\m<=n/\cells'.all flat1=true/\
 ∀(C:bF) (w:World) (b c:Nat) (arr:Array Value) (vs:List Value),(∀b' o v,C b' o v->w.cell? ⟨b',o,none⟩=some v/\b'≠b)->Lent C w b c ty esz cells arr->n<=c->af C A vs->
  Calls P f (.slice (some ⟨b,0,none⟩) n c::vs).toArray w λe w'=>∃arr',e= .returned (.slice (some ⟨b,0,none⟩) m c)/\w'.heap[b]? =some (.cells arr' ty (0,0))/\arr'.size=arr.size/\
   (∀(i:Nat) x,cells'[i]? =some x->∃v,arr'[i]? =some v/\v.oneCell'=true/\aU C x v)/\w.grownBy w' (some b)
variable {o:Oper} {E:Operand->AV} {σ:Nat->Option Ob} {n:Nat}
def K4{c:Call}{f:Operand}{fid:FuncId}{s k m ty esz:Nat}{rest:List AV}{A cells cells':List PV}(ho:o.op= .call c)(hc:c.callee= .value f)(hfv:E f= .p (.fn (.func fid) [] []))
  (hargs:c.args.toList.map E= .own s 0 k::rest) (hob:σ s=some ⟨ty,esz,cells.map .p⟩) (he:esz≠0) (hk:0<k) (hA:di (gU 3 σ) rest=some A) (hns:s∉bK (ff 3 σ) rest) (hS:Hl P fid k A ty esz cells cells' m):
  bR P o E σ n (.own (sit n 0) 0 m) (s::bK (ff 3 σ) rest) [(s,none),(sit n 0,some ⟨ty,esz,cells'.map .p⟩)] :=by
 have hfm:f∈o.op.operands.toList:=by rw[ho];simp[cU,jI,hc]
 have ham:∀x∈c.args.toList,x∈o.op.operands.toList:=by intro x hx;rw[ho];simp[cU,jI];exact .inr (by grind)
 obtain⟨hok,hlen,hmk,hfl,hcall⟩:=hS;intro C0 ρ g V w B hs hB hR hn hgn hE;have hn:=hn _ (gm n 0);have hgn:=hgn _ (gm n 0);have hcl:∀s,cls s≠n->s≠sit n 0:=λs h e=>h (by rw[e];exact gm n 0);have hl:∀l:List Operand,(∀x∈l,x∈o.op.operands.toList)->ak ρ (bE C0 B w ρ g) (l.map E) (l.map (bI V)):=by
  intro l;induction l with
  |nil=>intro _;rfl
  |cons x l ih=>
   unfold ak;grind
 have hall:=hl _ ham;rw[hargs]at hall;unfold ak at hall;obtain⟨v,us,hvs,hv,hus⟩:=hall;have hvf:bI V f= .func (.func fid) #[] #[] :=by have:=hE f hfm;rw[hfv]at this;unfold aR aU at this;obtain⟨v1,v2,h1,h2,h3⟩:=this;unfold af at h2 h3;rw[h1,h2,h3]
 have hrun:(execOp (bI V) o).run P w= .ok (.enter fid (v::us).toArray) w:=by
  unfold execOp;rw[ho];have e2: #[] ++s8 (bI V) c.args++ #[] =(v::us).toArray:=by rw[<-hvs];apply ol.1;simp
  simp only[resolve,hc,hvf,s9,cn,dZ,cp,invoke,kk hok,e2]
 have hgs:g s=some ⟨ty,esz,cells.map .p⟩:=by grind
 unfold aR at hv;obtain⟨q,cap,hρ,⟨_,_,hk0,_⟩|⟨b,o',c',rfl,rfl,h5,h6,h7⟩⟩:=hv
 .omega
 obtain⟨rfl,rfl⟩:=h7 rfl;obtain⟨hBb,arr,hO⟩:=hs.at hgs hρ;have hL:Lent (λb' o u=>w.cell? ⟨b',o,none⟩=some u/\b'≠b) w b c' ty esz cells arr:=by refine⟨hO.blk,λh=>by omega,λh=>by simpa using hO.row h,λi x hi=> ?_⟩;obtain⟨u,h1,h2,h3⟩:=hO.cells i (.p x) (by grind);unfold aR at h3;exact⟨u,h1,h2,aU.mono (λb' o v h=>⟨h.1,λe=>by subst e;have:=h.2.1 s c' hρ;grind⟩) x u h3⟩
 have hcN:cells.length<=arr.size:=by simpa using(hO.row he).2.1
 unfold cI;rw[hrun];dsimp only;refine(hcall _ w b c' arr us (by grind) hL h5 (JK hs hgs hρ hA (by grind) hus)).mono ?_;rintro e w' ⟨arr',rfl,hblk,hsz,hcells,hG⟩;generalize hnS:sit n 0=nS at*;have hsn:s≠nS:=λe=>by grind
 let ρ':Ren:=λt=>if t=nS then some (some b,c')else ρ t
 have hρn:ρ' nS=some (some b,c'):=if_pos rfl;have hρs:∀t,t≠nS->ρ' t=ρ t:=by grind
 have hext:∀t q,ρ t=some q->ρ' t=some q:=by grind
 have hlk:∀t,t≠s->t≠nS->[(s,none),(nS,some (⟨ty,esz,cells'.map .p⟩:Ob))].lookup t=none:=by intro t h1 h2;simp[gh,beq_eq_false_iff_ne.2 h1,beq_eq_false_iff_ne.2 h2]
 have hup:∀t,t≠s->t≠nS->ao g [(s,none),(nS,some ⟨ty,esz,cells'.map .p⟩)] t=g t:=by intro t h1 h2;unfold ao;rw[hlk t h1 h2]
 have hups:ao g [(s,none),(nS,some ⟨ty,esz,cells'.map .p⟩)] s=none:=by unfold ao;simp[gh]
 have hold:∀k,k<w.heap.size->k≠b->w'.heap[k]? =w.heap[k]? :=λk h1 h2=>hG.block k h1 (by grind);have hmono:∀b' o' x,bE C0 B w ρ g b' o' x->bE C0 B w' ρ' (ao g [(s,none),(nS,some ⟨ty,esz,cells'.map .p⟩)]) b' o' x:=by
  intro b' o' x ⟨e1,e2,e0⟩;have hne:b'≠b:=λe=>by grind
  refine⟨(i6 (hold b' (jh w ⟨b',o',none⟩ e1) hne)).trans e1,?_,e0⟩;intro t c2 e3;by_cases h1:t=nS
  .grind
  .grind
 refine⟨_,rfl,ρ',by grind,hmono,?_,by unfold aR;grind,⟨hG.os,hG.tape,hG.output,hG.size,by grind⟩⟩;refine hs.step (by grind) hext hmono ?_ ?_ λk es clock hk=>hold k (qn hk) (uT hk hO.blk)
 .intro t ob b' c2 e1 e2 e3;obtain⟨_,arr2,e4⟩:=hs.at e2 e3;refine hold b' e4.lt λe=> ?_;subst e;have:=hs.inj t s ob _ b' c2 c' e2 hgs e3 hρ;grind
 .intro t ob e1;have e2:t=nS:=by
   rcases om t nS with h1|h1
   .grind
   .exact h1
  subst e2;have e3:ob=⟨ty,esz,cells'.map .p⟩:=by simp[gh,beq_eq_false_iff_ne.2 (Ne.symm hsn)]at e1;exact e1.symm
  subst e3;obtain⟨r1,r2,r3⟩:=hO.row he;refine⟨some b,c',hρn,.inr ⟨b,arr',rfl,hBb,⟨hblk,by grind,by grind,λi x hi=> ?_⟩,?_⟩⟩
  .rw[fy]at hi;cases hc2:cells'[i]? with
   |none=>grind
   |some y=>
    rw[hc2]at hi;simp only[eI,fZ]at hi;subst hi;obtain⟨u,h1,h2,h3⟩:=hcells i y hc2;exact⟨u,h1,h2,by exact EB (by grind) h3⟩
  .intro t' ob' c2 hne hg' hr';rw[hρs t' hne]at hr';by_cases h2:t'=s
   .grind
   .rw[hup t' h2 hne]at hg';exact h2 (hs.inj t' s ob' _ b c2 c' hg' hgs hr' hρ)
def Kz{c:Call}{f:Operand}{fid:FuncId}{s k ty esz:Nat}{rest:List AV}{A cells cells':List PV}(ho:o.op= .call c)(hc:c.callee= .value f)(hfv:E f= .p (.fn (.func fid) [] []))
  (hargs:c.args.toList.map E= .own s 0 k::rest) (hob:σ s=some ⟨ty,esz,cells.map .p⟩) (he:esz≠0) (hk:0<k) (hA:di (gU 3 σ) rest=some A) (hns:s∉bK (ff 3 σ) rest) (hfl:cells'.all flat1=true) (hS:mF P fid (some k) A ty esz cells cells'):
  bR P o E σ n .undef (s::bK (ff 3 σ) rest) [(s,some ⟨ty,esz,cells'.map .p⟩)] :=by
 have hfm:f∈o.op.operands.toList:=by rw[ho];simp[cU,jI,hc]
 have ham:∀x∈c.args.toList,x∈o.op.operands.toList:=by intro x hx;rw[ho];simp[cU,jI];exact .inr (by grind)
 obtain⟨hok,hlen,hcall,_⟩:=hS;intro C0 ρ g V w B hs hB hR hn hgn hE;have hl:∀l:List Operand,(∀x∈l,x∈o.op.operands.toList)->ak ρ (bE C0 B w ρ g) (l.map E) (l.map (bI V)):=by
  intro l;induction l with
  |nil=>intro _;rfl
  |cons x l ih=>
   unfold ak;grind
 have hall:=hl _ ham;rw[hargs]at hall;obtain⟨v,us,hvs,hv,hus⟩:=hall;have hvf:bI V f= .func (.func fid) #[] #[] :=by have:=hE f hfm;rw[hfv]at this;unfold aR aU at this;obtain⟨v1,v2,h1,h2,h3⟩:=this;unfold af at h2 h3;rw[h1,h2,h3]
 have hrun:(execOp (bI V) o).run P w= .ok (.enter fid (v::us).toArray) w:=by
  unfold execOp;rw[ho];have e2: #[] ++s8 (bI V) c.args++ #[] =(v::us).toArray:=by rw[<-hvs];apply ol.1;simp
  simp only[resolve,hc,hvf,s9,cn,dZ,cp,invoke,kk hok,e2]
 have hgs:g s=some ⟨ty,esz,cells.map .p⟩:=by grind
 obtain⟨q,cap,hρ,⟨_,_,hk0,_⟩|⟨b,o',c',rfl,rfl,h5,h6,h7⟩⟩:=hv
 .omega
 obtain⟨rfl,rfl⟩:=h7 rfl;obtain⟨hBb,arr,hO⟩:=hs.at hgs hρ;have hL:Lent (λb' o u=>w.cell? ⟨b',o,none⟩=some u/\b'≠b) w b c' ty esz cells arr:=by refine⟨hO.blk,λh=>by omega,λh=>by simpa using hO.row h,λi x hi=> ?_⟩;obtain⟨u,h1,h2,h3⟩:=hO.cells i (.p x) (by grind);unfold aR at h3;exact⟨u,h1,h2,aU.mono (λb' o v h=>⟨h.1,λe=>by subst e;have:=h.2.1 s c' hρ;grind⟩) x u h3⟩
 unfold cI;rw[hrun];refine(hcall _ w b c' arr us (by grind) hL (by grind) (JK hs hgs hρ hA (by grind) hus)).mono ?_;rintro e w' ⟨arr',rfl,hL',hG⟩;have hlk:∀t,t≠s->[(s,some (⟨ty,esz,cells'.map .p⟩:Ob))].lookup t=none:=by intro t h1;simp[gh,beq_eq_false_iff_ne.2 h1]
 have hup:∀t,t≠s->ao g [(s,some ⟨ty,esz,cells'.map .p⟩)] t=g t:=by intro t h1;unfold ao;rw[hlk t h1]
 have hold:∀k,k<w.heap.size->k≠b->w'.heap[k]? =w.heap[k]? :=λk h1 h2=>hG.block k h1 (by grind);have hmono:∀b' o' x,bE C0 B w ρ g b' o' x->bE C0 B w' ρ (ao g [(s,some ⟨ty,esz,cells'.map .p⟩)]) b' o' x:=by
  intro b' o' x ⟨e1,e2,e0⟩;have hne:b'≠b:=λe=>by grind
  refine⟨(i6 (hold b' (jh w ⟨b',o',none⟩ e1) hne)).trans e1,?_,e0⟩;intro t c2 e3;by_cases h2:t=s
  .grind
  .grind
 refine⟨_,rfl,ρ,λ_ _=>rfl,hmono,?_,by rfl,⟨hG.os,hG.tape,hG.output,hG.size,by grind⟩⟩;refine hs.step (by grind) (λ_ _ h=>h) hmono ?_ ?_ λk es clock hk=>hold k (qn hk) (uT hk hO.blk)
 .intro t ob b' c2 e1 e2 e3;obtain⟨_,arr2,e4⟩:=hs.at e2 e3;refine hold b' e4.lt λe=> ?_;subst e;have:=hs.inj t s ob _ b' c2 c' e2 hgs e3 hρ;grind
 .intro t ob e1;have e2:t=s:=by
   rcases om t s with h1|h1
   .grind
   .exact h1
  subst e2;have e3:ob=⟨ty,esz,cells'.map .p⟩:=by simp[gh]at e1;exact e1.symm
  subst e3;refine⟨some b,c',hρ,.inr ⟨b,arr',rfl,hBb,⟨hL'.blk,by grind,λh=>by simpa using hL'.row h,λi x hi=> ?_⟩,?_⟩⟩
  .rw[fy]at hi;cases hc2:cells'[i]? with
   |none=>grind
   |some y=>
    rw[hc2]at hi;simp only[eI,fZ]at hi;subst hi;obtain⟨u,h1,h2,h3⟩:=hL'.cells i y hc2;exact⟨u,h1,h2,by exact EB (by grind) h3⟩
  .intro t' ob' c2 hne hg' hr';rw[hup t' hne]at hg';exact hne (hs.inj t' t ob' _ b c2 c' hg' hgs hr' hρ)
end
def eE(x y:Int):Int:=if x<y then-1 else if y<x then 1 else 0
def aBe(ax ay bx b_y:Int)(w:World):fm bD (binOp .eql 44 (.agg #[.int .i64 ax,.int .i64 ay]) (.agg #[.int .i64 bx,.int .i64 b_y])) w= .ok (.bool (ax==bx&&ay==b_y)) w:=by
 have u3:=Tryz.underlying3;have a3:=Tryz.isAgg3;have z3:=Tryz.sizeOf3;have hS:bD.underlying 44=some (.struct (bD.fieldsOf 44)):=by kernel_rfl
 have hp:bD.stoodInHeld 44=false:=by kernel_rfl
 rw[run_eql_struct,show(10000:Nat)=9999+1 from rfl,run_equalIn_agg w 9999 44 _ _ hS hp];simp only[Program.fieldsOf,Tryz.underlying44]
 go_simp
 grind
section
def fU(r:List V):List PV:=r.flatMap λv=>[.int .i64 v.x,.int .i64 v.y]
def CJ(l:List S):List PV:=l.flatMap λs=>[.int .i64 s.a.x,.int .i64 s.a.y,.int .i64 s.b.x,.int .i64 s.b.y]
def gD(r:List V):PV:= .sl r.length (fU r)
def Gk(l:List S):PV:= .sl l.length (CJ l)
def nt(l:List aD):PV:= .sl l.length (l.map gD)
def kC(s:Shape):PV:= .agg [gD s.outer,nt s.holes]
def jd{α:Type}(m:Nat)(enc:List α->List PV)(e:α->List PV):Prop:=∀l,enc l=l.flatMap e/\∀x,(e x).length=m
section
variable {α:Type} {m:Nat} {enc:List α->List PV} {e:α->List PV}
def jd.length(h:jd m enc e)(l:List α):(enc l).length=l.length*m:=by
 rw[(h l).1];induction l with
 |nil=>simp
 |cons x l ih=>simp only[fX,List.length_append,ih,(h []).2 x,gY,yd];omega
def jd.append(h:jd m enc e)(l k:List α):enc (l++k)=enc l++enc k:=by rw[(h _).1,(h l).1,(h k).1,List.flatMap_append]
def jd.at(h:jd m enc e)(l:List α)(i:Nat)(hi:i<l.length):((enc l).drop (i*m)).take m=e l[i] :=by
 have h1:l=l.take i++l[i] ::l.drop (i+1):=by rw[List.getElem_cons_drop];simp
 have h2:enc l=enc (l.take i)++(e l[i] ++enc (l.drop (i+1))):=by
  conv=>lhs;rw[h1]
  rw[h.append,(h (l[i] ::_)).1,fX,<-(h _).1]
 have h3:=h.length (l.take i);rw[kP,IH (by omega)]at h3;rw[h2,<-h3,List.drop_left,<-(h []).2 l[i],Cj]
def jd.take(h:jd m enc e)(l:List α)(k:Nat):(enc l).take (k*m)=enc (l.take k):=by
 by_cases hk:k<=l.length
 .have h3:=h.length (l.take k);rw[kP,IH hk]at h3
  conv=>lhs;rw[<-vj k l,h.append,<-h3,Cj]
 .rw[gu (by rw[h.length];exact Cf _ (by omega)),gu (by omega)]
def jd.drop(h:jd m enc e)(l:List α)(k:Nat):(enc l).drop (k*m)=enc (l.drop k):=by
 by_cases hk:k<=l.length
 .have h3:=h.length (l.take k);rw[kP,IH hk]at h3
  conv=>lhs;rw[<-vj k l,h.append,<-h3,List.drop_left]
 .have e1:l.drop k=[] :=SI (by omega);rw[e1,SI (by rw[h.length];exact Cf _ (by omega)),(h []).1];rfl
end
def ue:jd 2 fU λv=>[.int .i64 v.x,.int .i64 v.y] :=λ_=>⟨rfl,λ_=>rfl⟩
def aAW:jd 4 CJ λs=>[.int .i64 s.a.x,.int .i64 s.a.y,.int .i64 s.b.x,.int .i64 s.b.y] :=λ_=>⟨rfl,λ_=>rfl⟩
def nth_eq{v:List V}{i:Nat}(h:i<v.length):aEn v i=v[i] :=by unfold aEn;grind
def Zc{v:List V}{i:Nat}(h:i<v.length):((fU v).drop (i*2)).take 2=[.int .i64 (aEn v i).x,.int .i64 (aEn v i).y] :=by rw[nth_eq h];exact ue.at v i h
def YE:xv bD 44 2:=by
 intro xs ys x y w hx hy;match xs,ys,hx,hy with
 |[a,b],[c,d],_,_=>
  have h1:=aBe a b c d w;refine⟨?_,?_⟩
  .simp only[cT,j6];simp[eqGuard,h1]
  .simp only[cT,j6];simp[eqGuard];rw[run_neq_struct];rw[run_eql_struct]at h1;revert h1;generalize fm bD (Op.equalIn 10000 44 (Value.agg #[cV ic a,cV ic b]) (Value.agg #[cV ic c,cV ic d])) w=R;intro h1;cases R with
   |ok q w'=>
    simp[vf]at h1;obtain⟨rfl,rfl⟩:=h1;simp[vf];grind
   |_=>simp_all
def az(l:List S)(i:Nat):S:=l.getD i default
def aX(l:List (Nat×Nat))(i:Nat):Nat×Nat:=l.getD i default
def cu(l:List Int)(i:Nat):Int:=l.getD i 0
def oQ(l:List Bool)(i:Nat):Bool:=l.getD i false
def ng{α:Type}{l:List α}{i:Nat}{d:α}(h:i<l.length):l.getD i d=l[i] :=by grind
def jD{l:List S}{i:Nat}(h:i<l.length):az l i=l[i] :=ng h
def jM{l:List aD}{i:Nat}(h:i<l.length):aC l i=l[i] :=ng h
def mZ{l:List (Nat×Nat)}{i:Nat}(h:i<l.length):aX l i=l[i] :=ng h
def Ly{l:List S}{i:Nat}(h:i<l.length):az l i∈l:=by rw[jD h];grind
def Lz{l:List (Nat×Nat)}{i:Nat}(h:i<l.length):aX l i∈l:=by rw[mZ h];grind
section
variable {α:Type} {m:Nat} {enc:List α->List PV} {e:α->List PV}
def jd.sub(h:jd m enc e)(l:List α){k:Nat}(hk:k<l.length)(j n:Nat)(hj:j+n<=m):((enc l).drop (k*m+j)).take n=((e l[k]).drop j).take n:=by
 have h1:=h.at l k hk;have h2:(((enc l).drop (k*m)).drop j).take n=((((enc l).drop (k*m)).take m).drop j).take n:=by
  rw[List.drop_take,List.take_take]
  congr 1;omega
 simp_all
def jd.get(h:jd m enc e)(l:List α){k:Nat}(hk:k<l.length)(j:Nat)(hj:j<m):(enc l)[k*m+j]? =(e l[k])[j]? :=by have h1:=h.at l k hk;grind
end
section
variable {α:Type} {m:Nat} {enc:List α->List PV} {e:α->List PV}
end
def BI:(∀a b:Bool,((a&&b)=true)=(a=true/\b=true))/\(∀a b:Bool,((a||b)=true)=(a=true\/b=true))/\(∀a b:Bool,((a&&b)=false)=(a=false\/b=false))/\(∀a b:Bool,((a||b)=false)=(a=false/\b=false))/\(∀b:Bool,((!b)=true)=(b=false))/\(∀b:Bool,((!b)=false)=(b=true))/\(∀(p:Prop) [Decidable p],(decide p=true)=p)/\(∀(p:Prop) [Decidable p],(decide p=false)=¬p)/\(∀{α:Type} [BEq α] [LawfulBEq α] (a b:α),((a==b)=true)=(a=b))/\(∀{α:Type} [BEq α] [LawfulBEq α] (a b:α),((a==b)=false)=(a≠b))/\(∀{α:Type} [BEq α] [LawfulBEq α] (a b:α),((a !=b)=true)=(a≠b))/\(∀{α:Type} [BEq α] [LawfulBEq α] (a b:α),((a !=b)=false)=(a=b)):=
 ⟨by simp,by simp,by simp,by simp,by simp,by simp,λp _=>by simp,λp _=>by simp,λa b=>by simp,λa b=>by simp,λa b=>by simp,λa b=>by simp⟩
end
section
noncomputable section
inductive Fm:Type 1
 |tt
 |stuck (n:Nat)
 |need (p:Prop) (f:Fm)
 |imp (p:Prop) (f:Fm)
 |both (f g:Fm)
 |all (X:Type) (f:X->Fm)
 |ex (X:Type) (f:X->Fm)
def Fm.isTT:Fm->Bool
 | .tt=>true
 |_=>false
def Fm.holds:Fm->Prop
 | .tt=>True
 | .stuck _=>False
 | .need p f=>(match f.isTT with|true=>p|false=>p/\f.holds)
 | .imp p f=>p->f.holds
 | .both f g=>(match f.isTT,g.isTT with|true,_=>g.holds|false,true=>f.holds|false,false=>f.holds/\g.holds)
 | .all X f=>∀x:X,(f x).holds
 | .ex X f=>∃x:X,(f x).holds
def Fm.GY{f:Fm}(h:f.isTT=true):f.holds:=by cases f<;>first|trivial|cases h
def Fm.UY{p:Prop}{f:Fm}(h:(Fm.need p f).holds):p/\f.holds:=by
 unfold Fm.holds at h;split at h
 .rename_i e;exact⟨h,Fm.GY e⟩
 .exact h
def Fm.tU{f g:Fm}(h:(Fm.both f g).holds):f.holds/\g.holds:=by
 unfold Fm.holds at h;split at h
 .rename_i e;exact⟨Fm.GY e,h⟩
 .rename_i e;exact⟨h,Fm.GY e⟩
 .exact h
def qt:List Prop->Fm->Fm
 |[],f=>f
 |p::l,f=> .need p (qt l f)
def rQ:∀{l:List Prop} {f:Fm},(qt l f).holds->(∀p∈l,p)/\f.holds
 |[],f,h=>⟨by grind,h⟩
 |q::l,f,h=>by
  obtain⟨h1,h2⟩:=Fm.UY h;obtain⟨h3,h4⟩:=rQ h2;grind
def oZ:List Prop->Prop
 |[] =>True
 |[p] =>p
 |p::l=>p/\oZ l
def jK:∀{l:List Prop},oZ l↔∀p∈l,p
 |[] =>⟨by grind,λ_=>trivial⟩
 |[p] =>⟨λh q hq=>(by rw[bh.1 hq];exact h),λh=>h p (by grind)⟩
 |p::q::l=>by
  show p/\oZ (q::l)↔_;rw[jK];exact⟨by grind,λh=>⟨h p (by grind),by grind⟩⟩
def HW(l:List Prop)(f:Fm):Fm:=match l with
 |[] =>f
 |p::l=> .imp (oZ (p::l)) f
def Jl{l:List Prop}{f:Fm}(h:(HW l f).holds)(hl:∀p∈l,p):f.holds:=by
 cases l with
 |nil=>exact h
 |cons p l=>exact(h:oZ (p::l)->_) (jK.2 hl)
inductive LT where
 |V|S|R|I|B|P|Q
deriving DecidableEq
@[reducible] def LT.ty : LT → Type
  | .V => Geo.V
  | .S => Geo.S
  | .R => aD
  | .I => Int
  | .B => Bool
  | .P => Nat × Nat
  | .Q => List Int
def LT.w:LT->Nat
 | .V=>2
 | .S=>4
 | .R=>1
 | .I=>1
 | .B=>1
 | .P=>2
 | .Q=>1
def CK(l:List Int):List PV:=l.flatMap λn=>[.int .i64 n]
def ae(l:List (List Int))(i:Nat):List Int:=l.getD i []
def LT.rowP:(t:LT)->t.ty->List PV
 | .V=>λv=>[.int .i64 v.x,.int .i64 v.y]
 | .S=>λs=>[.int .i64 s.a.x,.int .i64 s.a.y,.int .i64 s.b.x,.int .i64 s.b.y]
 | .R=>λr=>[.sl r.length (fU r)]
 | .I=>λn=>[.int .i64 n]
 | .B=>λb=>[.bool b]
 | .P=>λp=>[.int .i64 p.1,.int .i64 p.2]
 | .Q=>λr=>[.sl r.length (CK r)]
def LT.enc(t:LT)(l:List t.ty):List PV:=l.flatMap t.rowP
def LT.wide(t:LT):jd t.w t.enc t.rowP:=λ_=>⟨rfl,λx=>by cases t<;>rfl⟩
def LT.kF(t:LT):0<t.w:=by cases t<;>decide
def LT.nth:(t:LT)->List t.ty->Nat->t.ty
 | .V=>aEn
 | .S=>az
 | .R=>aC
 | .I=>cu
 | .B=>oQ
 | .P=>aX
 | .Q=>ae
def LT.nth_eq(t:LT)(l:List t.ty){i:Nat}(h:i<l.length):t.nth l i=l[i] :=by
 cases t
 .exact Go.Proofs.YtdaeofhdgabhjaaGreat.nth_eq h
 .exact jD h
 .exact jM h
 .exact ng h
 .exact ng h
 .exact mZ h
 .exact ng h
inductive SV where
 |any|undef|nil
 |int (k:IntKind) (n:Int)
 |bool (b:Bool)
 |lit (b:Bool)
 |prop (p:Prop) (d:Decidable p)
 |str (s:ByteArray)
 |agg (l:List SV)
 |tup (l:List SV)
 |lst (t:LT) (l:List t.ty)
 |sl (n:Nat) (cells:List SV)
 |pe (t:LT) (l:List t.ty) (i off:Nat)
 |pro (cells:List SV) (off:Nat)
 |fn (f:Nat) (first caps:List SV)
 |fnp (f:Nat) (first caps:List SV)
 |clo1 (pv:PV) (t:LT) (q:t.ty->Bool) (dom:t.ty->Prop)
 |clo2 (pv:PV) (t:LT) (q:t.ty->t.ty->Int) (dom:t.ty->t.ty->Prop)
 |ptr (s off:Nat)
 |pte (s:Nat) (t:LT) (i off:Nat)
 |own (s:Nat) (t:LT) (n:Nat)
 |owns (s:Nat) (t:LT) (o n:Nat)
 |ownx (s n:Nat)
 |ptb (F:Nat->Bool) (n off:Nat)
 |ownf (x:Nat) (t:LT) (a n:Nat)
 |ptef (x:Nat) (t:LT) (a i off:Nat)
 |ptf (x a:Nat)
 |owF (x n:Nat)
 |junk
 |mp (s:Nat)
def NM:Nat:=1000000
def ncl(x:Nat):Nat:=x % NM
def idx(s:Nat):Nat:=(s/2^cls s-1)/2
def Fe(n i:Nat):idx (sit n i)=i:=by unfold idx;rw[gm];unfold sit;rw[Nat.mul_div_cancel_left _ (by grind)];omega
def M6(n i:Nat):0<sit n i:=Nat.mul_pos (by grind) (by omega)
structure Sites where
 inn:Nat->Nat->Nat
 nm:Nat->Nat
 sub:Nat->Nat
 h1:∀x a,nm (inn x a)=x
 h2:∀x a,sub (inn x a)=a
 h3:∀x a,cls (inn x a)=ncl x
 h4:∀x,x<NM->inn x 0=sit x 0
theorem UL:Nonempty Sites:=⟨⟨λx a=>sit (x % NM) (sit (x/NM) a-1),λs=>cls (idx s+1)*NM+cls s,λs=>idx (idx s+1),
 λx a=>by rw[Fe,gm,Hs (M6 _ _),gm];exact Nat.div_add_mod' x NM,
 λx a=>by rw[Fe,Hs (M6 _ _),Fe],
 λx a=>gm _ _,
 λx h=>by rw[dj h,Nat.div_eq_of_lt h];rfl⟩⟩
def sites:Sites:=Classical.choice UL
def inn(x a:Nat):Nat:=sites.inn x a
def aM(x:Nat):Nat:=inn x 0
def nm(s:Nat):Nat:=sites.nm s
def sub(s:Nat):Nat:=sites.sub s
def sI(x a:Nat):nm (inn x a)=x:=sites.h1 x a
def rp(x a:Nat):sub (inn x a)=a:=sites.h2 x a
def fG(x a:Nat):cls (inn x a)=ncl x:=sites.h3 x a
def fD{x y a b:Nat}(h:inn x a=inn y b):x=y/\a=b:=⟨by rw[<-sI x a,h,sI],by rw[<-rp x a,h,rp]⟩
def kn{x y:Nat}(h:aM x=aM y):x=y:=(fD h).1
def zM{x:Nat}(h:x<NM):aM x=sit x 0:=sites.h4 x h
def Bw(n:Nat)(F:Nat->Bool):List PV:=(bP n).map λk=> .bool (F k)
def W2(F:Nat->Bool){n k:Nat}(h:k<n):(Bw n F)[k]? =some (.bool (F k)):=by unfold Bw;grind
def jr(l:List AV):AV:=match bG l with|some q=> .p (.tup q)|none=> .tup l
mutual
def SV.av:SV->AV
 | .any=> .any
 | .undef=> .undef
 | .nil=> .nil
 | .int k n=> .p (.int k n)
 | .bool b=> .p (.bool b)
 | .lit b=> .p (.bool b)
 | .prop p d=> .p (.bool (@decide p d))
 | .str s=> .p (.str s)
 | .agg l=>eK (avs l)
 | .tup l=>jr (avs l)
 | .lst t l=> .p (.sl l.length (t.enc l))
 | .sl n cs=>(match bG (avs cs)with|some q=> .p (.sl n q)|none=> .any)
 | .pe t l i off=> .p (.pro (t.enc l) (i*t.w+off))
 | .pro cs off=>(match bG (avs cs)with|some q=> .p (.pro q off)|none=> .any)
 | .fn f a b=> .fn (.func f) (avs a) (avs b)
 | .fnp f a b=>(match bG (avs a),bG (avs b)with|some x,some y=> .p (.fn (.func f) x y)|_,_=> .any)
 | .clo1 pv _ _ _=> .p pv
 | .clo2 pv _ _ _=> .p pv
 | .ptr s off=> .ptr (aM s) off
 | .pte s t i off=> .ptr (aM s) (i*t.w+off)
 | .own s _ n=> .own (aM s) 0 n
 | .owns s t o n=> .own (aM s) (o*t.w) n
 | .ownx s n=> .own (aM s) 0 n
 | .ptb F n off=> .p (.pro (Bw n F) off)
 | .ownf x _ a n=> .own (inn x (a+1)) 0 n
 | .ptef x t a i off=> .ptr (inn x (a+1)) (i*t.w+off)
 | .ptf x a=> .ptr (aM x) a
 | .owF x n=> .own (aM x) 0 n
 | .junk=> .p .junk
 | .mp s=> .mp (aM s)
def avs:List SV->List AV
 |[] =>[]
 |x::l=>x.av::avs l
end
def im:∀l:List SV,avs l=l.map SV.av
 |[] =>rfl
 |x::l=>by rw[avs,im l];rfl
def jJ(l:List SV):(avs l).length=l.length:=by rw[im,cL]
def rZ(l m:List SV):avs (l++m)=avs l++avs m:=by rw[im,im,im,dQ]
def E6(l:List SV)(k:Nat):avs (l.drop k)=(avs l).drop k:=by rw[im,im,Ck]
def E5(l:List SV)(k:Nat):avs (l.take k)=(avs l).take k:=by rw[im,im,yf]
def xU(l:List SV)(k:Nat):(avs l)[k]? =(l[k]?).map SV.av:=by rw[im,fy]
def OM(l:List SV)(k:Nat)(x:SV):avs (l.set k x)=(avs l).set k x.av:=by rw[im,im,List.map_set]
def LT.row:(t:LT)->t.ty->List SV
 | .V=>λv=>[.int .i64 v.x,.int .i64 v.y]
 | .S=>λs=>[.int .i64 s.a.x,.int .i64 s.a.y,.int .i64 s.b.x,.int .i64 s.b.y]
 | .R=>λr=>[.lst .V r]
 | .I=>λn=>[.int .i64 n]
 | .B=>λb=>[.bool b]
 | .P=>λp=>[.int .i64 p.1,.int .i64 p.2]
 | .Q=>λr=>[.lst .I r]
def LT.A9(t:LT)(x:t.ty):avs (t.row x)=(t.rowP x).map .p:=by cases t<;>rfl
def LT.dec:(t:LT)->List SV->Option t.ty
 | .V,[.int .i64 x,.int .i64 y] =>some ⟨x,y⟩
 | .S,[.int .i64 a,.int .i64 b,.int .i64 c,.int .i64 d] =>some ⟨⟨a,b⟩,⟨c,d⟩⟩
 | .R,[.lst .V r] =>some r
 | .R,[.nil] =>none
 | .I,[.int .i64 n] =>some n
 | .Q,[.lst .I r] =>some r
 | .B,[.bool b] =>some b
 | .B,[.lit b] =>some b
 | .B,[.prop p d] =>some (@decide p d)
 | .P,[.int .i64 (.ofNat a),.int .i64 (.ofNat b)] =>some (a,b)
 |_,_=>none
def LT.xt{t:LT}{cs:List SV}{x:t.ty}(h:t.dec cs=some x):avs cs=(t.rowP x).map .p:=by unfold LT.dec at h;split at h<;>first|(cases h;done)|(cases h;rfl)
def LT.decs(t:LT):Nat->List SV->Option (List t.ty)
 |0,[] =>some []
 |0,_=>none
 |n+1,cs=>match t.dec (cs.take t.w),t.decs n (cs.drop t.w)with
  |some x,some l=>some (x::l)
  |_,_=>none
def LT.uM{t:LT}:∀{n:Nat} {cs:List SV} {l:List t.ty},t.decs n cs=some l->l.length=n/\avs cs=(t.enc l).map .p
 |0,[],l,h=>by simp only[LT.decs,fZ]at h;subst h;exact⟨rfl,rfl⟩
 |0,_::_,l,h=>by simp[LT.decs]at h
 |n+1,cs,l,h=>by
  unfold LT.decs at h;split at h
  .rename_i x l' h1 h2;cases h;obtain⟨h3,h4⟩:=LT.uM h2;have h5:=LT.xt h1;refine⟨by simp[h3],?_⟩;have h6:avs cs=avs (cs.take t.w)++avs (cs.drop t.w):=by rw[<-rZ,vj]
   rw[h6,h5,h4];simp only[LT.enc,fX,dQ]
  .cases h
def dR:∀l:List PV,bG (l.map .p)=some l
 |[] =>rfl
 |x::l=>by simp only[cT,bG,dR l,eI]
def rW(l:List PV):eK (l.map .p)= .p (.agg l):=by unfold eK;rw[dR]
def LT.sub(t:LT)(l:List t.ty){i:Nat}(h:i<l.length)(off m:Nat)(hm:off+m<=t.w):
  ((t.enc l).drop (i*t.w+off)).take m=((t.rowP (t.nth l i)).drop off).take m:=by
 rw[LT.nth_eq t l h];exact t.wide.sub l h off m hm
def LT.get(t:LT)(l:List t.ty){i:Nat}(h:i<l.length)(off:Nat)(hm:off<t.w):
  (t.enc l)[i*t.w+off]? =(t.rowP (t.nth l i))[off]? :=by
 have h1:=congrArg (λl=>l[0]?) (LT.sub t l h off 1 (by omega));grind
def svK:Value->SV
 | .int k n=> .int k n
 | .bool b=> .lit b
 | .string s=> .str s
 | .slice none 0 0=> .nil
 |_=> .any
def OU(v:Value):(svK v).av=kE v:=by unfold svK;split<;>simp only[SV.av,kE]
def FG:∀vs:List Value,avs (vs.map svK)=vs.map kE
 |[] =>rfl
 |v::vs=>by simp only[cT,avs,OU,FG vs]
def svC:Value->SV
 | .agg cs=>if cs.toList.all (·.oneCell')=true then .agg (cs.toList.map svK)else .any
 | .tuple vs=>if vs.toList=[]then .undef else .any
 |v=>svK v
def Z4(v:Value):(svC v).av=rr v:=by
 unfold svC;split
 .split<;>rename_i h<;>simp only[rr,SV.av,FG,h] <;>rfl
 .split<;>rename_i h<;>simp only[rr,SV.av,h,if_true,if_false]
 .rw[OU];unfold rr;grind
abbrev Frm:=List (Nat×SV)
def Frm.at:Frm->Nat->SV
 |[],_=> .undef
 |(d,v)::F,t=>match bB t d with|true=>v|false=>Frm.at F t
def Frm.kz(d:Nat)(v:SV)(F:Frm)(t:Nat):Frm.at ((d,v)::F) t=if t=d then v else Frm.at F t:=by
 conv=>lhs;unfold Frm.at
 split
 .simp_all
 .rename_i h;rw[if_neg (lT h)]
def Frm.av(n:Nat)(F:Frm):List AV:=(bP n).map λt=>(F.at t).av
def Frm.jB(n:Nat)(F:Frm):(F.av n).length=n:=by simp[Frm.av]
def Frm.lv{n:Nat}{F:Frm}{t:Nat}(h:t<n):(F.av n).getD t .any=(F.at t).av:=by unfold Frm.av;grind
def Frm.aAP{n:Nat}{F:Frm}{d:Nat}{v:SV}(h:d<n):eL (F.av n) (some d) v.av=Frm.av n ((d,v)::F):=by
 unfold eL;apply Ce;intro i;rw[yZ];by_cases hi:i<n
 .by_cases e:d=i
  .subst e;rw[if_pos rfl,if_pos (by rw[Frm.jB];exact h)];unfold Frm.av;rw[fy,IE h,eI,Frm.kz,if_pos rfl]
  .rw[if_neg e];unfold Frm.av;rw[fy,fy,IE hi,eI,eI,Frm.kz,if_neg (by grind)]
 .have h1:(Frm.av n ((d,v)::F))[i]? =none:=lS (by rw[Frm.jB];omega);have h2:(F.av n)[i]? =none:=lS (by rw[Frm.jB];omega);grind
def sW(n:Nat)(F:Frm):Operand->SV
 | .tmp t=>(match iM t n with|true=>F.at t|false=> .any)
 | .const v=>svC v
 | .func f=> .fnp f [] []
 | .global _=> .any
def Ev{n:Nat}{F:Frm}(x:Operand):(sW n F x).av=jt (F.av n) x:=by
 cases x with
 |tmp t=>
  show(match iM t n with|true=>F.at t|false=>SV.any).av=(F.av n).getD t .any;cases h:iM t n with
  |true=>rw[Frm.lv (by simp_all)]
  |false=>
   have h2:¬(t+1<=n):=λhh=>by have:=Nat.ble_eq_true_of_le hh;rw[show iM t n=mM (t+1) n from rfl]at h;grind
   rw[de,lS (by rw[Frm.jB];grind)];rfl
 |const v=>exact Z4 v
 |func f=>rfl
 |global g=>rfl
inductive SOb where
 |box (ty:TypeId) (cells:List SV)
 |row (ty:TypeId) (t:LT) (l:List t.ty)
 |arr (ty esz:Nat) (cells:List SV)
 |fam (ty ity:TypeId) (t:LT) (L:List (List t.ty)) (ov:List (Nat×SV))
 |mp (ks:List (Nat×Nat))
def iX(x:Nat){α:Type}(L:List (List α))(ov:List (Nat×SV))(i:Nat):AV:=match ov.lookup i with
 |some v=>v.av
 |none=> .own (inn x (i+1)) 0 (L.getD i []).length
def gI(ks:List (Nat×Nat)):List (List Int×AV):=ks.map λk=>([(k.1:Int),(k.2:Int)],.p (.bool true))
def re:∀ks:List (Nat×Nat),ft (gI ks)=(ks.flatMap λk=>[PV.agg (kf [(k.1:Int),(k.2:Int)]),.bool true]).map .p
 |[] =>rfl
 |k::ks=>by
  have:=re ks;unfold ft gI at*;grind
def SOb.ob(x:Nat):SOb->Ob
 | .box ty cs=>⟨ty,0,avs cs⟩
 | .row ty t l=>⟨ty,t.w,(t.enc l).map .p⟩
 | .arr ty esz cs=>⟨ty,esz,avs cs⟩
 | .fam ty _ _ L ov=>⟨ty,1,(bP L.length).map (iX x L ov)⟩
 | .mp ks=>⟨1,0,ft (gI ks)⟩
def SOb.inner(a:Nat):SOb->Option Ob
 | .fam _ ity t L ov=>(match ov.lookup a with|some _=>none|none=>(L[a]?).map λl=>⟨ity,t.w,(t.enc l).map .p⟩)
 |_=>none
def SOb.flat:SOb->Bool
 | .fam .. =>false
 |_=>true
def SOb.zP{ob:SOb}(h:ob.flat=true)(a:Nat):ob.inner a=none:=by cases ob<;>first|rfl|cases h
abbrev aP:=List (Nat×Option SOb)
def aP.at:aP->Nat->Option SOb
 |[],_=>none
 |(k,x)::L,s=>match bB s k with|true=>x|false=>aP.at L s
abbrev Sg:=Nat->Option SOb
open Classical in
def Sg.a(σ:Sg):Sto:=λs=>if inn (nm s) (sub s)=s then(match sub s with
 |0=>(σ (nm s)).map (SOb.ob (nm s))
 |a+1=>(σ (nm s)).bind (SOb.inner a))else none
def Sg.cH(σ:Sg)(x:Nat):σ.a (aM x)=(σ x).map (SOb.ob x):=by unfold Sg.a aM;rw[rp,sI,if_pos rfl]
def Sg.fQ(σ:Sg)(x a:Nat):σ.a (inn x (a+1))=(σ x).bind (SOb.inner a):=by unfold Sg.a;rw[rp,sI,if_pos rfl]
def Sg.jc(σ:Sg){s:Nat}(h:∀x a,s≠inn x a):σ.a s=none:=by unfold Sg.a;grind
def j8(s:Nat):(∃x,s=aM x)\/(∃x a,s=inn x (a+1))\/∀x a,s≠inn x a:=by
 by_cases h:∃x a,s=inn x a
 .obtain⟨x,a,rfl⟩:=h;cases a with
  |zero=>exact .inl ⟨x,rfl⟩
  |succ a=>grind
 grind
def aP.up(W:aP)(σ:Sg):Sg:=λs=>match W.lookup s with|some x=>x|none=>σ s
def aP.BU(W L:aP):W.up L.at=(W++L).at:=by
 funext s
 unfold aP.up;induction W with
 |nil=>rfl
 |cons q W ih=>
  obtain⟨k,x⟩:=q;show _=(match bB s k with|true=>x|false=>aP.at (W++L) s);rw[dS];cases h:bB s k with
  |true=>simp_all
  |false=>rw[beq_eq_false_iff_ne.2 (lT h)];exact ih
def bX(σ:Sg)(rd:List Nat)(W:aP)(R':List Nat)(W':List (Nat×Option Ob)):Prop:=
 inC R' (rd.map ncl)/\inC (W'.map (·.1)) (W.map λq=>ncl q.1)/\ao σ.a W'=(W.up σ).a
def bX.read(σ:Sg)(rd:List Nat):bX σ rd [] (rd.map aM) [] :=by refine⟨λs hs=> ?_,λs hs=>by grind,rfl⟩;obtain⟨x,hx,rfl⟩:=bM.1 hs;rw[show cls (aM x)=ncl x from fG x 0];grind
def frs(σ:Sg)(n:Nat):Bool:=match iM n NM,σ n with
 |true,none=>true
 |_,_=>false
def ls{σ:Sg}{n:Nat}(h:frs σ n=true):aM n=sit n 0/\σ n=none:=by
 unfold frs at h;split at h
 .rename_i h1 h2;exact⟨zM (by simp_all),h2⟩
 .cases h
def pk:Option SOb->Bool
 |some ob=>ob.flat
 |none=>true
def aP.sto(W:aP):List (Nat×Option Ob):=W.map λq=>(aM q.1,q.2.map (SOb.ob q.1))
def Uc(W:aP)(x:Nat):W.sto.lookup (aM x)=(W.lookup x).map λo=>o.map (SOb.ob x):=by
 induction W with
 |nil=>rfl
 |cons q W ih=>
  obtain⟨k,o⟩:=q;show((aM k,o.map (SOb.ob k))::aP.sto W).lookup (aM x)=_;rw[dS,dS];by_cases h:x=k
  .subst h;simp
  .rw[beq_eq_false_iff_ne.2 h,beq_eq_false_iff_ne.2 λe=>h (kn e)];exact ih
def JH{W:aP}{s:Nat}(h:∀x,s≠aM x):W.sto.lookup s=none:=by
 induction W with
 |nil=>rfl
 |cons q W ih=>
  show((aM q.1,q.2.map (SOb.ob q.1))::aP.sto W).lookup s=_;grind
def bX.flat{σ:Sg}{rd:List Nat}{W:aP}(h:∀q∈W,pk (σ q.1)=true/\pk q.2=true):bX σ rd W (rd.map aM) W.sto:=by
 refine⟨(bX.read σ rd).1,λs hs=> ?_,?_⟩
 .unfold aP.sto at hs;rw[cv]at hs;obtain⟨q,hq,rfl⟩:=bM.1 hs;show cls (aM q.1)∈_;rw[show cls (aM q.1)=ncl q.1 from fG q.1 0];grind
 .funext s
  unfold ao;rcases j8 s with⟨x,rfl⟩|⟨x,a,rfl⟩|hno
  .rw[Uc,Sg.cH,Sg.cH];unfold aP.up;grind
  .rw[JH λy e=>by have:=(fD e).2;omega,Sg.fQ,Sg.fQ];unfold aP.up;cases hl:W.lookup x with
   |none=>rfl
   |some o=>
    have hm:(x,o)∈W:=by
     clear h;induction W with
     |nil=>cases hl
     |cons q W ih=>
      grind
    obtain⟨h1,h2⟩:=h _ hm;have nofam:∀p:Option SOb,pk p=true->p.bind (SOb.inner a)=none:=λp hp=>by
     cases p with
     |none=>rfl
     |some ob=>exact SOb.zP hp a
    grind
  .rw[JH λy e=>hno y 0 e,Sg.jc σ hno,Sg.jc _ hno]
end
end
noncomputable section
def aH(x:Int):Prop:= -9223372036854775808<=x/\x<=9223372036854775807
def tW{x:Int}(h:aH x):ic.wrap x=x:=by unfold aH at h;exact IntWalk.i64_in _ (by omega)
def ix(a:Int)(n:Nat):Prop:=0<=a/\a<(n:Int)
def dr{k n:Nat}(h:k<n):ix k n:=⟨by omega,by omega⟩
def ip{k n:Nat}(h:0<n):ix (((k % n:Nat):Int)) n:=dr (Nat.mod_lt _ h)
abbrev SR:=Option (List Prop×SV×List Nat×aP)
abbrev SE:=Operand->SV
def SE.a(E:SE):Operand->AV:=λx=>(E x).av
def qy(P:Program)(n:Nat)(o:Oper)(E:SE)(σ:Sg)(R:SR):Prop:=
 ∀ps r rd W,R=some (ps,r,rd,W)->(∀p∈ps,p)->AOp P n o E.a σ.a λr' R' W'=>r'=r.av/\bX σ rd W R' W'
def SV.ok:SV->Prop
 | .pe _ l i _=>i<l.length
 |_=>True
def SV.ape:SV->Bool
 | .pe .. =>true
 |_=>false
def SV.mr{v:SV}(h:v.ape=false):v.ok:=by cases v<;>first|trivial|cases h
def xu(x:SV):Option (List SV):=match x with
 | .agg l=>some l
 | .tup _=>none
 | .any=>none
 | .undef=>none
 | .sl n cs=>(match bG (avs cs)with|some _=>some [.sl n cs] |none=>none)
 | .pro cs o=>(match bG (avs cs)with|some _=>some [.pro cs o] |none=>none)
 | .fnp f a b=>(match bG (avs a),bG (avs b)with|some _,some _=>some [.fnp f a b] |_,_=>none)
 | .clo1 .. =>none
 | .clo2 .. =>none
 | .junk=>none
 |x=>some [x]
def TO(l:List AV):k9 (eK l)=some l:=by
 unfold eK;cases h:bG l with
 |some q=>rw[show k9 (.p (.agg q))=some (q.map .p)from rfl,<-il h]
 |none=>rfl
def EI{x:SV}{l:List SV}(h:xu x=some l):k9 x.av=some (avs l):=by
 cases x<;>simp only[xu,reduceCtorEq,fZ]at h<;>first|(subst h;rfl)|skip
 .subst h;exact TO _
 .rename_i n cs;cases hq:bG (avs cs)with
  |none=>grind
  |some q=>rw[hq]at h;cases h;simp only[avs,SV.av,hq,k9]
 .rename_i cs o;cases hq:bG (avs cs)with
  |none=>grind
  |some q=>rw[hq]at h;cases h;simp only[avs,SV.av,hq,k9]
 .rename_i f a b;cases ha:bG (avs a)<;>cases hb:bG (avs b)<;>rw[ha,hb]at h<;>simp only[reduceCtorEq,fZ]at h;subst h;simp only[avs,SV.av,ha,hb,k9]
def pp(cs:List SV)(off:Nat):List SV->List SV
 |[] =>cs
 |x::l=>pp (cs.set off x) (off+1) l
def xN:∀(l cs:List SV) (off:Nat),avs (pp cs off l)=gJ (avs cs) off (avs l)
 |[],cs,off=>rfl
 |x::l,cs,off=>by rw[pp,xN l,OM];rfl
def uo(place:Nat->Option (Nat×Nat))(cells:List SV):List (Nat×SV)->Option (List SV)
 |[] =>some cells
 |(i,v)::rest=>match place i,xu v with
  |some (off,size),some l=>(match bB l.length size,mM (off+size) cells.length with
   |true,true=>uo place (pp cells off l) rest
   |_,_=>none)
  |_,_=>none
def Eu{place:Nat->Option (Nat×Nat)}:∀(parts:List (Nat×SV)) {cells l:List SV},uo place cells parts=some l->mz place (avs cells) (parts.map λq=>(q.1,q.2.av))=some (avs l)
 |[],cells,l,h=>by simp only[uo,fZ]at h;subst h;rfl
 |(i,v)::rest,cells,l,h=>by
  unfold uo at h;split at h
  .rename_i off size m h1 h2;split at h
   .have:=Eu rest h;show(match place i,k9 v.av with|some (off,size),some l=>if l.length=size/\off+size<=(avs cells).length then mz place (gJ (avs cells) off l) (rest.map λ(q:Nat×SV)=>(q.1,q.2.av))else none|_,_=>none)=_;rw[h1,EI h2];dsimp only;rw[if_pos ⟨by rw[jJ];simp_all,by rw[jJ];simp_all⟩,<-xN];exact this
   .cases h
  .cases h
def oA(P:Program)(t:TypeId)(cs:List SV)(off:Nat):Option SV:=match tok P t,iH P t with
 |true,true=>(match bB ((cs.drop off).take (aZ P t)).length (aZ P t)with|true=>some (.agg ((cs.drop off).take (aZ P t)))|false=>none)
 |true,false=>cs[off]?
 |false,_=>none
def qS{P:Program}{t:TypeId}{cs:List SV}{off:Nat}{r:SV}(h:oA P t cs off=some r){K:AV->Prop}(hK:K r.av):qu P t (avs cs) off K:=by
 unfold oA at h;split at h
 .rename_i h1 h2;split at h
  .cases h;refine⟨h1,?_⟩;rw[if_pos h2];refine⟨_,rfl,?_,?_⟩
   .rw[<-E6,<-E5,jJ];simp_all
   .rw[<-E6,<-E5];exact hK
  .cases h
 .rename_i h1 h2;refine⟨h1,?_⟩;rw[if_neg (by rw[h2];simp)];exact⟨r.av,by rw[xU,h];rfl,hK⟩
 .cases h
def En{P:Program}{t:TypeId}{cs:List PV}{off:Nat}{K:AV->Prop}(h:qu P t (cs.map .p) off K):Gt P t cs off λr=>K (.p r):=by
 obtain⟨h1,h2⟩:=h;refine⟨h1,?_⟩;split at h2
 .rename_i hg;rw[if_pos hg];obtain⟨l,h3,h4,h5⟩:=h2;refine⟨(cs.drop off).take (aZ P t),rfl,?_,?_⟩
  .grind
  .rw[<-h3,<-Ck,<-yf,rW]at h5;exact h5
 grind
def Dv{P:Program}{t:TypeId}{lt:LT}{l:List lt.ty}{i off:Nat}(hi:i<l.length)(hoff:off+(match iH P t with|true=>aZ P t|false=>1)<=lt.w){f:List PV->List AV}(hf:f=List.map .p){K:AV->Prop}
  (h:qu P t (f (lt.rowP (lt.nth l i))) off K):qu P t (f (lt.enc l)) (i*lt.w+off) K:=by
 subst hf;obtain⟨h1,h2⟩:=h;refine⟨h1,?_⟩;split at h2
 .rename_i hg;rw[hg]at hoff;rw[if_pos hg];obtain⟨m,h3,h4,h5⟩:=h2;refine⟨m,?_,h4,h5⟩;rw[<-Ck,<-yf,LT.sub lt l hi off _ hoff,<-h3,yf,Ck]
 .rename_i hg;have hg':iH P t=false:=by simpa using hg
  rw[if_neg hg];obtain⟨x,h3,h4⟩:=h2;refine⟨x,?_,h4⟩;rw[fy]at h3|-;rw[LT.get lt l hi off (by grind)];exact h3
def mC:List (Nat×SV)->Nat->List Prop
 |[],_=>[]
 |q::l,a=>(a≠q.1)::mC l a
def rb:∀{ov:List (Nat×SV)} {a:Nat},(∀p∈mC ov a,p)->ov.lookup a=none
 |[],_,_=>rfl
 |q::l,a,h=>by
  rw[dS,beq_eq_false_iff_ne.2 (h _ cE)];exact rb λp hp=>h p (cB _ hp)
def bX.readI(σ:Sg)(x a:Nat):bX σ [x] [] [inn x (a+1)] [] :=by refine⟨λs hs=> ?_,λs hs=>by grind,rfl⟩;rw[bh.1 hs,fG];grind
def YA(x:Nat){α:Type}(L:List (List α))(ov:List (Nat×SV)){a:Nat}(h:a<L.length):((bP L.length).map (iX x L ov))[a]? =some (iX x L ov a):=by grind
def D3{σ:Sg}{x a:Nat}{ty ity:TypeId}{lt:LT}{L:List (List lt.ty)}{ov:List (Nat×SV)}(hs:σ x=some (.fam ty ity lt L ov))(ha:a<L.length)(ho:ov.lookup a=none):σ.a (inn x (a+1))=some ⟨ity,lt.w,(lt.enc (L.getD a [])).map .p⟩:=by rw[Sg.fQ,hs];show(match ov.lookup a with|some _=>none|none=>(L[a]?).map λl=>(⟨ity,lt.w,(lt.enc l).map .p⟩:Ob))=_;grind
def bX.cell{σ:Sg}{x:Nat}{ty ity:TypeId}{lt:LT}{L:List (List lt.ty)}{q:Nat×SV}{ov:List (Nat×SV)}{v:SV}(hs:σ x=some (.fam ty ity lt L (q::ov))):
  bX σ [x] [(x,some (.fam ty ity lt L ((q.1,v)::ov)))] [aM x] [(aM x,some ⟨ty,1,((bP L.length).map (iX x L (q::ov))).set q.1 v.av⟩)] :=by
 refine⟨(bX.read σ [x]).1,λs hs=> ?_,?_⟩
 .rw[bh.1 hs];rw[show cls (aM x)=ncl x from fG x 0];grind
 .funext s
  unfold ao;rcases j8 s with⟨y,rfl⟩|⟨y,b,rfl⟩|hno
  .rw[Sg.cH,Sg.cH,dS];unfold aP.up;rw[dS];by_cases e:y=x
   .subst e;rw[beq_iff_eq.2 rfl,beq_iff_eq.2 rfl];dsimp only[eI]
    congr 1
    congr 1
    refine rH (by simp) λi h1 h2=> ?_;rw[List.getElem_set];unfold iX;grind
   .rw[beq_eq_false_iff_ne.2 e,beq_eq_false_iff_ne.2 λh=>e (kn h)];rfl
  .rw[Sg.fQ,Sg.fQ,dS,beq_eq_false_iff_ne.2 λh=>by have:=(fD h).2;omega];unfold aP.up;rw[dS];by_cases e:y=x
   .subst e;rw[beq_iff_eq.2 rfl,hs];unfold SOb.inner;grind
   grind
  .rw[Sg.jc _ hno,Sg.jc _ hno,dS,beq_eq_false_iff_ne.2 (show s≠aM x from λh=>hno x 0 h)];rfl
def Gi(P:Program)(t:TypeId)(x:SV)(σ:Sg):SR:=match x with
 | .pe lt l i off=>(match mM (off+(match iH P t with|true=>aZ P t|false=>1)) lt.w,oA P t (lt.row (lt.nth l i)) off with
   |true,some r=>some ([],r,[],[])
   |_,_=>none)
 | .pro cs off=>(match bG (avs cs),oA P t cs off with
   |some _,some r=>some ([],r,[],[])
   |_,_=>none)
 | .ptb F n off=>(match tok P t,iH P t with
   |true,false=>some ([off<n],.bool (F off),[],[])
   |_,_=>none)
 | .ptr s off=>(match σ s with
   |some (.box _ cs)=>(match oA P t cs off with|some r=>some ([],r,[s],[])|none=>none)
   |some (.arr _ _ cs)=>(match oA P t cs off with|some r=>some ([],r,[s],[])|none=>none)
   |_=>none)
 | .pte s lt i off=>(match σ s with
   |some (.row _ lt' l)=>(match decEq lt' lt,mM (off+(match iH P t with|true=>aZ P t|false=>1)) lt'.w,oA P t (lt'.row (lt'.nth l i)) off with
    | .isTrue _,true,some r=>some ([i<l.length],r,[s],[])
    |_,_,_=>none)
   |_=>none)
 | .ptf x a=>(match σ x with
   |some (.fam _ _ lt L ov)=>(match tok P t,iH P t with
    |true,false=>some ((a<L.length)::mC ov a,.ownf x lt a (L.getD a []).length,[x],[])
    |_,_=>none)
   |_=>none)
 | .ptef x lt a i off=>(match σ x with
   |some (.fam _ _ lt' L ov)=>(match decEq lt' lt,mM (off+(match iH P t with|true=>aZ P t|false=>1)) lt'.w,oA P t (lt'.row (lt'.nth (L.getD a []) i)) off with
    | .isTrue _,true,some r=>some ((a<L.length)::(i<(L.getD a []).length)::mC ov a,r,[x],[])
    |_,_,_=>none)
   |_=>none)
 |_=>none
def XH{P:Program}{n:Nat}{o:Oper}{E:SE}{σ:Sg}{t:TypeId}{x:Operand}(ho:o.op= .load t x)(hx:(E x).ok):qy P n o E σ (Gi P t (E x) σ):=by
 intro ps r rd W h hp;unfold AOp;rw[ho];dsimp only;unfold Gi at h;split at h
 .rename_i lt l i off e;split at h<;>cases h;rename_i h1 h2;rw[e]at hx;rw[show E.a x= .p (.pro (lt.enc l) (i*lt.w+off)) by unfold SE.a;rw[e];rfl];refine En (K:=λr'=>r'=r.av/\_) ?_;refine Dv hx (o5 h1) rfl ?_;rw[<-LT.A9];exact qS h2 ⟨rfl,bX.read σ []⟩
 .rename_i cs off e;split at h<;>cases h;rename_i q h1 h2;rw[show E.a x= .p (.pro q off) by unfold SE.a;rw[e];simp only[SV.av,h1]];refine En (K:=λr'=>r'=r.av/\_) ?_;rw[<-il h1];exact qS h2 ⟨rfl,bX.read σ []⟩
 .rename_i F m off e;split at h<;>cases h;rename_i h1 h2;have hlt:off<m:=hp _ (by grind);rw[show E.a x= .p (.pro (Bw m F) off) by unfold SE.a;rw[e];rfl];refine En (K:=λr'=>r'=(SV.bool (F off)).av/\_) ?_;exact⟨h1,by rw[if_neg (by rw[h2];simp)];exact⟨.p (.bool (F off)),by rw[fy,W2 F hlt];rfl,rfl,bX.read σ []⟩⟩
 .rename_i s off e;rw[show E.a x= .ptr (aM s) off by unfold SE.a;rw[e];rfl];split at h
  .rename_i ty cs hs;split at h<;>cases h;rename_i h2;refine⟨_,by rw[Sg.cH,hs];rfl,?_⟩;exact qS h2 ⟨rfl,bX.read σ [s]⟩
  .rename_i ty ez cs hs;split at h<;>cases h;rename_i h2;refine⟨_,by rw[Sg.cH,hs];rfl,?_⟩;exact qS h2 ⟨rfl,bX.read σ [s]⟩
  .cases h
 .rename_i s lt i off e;rw[show E.a x= .ptr (aM s) (i*lt.w+off) by unfold SE.a;rw[e];rfl];split at h
  .rename_i ty lt' l hs;split at h<;>cases h;rename_i he h1 h2 h3;subst he;refine⟨_,by rw[Sg.cH,hs];rfl,?_⟩;refine Dv (hp _ (by simp)) (o5 h2) rfl ?_;rw[<-LT.A9];exact qS h3 ⟨rfl,bX.read σ [s]⟩
  .cases h
 .rename_i y a e;rw[show E.a x= .ptr (aM y) a by unfold SE.a;rw[e];rfl];split at h
  .rename_i ty ity lt L ov hs;split at h<;>cases h;rename_i h1 h2;have ha:a<L.length:=hp _ (by grind);have ho:ov.lookup a=none:=rb (by grind);refine⟨_,by rw[Sg.cH,hs];rfl,h1,?_⟩;rw[if_neg (by rw[h2];simp)];refine⟨_,YA y L ov ha,?_,bX.read σ [y]⟩;unfold iX;rw[ho];rfl
  .cases h
 .rename_i y lt a i off e;rw[show E.a x= .ptr (inn y (a+1)) (i*lt.w+off) by unfold SE.a;rw[e];rfl];split at h
  .rename_i ty ity lt' L ov hs;split at h<;>cases h;rename_i he h1 h2 h3;subst he;have ha:a<L.length:=hp _ (by grind);have hi:i<(L.getD a []).length:=hp _ (by grind);have ho:ov.lookup a=none:=rb (by grind);refine⟨_,D3 hs ha ho,?_⟩;refine Dv hi (o5 h2) rfl ?_;rw[<-LT.A9];exact qS h3 ⟨rfl,bX.readI σ y a⟩
  .cases h
 .cases h
def A3(P:Program)(t:TypeId)(a v:SV)(σ:Sg):SR:=match xu v,(P.info? t).isSome with
 |some l,true=>(match bB l.length (aZ P t)with
  |true=>(match a with
   | .ptr s off=>(match σ s with
     |some (.box ty cs)=>(match mM (off+l.length) cs.length with|true=>some ([],.undef,[s],[(s,some (.box ty (pp cs off l)))])|false=>none)
     |some (.arr ty ez cs)=>(match mM (off+l.length) cs.length with|true=>some ([],.undef,[s],[(s,some (.arr ty ez (pp cs off l)))])|false=>none)
     |_=>none)
   | .pte s lt i off=>(match σ s with
     |some (.row ty lt' m)=>(match decEq lt' lt,mM (off+l.length) lt'.w,lt'.dec (pp (lt'.row (lt'.nth m i)) off l)with
      | .isTrue _,true,some e=>some ([i<m.length],.undef,[s],[(s,some (.row ty lt' (m.set i e)))])
      |_,_,_=>none)
     |_=>none)
   | .ptf x a=>(match l,σ x with
     |[v],some (.fam ty ity lt L (q::ov))=>some ([a=q.1,a<L.length],.undef,[x],[(x,some (.fam ty ity lt L ((q.1,v)::ov)))])
     |_,_=>none)
   |_=>none)
  |false=>none)
 |_,_=>none
def Ta{a b c l:List AV}{k off:Nat}(hk:k=a.length)(hoff:off+l.length<=b.length):gJ (a++b++c) (k+off) l=a++gJ b off l++c:=by
 induction l generalizing b off with
 |nil=>rfl
 |cons x l ih=>
  simp only[gY]at hoff;rw[gJ,gJ,kO,List.set_append_right _ _ (by omega),show k+off-a.length=off by omega,List.set_append_left _ _ (by omega),<-kO,show k+off+1=k+(off+1) by omega,ih (by simp;omega)]
def Zb(t:LT)(l:List t.ty){i:Nat}(h:i<l.length)(e:t.ty):t.enc l=t.enc (l.take i)++t.rowP l[i] ++t.enc (l.drop (i+1))/\t.enc (l.set i e)=t.enc (l.take i)++t.rowP e++t.enc (l.drop (i+1)):=by
 constructor
 .conv=>lhs;rw[<-vj i l,<-List.getElem_cons_drop h]
  unfold LT.enc;grind
 .rw[List.set_eq_take_append_cons_drop,if_pos h];unfold LT.enc;grind
def VK{P:Program}{n:Nat}{o:Oper}{E:SE}{σ:Sg}{t:TypeId}{a x:Operand}(ho:o.op= .store t a x):qy P n o E σ (A3 P t (E a) (E x) σ):=by
 intro ps r rd W h hp;unfold AOp;rw[ho];dsimp only;unfold A3 at h;split at h
 case h_2=>cases h
 rename_i l hl ht;split at h
 case h_2=>cases h
 rename_i hsz;have hl':k9 (E.a x)=some (avs l):=EI hl;have hsz':(avs l).length=aZ P t:=by rw[jJ];exact dM hsz
 split at h
 .rename_i s off e;rw[show E.a a= .ptr (aM s) off by unfold SE.a;rw[e];rfl];unfold uP;split at h
  .rename_i ty cs hs;split at h<;>cases h;refine⟨_,_,by rw[Sg.cH,hs];rfl,hl',hsz',ht,?_,rfl,?_⟩
   .show off+(avs l).length<=(avs cs).length;rw[jJ,jJ];simp_all
   .show bX _ _ _ _ [(aM s,some (⟨ty,0,gJ (avs cs) off (avs l)⟩:Ob))];rw[<-xN];exact bX.flat (W:=[(s,some (.box ty (pp cs off l)))]) λq hq=>by rw[bh.1 hq,hs];exact⟨rfl,rfl⟩
  .rename_i ty ez cs hs;split at h<;>cases h;refine⟨_,_,by rw[Sg.cH,hs];rfl,hl',hsz',ht,?_,rfl,?_⟩
   .show off+(avs l).length<=(avs cs).length;rw[jJ,jJ];simp_all
   .show bX _ _ _ _ [(aM s,some (⟨ty,ez,gJ (avs cs) off (avs l)⟩:Ob))];rw[<-xN];exact bX.flat (W:=[(s,some (.arr ty ez (pp cs off l)))]) λq hq=>by rw[bh.1 hq,hs];exact⟨rfl,rfl⟩
  .cases h
 .rename_i s lt i off e;rw[show E.a a= .ptr (aM s) (i*lt.w+off) by unfold SE.a;rw[e];rfl];unfold uP;split at h
  .rename_i ty lt' m hs;split at h<;>cases h;rename_i he h1 _ h2 h3;subst he;have hi:i<m.length:=hp _ (by simp);obtain⟨e1,e2⟩:=Zb lt' m hi h1;have h2':=o5 h2;have hlen:(lt'.enc (m.take i)).length=i*lt'.w:=by rw[lt'.wide.length,kP,IH (by omega)]
   refine⟨_,_,by rw[Sg.cH,hs];rfl,hl',hsz',ht,?_,rfl,?_⟩
   .show i*lt'.w+off+(avs l).length<=((lt'.enc m).map AV.p).length;rw[jJ,cL,lt'.wide.length];have:(i+1)*lt'.w<=m.length*lt'.w:=Cf _ (by omega);grind
   .have e3:gJ ((lt'.enc m).map AV.p) (i*lt'.w+off) (avs l)=(lt'.enc (m.set i h1)).map AV.p:=by
     rw[e2,dQ,dQ,<-LT.xt h3,xN,LT.A9,LT.nth_eq lt' m hi]
     conv=>lhs;rw[e1,dQ,dQ]
     rw[Ta (by grind) (by rw[jJ,cL,(lt'.wide []).2];exact h2')]
    show bX _ _ _ _ [(aM s,some (⟨ty,lt'.w,gJ ((lt'.enc m).map AV.p) (i*lt'.w+off) (avs l)⟩:Ob))];rw[e3];exact bX.flat (W:=[(s,some (.row ty lt' (m.set i h1)))]) λq hq=>by rw[bh.1 hq,hs];exact⟨rfl,rfl⟩
  .cases h
 .rename_i y b e;rw[show E.a a= .ptr (aM y) b by unfold SE.a;rw[e];rfl];unfold uP;split at h<;>cases h;rename_i v ty ity lt L q ov hs;have hb:b=q.1:=hp _ (by grind);have hL:b<L.length:=hp _ (by grind);refine⟨_,_,by rw[Sg.cH,hs];rfl,hl',hsz',ht,?_,rfl,?_⟩
  .show b+1<=((bP L.length).map (iX y L (q::ov))).length;grind
  .subst hb;exact bX.cell hs
 .cases h
def uf(P:Program)(t:TypeId):Option (List SV):=match pY P t with
 |true=>(match P.info? t with
  |some i=>(match i.zero with|some z=>some (z.cells.toList.map svK)|none=>none)
  |none=>none)
 |false=>none
def tf{P:Program}{t:TypeId}{z:List SV}(h:uf P t=some z):pZ P t=some (avs z)/\pY P t=true:=by
 unfold uf at h;split at h
 .rename_i hz;split at h
  .rename_i i hi;split at h<;>cases h;rename_i zv hzv;refine⟨?_,hz⟩;unfold pZ;rw[hi,qD,hzv,eI,FG]
  .cases h
 .cases h
def bX.new{σ:Sg}{n:Nat}{ob:SOb}(h:σ n=none)(hs:aM n=sit n 0)(hf:ob.flat=true):bX σ [] [(n,some ob)] [] [(sit n 0,some (ob.ob n))] :=by rw[<-hs];exact bX.flat (rd:=[]) (W:=[(n,some ob)]) λq hq=>by rw[bh.1 hq,h];exact⟨rfl,hf⟩
def A8(P:Program)(σ:Sg)(n:Nat)(t:TypeId):SR:=match uf P t,frs σ n with
 |some z,true=>some ([],.ptr n 0,[],[(n,some (.box t z))])
 |_,_=>none
def Vc{P:Program}{n:Nat}{o:Oper}{E:SE}{σ:Sg}{t:TypeId}(ho:o.op= .alloc t):qy P n o E σ (A8 P σ n t):=by intro ps r rd W h hp;unfold AOp;rw[ho];unfold A8 at h;split at h<;>cases h;rename_i z hz hf;obtain⟨h1,h2⟩:=tf hz;obtain⟨f1,f2⟩:=ls hf;exact⟨_,h1,h2,by show _=AV.ptr (aM n) 0;rw[f1],bX.new f2 f1 rfl⟩
def Bz(σ:Sg)(n:Nat)(t:TypeId)(x:SV):SR:=match xu x,frs σ n with
 |some l,true=>some ([],.ptr n 0,[],[(n,some (.box t l))])
 |_,_=>none
def Yp{P:Program}{n:Nat}{o:Oper}{E:SE}{σ:Sg}{t:TypeId}{x:Operand}(ho:o.op= .box t x):qy P n o E σ (Bz σ n t (E x)):=by intro ps r rd W h hp;unfold AOp;rw[ho];unfold Bz at h;split at h<;>cases h;rename_i l hl hf;obtain⟨f1,f2⟩:=ls hf;exact⟨_,EI hl,by show _=AV.ptr (aM n) 0;rw[f1],bX.new f2 f1 rfl⟩
def A7(P:Program)(t:TypeId)(parts:List (Nat×SV)):SR:=match uf P t,FW P t with
 |some z,true=>(match uo (GH P t) z parts with|some l=>some ([],.agg l,[],[])|none=>none)
 |_,_=>none
def VY{P:Program}{n:Nat}{o:Oper}{E:SE}{σ:Sg}{t:TypeId}{parts:Array (Nat×Operand)}(ho:o.op= .build t parts):qy P n o E σ (A7 P t (parts.toList.map λq=>(q.1,E q.2))):=by
 intro ps r rd W h hp;unfold AOp;rw[ho];unfold A7 at h;split at h
 .rename_i z hz hk;split at h<;>cases h;rename_i l hl;obtain⟨h1,h2⟩:=tf hz;have:=Eu _ hl;rw[cv]at this;exact⟨_,h1,h2,hk,_,this,rfl,bX.read σ []⟩
 .cases h
def B7:Nat->List SV->List SV
 |0,_=>[]
 |m+1,z=>z++B7 m z
def NK(z:List SV):∀m,avs (B7 m z)=mB m (avs z)
 |0=>rfl
 |m+1=>by rw[B7,rZ,NK z m];rfl
def Ad(P:Program)(σ:Sg)(n:Nat)(t:TypeId)(len:Nat)(parts:List (Nat×SV)):SR:=match dG P t with
 |some e=>(match uf P e,mM (len*aZ P e) 1000000,frs σ n with
  |some (z0::zs),true,true=>(match uo (λi=>some (i*aZ P e,aZ P e)) (B7 len (z0::zs)) parts with
   |some l=>some ([],.ownx n len,[],[(n,some (.arr e (aZ P e) l))])
   |none=>none)
  |_,_,_=>none)
 |none=>none
def UP{P:Program}{n:Nat}{o:Oper}{E:SE}{σ:Sg}{t:TypeId}{len:Nat}{parts:Array (Nat×Operand)}(ho:o.op= .buildSlice t len parts):qy P n o E σ (Ad P σ n t len (parts.toList.map λq=>(q.1,E q.2))):=by
 intro ps r rd W h hp;unfold AOp;rw[ho];unfold Ad at h;split at h
 .rename_i e he;split at h
  .rename_i z0 zs hz hb hf;split at h<;>cases h;rename_i l hl;obtain⟨f1,f2⟩:=ls hf;obtain⟨h1,h2⟩:=tf hz;have:=Eu _ hl;rw[cv,NK]at this;exact⟨e,_,he,h1,h2,(by simp[avs]),o5 hb,_,this,by show _=AV.own (aM n) 0 len;rw[f1],bX.new f2 f1 rfl⟩
  .cases h
 .cases h
def Ge(c a b:SV):Option SV:=match c with
 | .lit true=>some a
 | .lit false=>some b
 | .prop p d=>(match a,b with
   | .int .i64 x,.int .i64 y=>some (.int .i64 (@ite _ p d x y))
   | .bool x,.bool y=>some (.bool (@ite _ p d x y))
   | .prop q e,.lit y=>some (.bool (@ite _ p d (@decide q e) y))
   | .lit x,.prop q e=>some (.bool (@ite _ p d x (@decide q e)))
   | .bool x,.lit y=>some (.bool (@ite _ p d x y))
   | .lit x,.bool y=>some (.bool (@ite _ p d x y))
   |_,_=>none)
 | .bool c=>(match a,b with
   | .int .i64 x,.int .i64 y=>some (.int .i64 (if c=true then x else y))
   | .bool x,.bool y=>some (.bool (if c=true then x else y))
   | .bool x,.lit y=>some (.bool (if c=true then x else y))
   | .lit x,.bool y=>some (.bool (if c=true then x else y))
   |_,_=>none)
 |_=>none
def W9{c a b r:SV}(h:Ge c a b=some r){K:AV->Prop}(hK:K r.av):uh c.av a.av b.av K:=by
 unfold Ge at h;split at h
 .cases h;exact hK
 .cases h;exact hK
 .rename_i p d;split at h<;>cases h<;>(simp only[SV.av,uh]at*;cases d<;>rename_i hp<;>simpa[hp]using hK)
 .rename_i c;split at h<;>cases h<;>(simp only[SV.av,uh]at*;cases c<;>simpa using hK)
 .cases h
def GE(P:Program)(t:TypeId)(x:SV)(f:Nat):Option SV:=match sh P t f with
 |some q=>(match x with
  | .ptr s off=>some (.ptr s (off+q.1))
  | .pe lt l i off=>some (.pe lt l i (off+q.1))
  | .pte s lt i off=>some (.pte s lt i (off+q.1))
  | .pro cs off=>(match bG (avs cs)with|some _=>some (.pro cs (off+q.1))|none=>none)
  |_=>none)
 |none=>none
def VV{P:Program}{t:TypeId}{x:SV}{f:Nat}{r:SV}(h:GE P t x f=some r){K:AV->Prop}(hK:K r.av):GQ P t f x.av K/\(x.ok->r.ok):=by
 unfold GE at h;split at h
 .rename_i q hq;split at h
  .cases h;exact⟨⟨q,hq,hK⟩,λ_=>trivial⟩
  .cases h;exact⟨⟨q,hq,by simpa[SV.av,rG]using hK⟩,λh=>h⟩
  .cases h;exact⟨⟨q,hq,by simpa[SV.av,rG]using hK⟩,λ_=>trivial⟩
  .split at h<;>cases h;rename_i m hm;refine⟨⟨q,hq,?_⟩,λ_=>trivial⟩;simp only[SV.av,hm]at hK|-;exact hK
  .cases h
 .cases h
def GD(P:Program)(t:TypeId)(x:SV)(f:Nat):Option SV:=match sh P t f,x with
 |some q,.agg l=>(match tok P q.2,iH P q.2 with
  |true,true=>some (.agg ((l.drop q.1).take (aZ P q.2)))
  |true,false=>l[q.1]?
  |false,_=>none)
 |_,_=>none
def VU{P:Program}{t:TypeId}{x:SV}{f:Nat}{r:SV}(h:GD P t x f=some r){K:AV->Prop}(hK:K r.av):GO P t f x.av K:=by
 unfold GD at h;split at h
 .rename_i q l hq;refine⟨q,hq,?_⟩;have key:sQ P q.2 (avs l) q.1 K:=by
   split at h
   .rename_i h1 h2;cases h;refine⟨h1,?_⟩;rw[if_pos h2];exact⟨_,rfl,by rw[<-E6,<-E5];exact hK⟩
   .rename_i h1 h2;refine⟨h1,?_⟩;rw[if_neg (by rw[h2];simp)];exact⟨r.av,by rw[xU,h];rfl,hK⟩
   .cases h
  show(match eK (avs l)with| .agg l=>sQ P q.2 l q.1 K| .p (.agg l)=>sQ P q.2 (l.map .p) q.1 K|_=>False);unfold eK;cases hq:bG (avs l)with
  |none=>exact key
  |some m=>dsimp only;rw[<-il hq];exact key
 .cases h
def GC(P:Program)(t:TypeId)(x i:SV):Option (List Prop×SV):=match i with
 | .int _ a=>(match x with
   | .lst lt l=>(match dG P t with
     |some e=>(match(P.info? e).isSome,bB (aZ P e) lt.w with|true,true=>some ([ix a l.length],.pe lt l a.toNat 0)|_,_=>none)
     |none=>none)
   | .own s lt n=>(match dG P t with
     |some e=>(match(P.info? e).isSome,bB (aZ P e) lt.w with|true,true=>some ([ix a n],.pte s lt a.toNat 0)|_,_=>none)
     |none=>none)
   | .owns s lt o n=>(match dG P t with
     |some e=>(match(P.info? e).isSome,bB (aZ P e) lt.w with|true,true=>some ([ix a n],.pte s lt (o+a.toNat) 0)|_,_=>none)
     |none=>none)
   | .ownx s n=>(match dG P t with
     |some e=>(match(P.info? e).isSome with|true=>some ([ix a n],.ptr s (a.toNat*aZ P e))|_=>none)
     |none=>none)
   | .owF x n=>(match dG P t with
     |some e=>(match(P.info? e).isSome,bB (aZ P e) 1 with|true,true=>some ([ix a n],.ptf x a.toNat)|_,_=>none)
     |none=>none)
   | .ownf x lt b n=>(match dG P t with
     |some e=>(match(P.info? e).isSome,bB (aZ P e) lt.w with|true,true=>some ([ix a n],.ptef x lt b a.toNat 0)|_,_=>none)
     |none=>none)
   | .sl n cs=>(match dG P t,bG (avs cs)with
     |some e,some _=>(match(P.info? e).isSome with|true=>some ([ix a n],.pro cs (a.toNat*aZ P e))|_=>none)
     |_,_=>none)
   | .ptr s off=>(match q7 P t with
     |some q=>(match(P.info? q.2).isSome with|true=>some ([ix a q.1],.ptr s (off+a.toNat*aZ P q.2))|_=>none)
     |none=>none)
   | .pe lt l j off=>(match q7 P t with
     |some q=>(match(P.info? q.2).isSome with|true=>some ([ix a q.1,j<l.length],.pe lt l j (off+a.toNat*aZ P q.2))|_=>none)
     |none=>none)
   | .ptb F m off=>(match q7 P t with
     |some q=>(match(P.info? q.2).isSome with|true=>some ([ix a q.1],.ptb F m (off+a.toNat*aZ P q.2))|_=>none)
     |none=>none)
   | .pro cs off=>(match q7 P t,bG (avs cs)with
     |some q,some _=>(match(P.info? q.2).isSome with|true=>some ([ix a q.1],.pro cs (off+a.toNat*aZ P q.2))|_=>none)
     |_,_=>none)
   |_=>none)
 |_=>none
def VQ{P:Program}{t:TypeId}{x i:SV}{ps:List Prop}{r:SV}(h:GC P t x i=some (ps,r))(hp:∀p∈ps,p){K:AV->Prop}(hK:K r.av):BL P t x.av i.av K/\r.ok:=by
 unfold GC at h;split at h
 case h_2=>cases h
 rename_i k a;split at h
 .rename_i lt l;split at h
  .rename_i e he;split at h<;>cases h;rename_i h1 h2;have hb:=hp _ (bh.2 rfl);unfold ix at hb;refine⟨⟨e,he,h1,hb.1,hb.2,?_⟩,show a.toNat<l.length by omega⟩;rw[dM h2];exact hK
  .cases h
 .split at h
  .rename_i e he;split at h<;>cases h;rename_i h1 h2;have hb:=hp _ (bh.2 rfl);refine⟨⟨e,he,h1,hb.1,hb.2,?_⟩,trivial⟩;rw[dM h2,jg];exact hK
  .cases h
 .split at h
  .rename_i e he;split at h<;>cases h;rename_i h1 h2;have hb:=hp _ (bh.2 rfl);refine⟨⟨e,he,h1,hb.1,hb.2,?_⟩,trivial⟩;rw[dM h2,<-yd];exact hK
  .cases h
 .split at h
  .rename_i e he;split at h<;>cases h;rename_i h1;have hb:=hp _ (bh.2 rfl);refine⟨⟨e,he,h1,hb.1,hb.2,?_⟩,trivial⟩;rw[jg];exact hK
  .cases h
 .split at h
  .rename_i e he;split at h<;>cases h;rename_i h1 h2;have hb:=hp _ (bh.2 rfl);refine⟨⟨e,he,h1,hb.1,hb.2,?_⟩,trivial⟩;rw[dM h2,jg,Nat.mul_one];exact hK
  .cases h
 .split at h
  .rename_i e he;split at h<;>cases h;rename_i h1 h2;have hb:=hp _ (bh.2 rfl);refine⟨⟨e,he,h1,hb.1,hb.2,?_⟩,trivial⟩;rw[dM h2,jg];exact hK
  .cases h
 .split at h
  .rename_i e m he hm;split at h<;>cases h;rename_i h1;have hb:=hp _ (bh.2 rfl);refine⟨?_,trivial⟩;simp only[SV.av,hm]at hK|-;exact⟨e,he,h1,hb.1,hb.2,hK⟩
  .cases h
 .split at h
  .rename_i q hq;split at h<;>cases h;rename_i h1;have hb:=hp _ (bh.2 rfl);exact⟨⟨q,hq,h1,hb.1,hb.2,hK⟩,trivial⟩
  .cases h
 .rename_i lt l j off;split at h
  .rename_i q hq;split at h<;>cases h;rename_i h1;have hb:=hp _ (cE);refine⟨⟨q,hq,h1,hb.1,hb.2,?_⟩,hp (j<l.length) (by grind)⟩;rw[rG];exact hK
  .cases h
 .split at h
  .rename_i q hq;split at h<;>cases h;rename_i h1;have hb:=hp _ (bh.2 rfl);exact⟨⟨q,hq,h1,hb.1,hb.2,hK⟩,trivial⟩
  .cases h
 .split at h
  .rename_i q m hq hm;split at h<;>cases h;rename_i h1;have hb:=hp _ (bh.2 rfl);refine⟨?_,trivial⟩;simp only[SV.av,hm]at hK|-;exact⟨q,hq,h1,hb.1,hb.2,hK⟩
  .cases h
 .cases h
def bX.newF{σ:Sg}{n m:Nat}{e ie:TypeId}{lt:LT}(h:σ n=none)(hs:aM n=sit n 0):
  bX σ [] [(n,some (.fam e ie lt (cO m []) []))] [] ((sit n 0,some ⟨e,1,(bP m).map λj=> .own (inn n (j+1)) 0 0⟩)::(bP m).map λj=>(inn n (j+1),some ⟨ie,lt.w,[]⟩)):=by
 rw[<-hs];refine⟨λs hm=>by grind,λs hm=> ?_,?_⟩
 .have hc:cls s=ncl n:=by
   rcases bO.1 hm with rfl|hm
   .exact fG n 0
   .rw[cv]at hm;obtain⟨j,_,rfl⟩:=bM.1 hm;exact fG n (j+1)
  grind
 .funext s
  unfold ao;rw[dS,C3 (λj=>inn n (j+1))];rcases j8 s with⟨y,rfl⟩|⟨y,b,rfl⟩|hno
  .rw[if_neg (show¬aM y∈(bP m).map λj=>inn n (j+1)from λhm=>by obtain⟨j,_,hj⟩:=bM.1 hm;have:=(fD hj).2;omega)]
   rw[Sg.cH,Sg.cH];unfold aP.up;rw[dS];by_cases e1:y=n
   .subst e1;rw[beq_iff_eq.2 rfl,beq_iff_eq.2 rfl];show some (⟨e,1,_⟩:Ob)=some ⟨e,1,(bP (cO m ([] :List lt.ty)).length).map (iX y (cO m ([] :List lt.ty)) [])⟩;rw[List.length_replicate]
    congr 2
    refine iy λi hi=> ?_;show _=AV.own (inn y (i+1)) 0 ((cO m ([] :List lt.ty)).getD i []).length;grind
   .rw[beq_eq_false_iff_ne.2 e1,beq_eq_false_iff_ne.2 (show aM y≠aM n from λh=>e1 (kn h))];rfl
  .rw[beq_eq_false_iff_ne.2 (show inn y (b+1)≠aM n from λh=>by have:=(fD h).2;omega),Sg.fQ,Sg.fQ];unfold aP.up;rw[dS];by_cases e1:y=n
   .subst e1;rw[beq_iff_eq.2 rfl];show _=(((cO m ([] :List lt.ty))[b]?).map λl=>(⟨ie,lt.w,(lt.enc l).map .p⟩:Ob));rw[Ci];by_cases hb:b<m
    .rw[if_pos (by grind),if_pos hb];rfl
    .rw[if_neg (show¬inn y (b+1)∈(bP m).map λj=>inn y (j+1)from λhm=>by obtain⟨j,h1,hj⟩:=bM.1 hm;have:=(fD hj).2;grind),if_neg hb,h];rfl
   .rw[if_neg (show¬inn y (b+1)∈(bP m).map λj=>inn n (j+1)from λhm=>by obtain⟨j,h1,hj⟩:=bM.1 hm;exact e1 (fD hj).1.symm),beq_eq_false_iff_ne.2 e1];rfl
  .rw[if_neg (by grind),beq_eq_false_iff_ne.2 (show s≠aM n from λh=>hno n 0 h),Sg.jc _ hno,Sg.jc _ hno]
def Eb(x:PV):∀m,mB m [.p x] =(cO m x).map .p
 |0=>rfl
 |m+1=>by rw[mB,Eb x m,vY];rfl
def MU:∀m,LT.I.enc (cO m (0:Int))=cO m (.int .i64 0)
 |0=>rfl
 |m+1=>by rw[vY,vY,<-MU m];rfl
def MV:∀m,LT.B.enc (cO m false)=cO m (.bool false)
 |0=>rfl
 |m+1=>by rw[vY,vY,<-MV m];rfl
def Gg(P:Program)(ltOf:TypeId->Option LT)(σ:Sg)(n:Nat)(t:TypeId)(x y:SV):SR:=match x,y with
 | .int _ a,.int _ b=>(match dG P t,frs σ n with
   |some e,true=>(match P.info? e,uf P e,bB (aZ P e) 1 with
    |some i,some [.int .i64 (.ofNat 0)],true=>some ([0<=a,b=a,a<=1000000,a.toNat*i.bytes<=1000000000],.own n .I a.toNat,[],[(n,some (.row e .I (cO a.toNat (0:Int))))])
    |some i,some [.lit false],true=>some ([0<=a,b=a,a<=1000000,a.toNat*i.bytes<=1000000000],.own n .B a.toNat,[],[(n,some (.row e .B (cO a.toNat false)))])
    |some i,some [.nil],true=>(match dG P e with
     |some ie=>(match ltOf ie with
      |some lt=>some ([0<=a,b=a,a<=1000000,a.toNat*i.bytes<=1000000000],.owF n a.toNat,[],[(n,some (.fam e ie lt (cO a.toNat []) []))])
      |none=>none)
     |none=>none)
    |_,_,_=>none)
   |_,_=>none)
 |_,_=>none
def XF{P:Program}{ltOf:TypeId->Option LT}{n:Nat}{o:Oper}{E:SE}{σ:Sg}{t:TypeId}{x y:Operand}(ho:o.op= .makeSlice t x y):qy P n o E σ (Gg P ltOf σ n t (E x) (E y)):=by
 intro ps r rd W h hp;unfold AOp;rw[ho];dsimp only;unfold Gg at h;split at h
 case h_2=>cases h
 rename_i k1 a k2 b ea eb;rw[show E.a x= .p (.int k1 a) by unfold SE.a;rw[ea];rfl,show E.a y= .p (.int k2 b) by unfold SE.a;rw[eb];rfl];split at h
 case h_2=>cases h
 rename_i e he hf;obtain⟨f1,f2⟩:=ls hf;split at h
 .cases h;rename_i i hi hz hw;obtain⟨z1,z2⟩:=tf hz;have q1:0<=a:=hp _ (by simp);have q2:b=a:=hp _ (by simp);have q3:a<=1000000:=hp _ (by simp);have q4:a.toNat*i.bytes<=1000000000:=hp _ (by simp);have hw:=dM hw;subst q2;refine .inl ⟨k1,k2,b.toNat,e,_,i,by grind,by grind,he,hi,z1,z2,by simp[avs],by grind,q4,?_,?_⟩
  .show _=AV.own (aM n) 0 _;rw[f1]
  .rw[hw,show avs [SV.int .i64 (.ofNat 0)] =[.p (.int .i64 0)]from rfl,Eb,<-MU];exact bX.new (ob:= .row e .I (cO b.toNat (0:Int))) f2 f1 rfl
 .cases h;rename_i i hi hz hw;obtain⟨z1,z2⟩:=tf hz;have q1:0<=a:=hp _ (by simp);have q2:b=a:=hp _ (by simp);have q3:a<=1000000:=hp _ (by simp);have q4:a.toNat*i.bytes<=1000000000:=hp _ (by simp);have hw:=dM hw;subst q2;refine .inl ⟨k1,k2,b.toNat,e,_,i,by grind,by grind,he,hi,z1,z2,by simp[avs],by grind,q4,?_,?_⟩
  .show _=AV.own (aM n) 0 _;rw[f1]
  .rw[hw,show avs [SV.lit false] =[.p (.bool false)]from rfl,Eb,<-MV];exact bX.new (ob:= .row e .B (cO b.toNat false)) f2 f1 rfl
 .rename_i i hi hz hw;split at h
  case h_2=>cases h
  rename_i ie hie;split at h<;>cases h;rename_i lt hlt;obtain⟨z1,z2⟩:=tf hz;have q1:0<=a:=hp _ (by simp);have q2:b=a:=hp _ (by simp);have q3:a<=1000000:=hp _ (by simp);have q4:a.toNat*i.bytes<=1000000000:=hp _ (by simp);subst q2;have hcl:ncl n=n:=by have h1:cls (aM n)=ncl n:=fG n 0;rw[f1,gm]at h1;exact h1.symm
  refine .inr ⟨λj=>inn n (j+1),ie,lt.w,k1,k2,b.toNat,e,i,by grind,by grind,he,hi,z1,z2,by have:=lt.kF;omega,λj=>(fG n (j+1)).trans hcl,λj hj=> ?_,by omega,q4,?_,bX.newF f2 f1⟩
  .rw[<-f1]at hj;have:=(fD hj).2;omega
  .show _=AV.own (aM n) 0 _;rw[f1]
 .cases h
def Gj(x:SV)(i:Nat):Option SV:=match x with
 | .tup l=>l[i]?
 |_=>none
def XI{x:SV}{i:Nat}{r:SV}(h:Gj x i=some r){K:AV->Prop}(hK:K r.av):x8 x.av i K:=by
 unfold Gj at h;split at h
 .rename_i l;have h1:(avs l)[i]? =some r.av:=by rw[xU,h];rfl
  show x8 (jr (avs l)) i K;unfold jr;cases hq:bG (avs l)with
  |none=>exact⟨_,h1,hK⟩
  |some q=>
   rw[il hq,fy]at h1;cases hc:q[i]? with
   |none=>grind
   |some y=>exact⟨y,hc,by grind⟩
 .cases h
end
noncomputable section
def oT(raw:Bool)(k:IntKind)(x:Int):List Prop×SV:=match raw,k with
 |false,.i64=>([aH x],.int .i64 x)
 |_,k=>([],.int k (k.wrap x))
def uK{raw:Bool}{k:IntKind}{x:Int}(h:∀p∈(oT raw k x).1,p):(oT raw k x).2.av= .p (.int k (k.wrap x)):=by
 unfold oT at h|-;split
 .rw[tW (h _ (by grind))];rfl
 .rfl
def x9:SV->Option Bool
 | .bool b=>some b
 | .lit b=>some b
 | .prop p d=>some (@decide p d)
 |_=>none
def xI{x:SV}{b:Bool}(h:x9 x=some b):x.av= .p (.bool b):=by cases x<;>simp only[x9,reduceCtorEq,fZ]at h<;>subst h<;>rfl
def GF(raw:Bool)(op:BinOp)(k:IntKind)(a b:Int):Option (List Prop×SV):=match op with
 | .add=>some (oT raw k (a+b))
 | .sub=>some (oT raw k (a-b))
 | .mul=>some (oT raw k (a*b))
 | .quo=>some ((b≠0)::(oT raw k (a.tdiv b)).1,(oT raw k (a.tdiv b)).2)
 | .rem=>some ([b≠0],.int k (a.tmod b))
 | .eql=>some ([],.prop (a=b) inferInstance)
 | .neq=>some ([],.prop (¬a=b) inferInstance)
 | .lss=>some ([],.prop (a<b) inferInstance)
 | .leq=>some ([],.prop (a<=b) inferInstance)
 | .gtr=>some ([],.prop (b<a) inferInstance)
 | .geq=>some ([],.prop (b<=a) inferInstance)
 |_=>none
def Vb{raw:Bool}{op:BinOp}{k:IntKind}{a b:Int}{ps:List Prop}{r:SV}(h:GF raw op k a b=some (ps,r))(hp:∀p∈ps,p){K:AV->Prop}(hK:K r.av):ud op k a b K:=by
 unfold GF at h;split at h<;>simp only[fZ,sz,reduceCtorEq]at h
 .have e:=uK (raw:=raw) (k:=k) (x:=a+b) (by grind);unfold ud;grind
 .have e:=uK (raw:=raw) (k:=k) (x:=a-b) (by grind);unfold ud;grind
 .have e:=uK (raw:=raw) (k:=k) (x:=a*b) (by grind);unfold ud;grind
 .obtain⟨rfl,rfl⟩:=h;have e:=uK (raw:=raw) (k:=k) (x:=a.tdiv b) (by grind);exact⟨hp _ (by grind),by grind⟩
 .obtain⟨rfl,rfl⟩:=h;exact⟨hp _ (by grind),hK⟩
 .obtain⟨rfl,rfl⟩:=h;exact hK
 .obtain⟨rfl,rfl⟩:=h;show K (.p (.bool (a !=b)));have:(a !=b)=decide (¬a=b):=by by_cases e:a=b<;>simp[e]
  rw[this];exact hK
 .obtain⟨rfl,rfl⟩:=h;exact hK
 .obtain⟨rfl,rfl⟩:=h;exact hK
 .obtain⟨rfl,rfl⟩:=h;exact hK
 .obtain⟨rfl,rfl⟩:=h;exact hK
def uk:List SV->Option (List Int)
 |[] =>some []
 | .int .i64 a::l=>(match uk l with|some m=>some (a::m)|none=>none)
 |_::_=>none
def Ep:∀{l:List SV} {m:List Int},uk l=some m->avs l=(kf m).map .p
 |[],m,h=>by simp only[uk,fZ]at h;subst h;rfl
 |x::l,m,h=>by
  unfold uk at h;split at h
  .grind
  .rename_i a l' e;cases e;split at h<;>cases h;rename_i m' hm;rw[avs,Ep hm];rfl
  .cases h
def wK:∀m:List Int,ny (kf m)=some m
 |[] =>rfl
 |x::m=>by
  have:=wK m;unfold kf at*;simp only[cT,ny,this,eI]
def eqP(xs ys:List Int):SV:=match xs,ys with
 |[a,b],[c,d] => .prop ((⟨a,b⟩:V)=⟨c,d⟩) inferInstance
 |[a,b,c,d],[e,f,g,h] => .prop ((⟨⟨a,b⟩,⟨c,d⟩⟩:S)=⟨⟨e,f⟩,⟨g,h⟩⟩) inferInstance
 |xs,ys=> .prop (xs=ys) inferInstance
def O8(xs ys:List Int):(eqP xs ys).av= .p (.bool (xs==ys)):=by
 unfold eqP;split
 .show AV.p (.bool (decide _))=_
  congr 2
  grind
 .show AV.p (.bool (decide _))=_
  congr 2
  grind
 .show AV.p (.bool (decide _))=_;grind
def B8:SV->Option SV
 | .prop p d=>some (.prop (¬p) (@instDecidableNot p d))
 | .bool b=>some (.bool (!b))
 | .lit true=>some (.lit false)
 | .lit false=>some (.lit true)
 |_=>none
def Ni{x r:SV}(h:B8 x=some r):∃b,x.av= .p (.bool b)/\r.av= .p (.bool (!b)):=by
 cases x<;>simp only[B8,reduceCtorEq,fZ]at h
 .subst h;exact⟨_,rfl,rfl⟩
 .rename_i b;cases b<;>simp only[fZ]at h<;>subst h<;>exact⟨_,rfl,rfl⟩
 .subst h;refine⟨_,rfl,?_⟩;show AV.p (.bool (decide _))=_;grind
abbrev EqT:=List (TypeId×Nat)
def EqT.Ok(P:Program)(q:EqT):Prop:=∀t m,(t,m)∈q->xv P t m
def EqT.has:EqT->TypeId->Nat->Bool
 |[],_,_=>false
 |(a,b)::l,t,m=>(bB a t&&bB b m)||EqT.has l t m
def EqT.Fg:∀{q:EqT} {t m:Nat},q.has t m=true->(t,m)∈q
 |[],t,m,h=>by cases h
 |(a,b)::l,t,m,h=>by
  simp only[EqT.has,Bool.or_eq_true,bm]at h;rcases h with⟨h1,h2⟩|h
  .simp_all
  .exact cB _ (EqT.Fg h)
def HG(P:Program)(q:EqT)(raw:Bool)(op:BinOp)(t:TypeId)(x y:SV):Option (List Prop×SV):=match x,y with
 | .int k a,.int k' b=>(match decEq k' k with| .isTrue _=>GF raw op k a b| .isFalse _=>none)
 | .agg l,.agg m=>(match uk l,uk m with
   |some xs,some ys=>(match bB xs.length ys.length,q.has t xs.length,op with
    |true,true,.eql=>some ([],eqP xs ys)
    |true,true,.neq=>(match B8 (eqP xs ys)with|some r=>some ([],r)|none=>none)
    |_,_,_=>none)
   |_,_=>none)
 | .lst _ l,.nil=>(match(dG P t).isSome,op with
   |true,.eql=>some ([0<l.length],.lit false)
   |_,_=>none)
 |x,y=>(match x9 x,x9 y,GZ P t,op with
  |some a,some b,true,.eql=>some ([],.bool (a==b))
  |some a,some b,true,.neq=>some ([],.bool (a !=b))
  |_,_,_,_=>none)
def Yq{P:Program}{q:EqT}(hq:q.Ok P){raw:Bool}{op:BinOp}{t:TypeId}{x y:SV}{ps:List Prop}{r:SV}(h:HG P q raw op t x y=some (ps,r))(hp:∀p∈ps,p){K:AV->Prop}(hK:K r.av):vC P op t x.av y.av K:=by
 unfold HG at h;split at h
 .split at h
  .rename_i e _;exact⟨e,Vb h hp hK⟩
  .cases h
 .rename_i l m;split at h
  .rename_i xs ys hx hy;have key:∀(op:BinOp),(∃xs' ys',ny (kf xs)=some xs'/\ny (kf ys)=some ys'/\xs'.length=ys'.length/\xv P t xs'.length/\(match op with| .eql=>K (.p (.bool (xs'==ys')))| .neq=>K (.p (.bool (xs' !=ys')))|_=>False))->vC P op t (SV.agg l).av (SV.agg m).av K:=by intro op h;show vC P op t (eK (avs l)) (eK (avs m)) K;rw[Ep hx,Ep hy,rW,rW];exact h
   split at h
   .rename_i h1 h2;cases h;refine key _ ⟨xs,ys,wK _,wK _,dM h1,hq _ _ (EqT.Fg h2),?_⟩;rw[O8]at hK;exact hK
   .rename_i h1 h2;split at h<;>cases h;rename_i hr;obtain⟨b,e1,e2⟩:=Ni hr;rw[O8]at e1;refine key _ ⟨xs,ys,wK _,wK _,dM h1,hq _ _ (EqT.Fg h2),?_⟩;grind
   .cases h
  .cases h
 .rename_i t' l;split at h<;>cases h;rename_i ht;have hl:0<l.length:=hp _ (by grind);refine⟨ht,λe=> ?_,rfl,hK⟩;have e2:=congrArg fW e;rw[t'.wide.length,List.length_nil]at e2;have:=Nat.mul_pos hl t'.kF;omega
 .split at h
  .rename_i a b h1 h2 h3;cases h;rw[xI h1,xI h2];exact⟨h3,hK⟩
  .rename_i a b h1 h2 h3;cases h;rw[xI h1,xI h2];exact⟨h3,hK⟩
  .cases h
def sun(raw:Bool)(op:UnOp)(x:SV):Option (List Prop×SV):=match op with
 | .not=>(match B8 x with|some r=>some ([],r)|none=>none)
 | .neg=>(match x with| .int k a=>some (oT raw k (0-a))|_=>none)
 |_=>none
def Z5{raw:Bool}{op:UnOp}{x:SV}{ps:List Prop}{r:SV}(h:sun raw op x=some (ps,r))(hp:∀p∈ps,p){K:AV->Prop}(hK:K r.av):unA op x.av K:=by
 unfold sun at h;split at h
 .split at h<;>cases h;rename_i hr;obtain⟨b,e1,e2⟩:=Ni hr;rw[e1];rw[e2]at hK;exact hK
 .split at h
  .rename_i k a;simp only[fZ]at h;have e:=uK (raw:=raw) (k:=k) (x:=0-a) (by grind);show K _;grind
  .cases h
 .cases h
def Gl(P:Program)(raw:Bool)(s d:TypeId)(x:SV):Option (List Prop×SV):=match x with
 | .int _ a=>(match(P.underlying s).isSome,G6 P d with
   |true,some k=>some (oT raw k a)
   |_,_=>none)
 |_=>none
def XK{P:Program}{raw:Bool}{s d:TypeId}{x:SV}{ps:List Prop}{r:SV}(h:Gl P raw s d x=some (ps,r))(hp:∀p∈ps,p){K:AV->Prop}(hK:K r.av):Bo P s d x.av K:=by
 unfold Gl at h;split at h
 .rename_i k0 a;split at h
  .rename_i k h1 h2;simp only[fZ]at h;have e:=uK (raw:=raw) (k:=k) (x:=a) (by grind);exact⟨h1,k,h2,by grind⟩
  .cases h
 .cases h
def HR:SV->Option Int
 | .int _ n=>some n
 |_=>none
def ZQ{x:SV}{n:Int}(h:HR x=some n):CD x.av=some n:=by cases x<;>simp only[HR,reduceCtorEq,fZ]at h;subst h;rfl
def CF(E:SE):Option Operand->Option (Option Int)
 |none=>some none
 |some x=>(match HR (E x)with|some n=>some (some n)|none=>none)
def GA(P:Program)(t:TypeId)(x:SV)(lo hi:Option Int):Option (List Prop×SV):=match dG P t with
 |some e=>(match(P.info? e).isSome,bB (aZ P e) 0 with
  |true,false=>(match x,lo,hi with
   | .lst lt l,lo,hi=>(match bB (aZ P e) lt.w with
     |true=>(match lo,hi with
      |none,none=>some ([],.lst lt l)
      |some a,none=>some ([0<=a/\a<=(l.length:Int)],.lst lt (l.drop a.toNat))
      |none,some b=>some ([0<=b/\b<=(l.length:Int)],.lst lt (l.take b.toNat))
      |some a,some b=>some ([0<=a/\a<=b/\b<=(l.length:Int)],.lst lt ((l.take b.toNat).drop a.toNat)))
     |false=>none)
   | .own s lt n,lo,hi=>(match bB (aZ P e) lt.w with
     |true=>(match lo,hi with
      |none,none=>some ([],.own s lt n)
      |none,some b=>some ([0<=b/\b<=(n:Int)],.owns s lt 0 b.toNat)
      |some a,none=>some ([0<=a/\a<=(n:Int)],.owns s lt a.toNat (n-a.toNat))
      |some a,some b=>some ([0<=a/\a<=b/\b<=(n:Int)],.owns s lt a.toNat (b.toNat-a.toNat)))
     |false=>none)
   | .owns s lt o n,lo,hi=>(match bB (aZ P e) lt.w with
     |true=>(match lo,hi with
      |none,none=>some ([],.owns s lt o n)
      |none,some b=>some ([0<=b/\b<=(n:Int)],.owns s lt o b.toNat)
      |some a,none=>some ([0<=a/\a<=(n:Int)],.owns s lt (o+a.toNat) (n-a.toNat))
      |some a,some b=>some ([0<=a/\a<=b/\b<=(n:Int)],.owns s lt (o+a.toNat) (b.toNat-a.toNat)))
     |false=>none)
   | .ownx s n,none,none=>some ([],.ownx s n)
   |_,_,_=>none)
  |_,_=>none)
 |none=>none
def VL{P:Program}{t:TypeId}{x:SV}{lo hi:Option Int}{ps:List Prop}{r:SV}(h:GA P t x lo hi=some (ps,r))(hp:∀p∈ps,p){K:AV->Prop}(hK:K r.av):
  uQ P t x.av (some (lo.getD 0)) (some (hi.getD (BH x.av))) K:=by
 unfold GA at h;split at h
 case h_2=>cases h
 rename_i e he;split at h
 case h_2=>cases h
 rename_i h1 h2;have h2':aZ P e≠0:=lT h2;split at h
 .rename_i lt l;split at h
  case h_2=>cases h
  rename_i hw;have hw:=dM hw;have key:∀a b:Int,0<=a->a<=b->b<=l.length->K (.p (.sl ((l.take b.toNat).drop a.toNat).length (lt.enc ((l.take b.toNat).drop a.toNat))))->uQ P t (SV.lst lt l).av (some a) (some b) K:=by
   intro a b ha hb hc hK;refine⟨e,a,b,he,h1,h2',rfl,rfl,ha,hb,hc,?_⟩;rw[hw,lt.wide.take,lt.wide.drop];have:((l.take b.toNat).drop a.toNat).length=b.toNat-a.toNat:=by simp only[List.length_drop,kP];omega
   rw[<-this];exact hK
  split at h<;>cases h
  .refine key 0 (l.length:Int) (by omega) (by omega) (by omega) ?_;rw[i7,vl];exact hK
  .rename_i a;have hb:=hp _ (bh.2 rfl);refine key a (l.length:Int) hb.1 hb.2 (by omega) ?_;rw[i7,vl];exact hK
  .rename_i b;have hb:=hp _ (bh.2 rfl);exact key 0 b (by omega) hb.1 hb.2 hK
  .rename_i a b;have hb:=hp _ (bh.2 rfl);exact key a b hb.1 hb.2.1 hb.2.2 hK
 .rename_i s lt n;split at h
  case h_2=>cases h
  rename_i hw;have hw:=dM hw;have key:∀a b:Int,0<=a->a<=b->b<=n->K (.own (aM s) (a.toNat*lt.w) (b.toNat-a.toNat))->uQ P t (SV.own s lt n).av (some a) (some b) K:=by intro a b ha hb hc hK;refine⟨e,a,b,he,h1,h2',rfl,rfl,ha,hb,hc,?_⟩;rw[hw,jg];exact hK
  split at h<;>cases h
  .refine key 0 (n:Int) (by omega) (by omega) (by omega) ?_;simpa[SV.av]using hK
  .rename_i b;have hb:=hp _ (bh.2 rfl);refine key 0 b (by omega) hb.1 hb.2 ?_;simpa[SV.av]using hK
  .rename_i a;have hb:=hp _ (bh.2 rfl);exact key a (n:Int) hb.1 hb.2 (by omega) (by simpa[SV.av]using hK)
  .rename_i a b;have hb:=hp _ (bh.2 rfl);exact key a b hb.1 hb.2.1 hb.2.2 hK
 .rename_i s lt o n;split at h
  case h_2=>cases h
  rename_i hw;have hw:=dM hw;have key:∀a b:Int,0<=a->a<=b->b<=n->K (.own (aM s) ((o+a.toNat)*lt.w) (b.toNat-a.toNat))->uQ P t (SV.owns s lt o n).av (some a) (some b) K:=by intro a b ha hb hc hK;refine⟨e,a,b,he,h1,h2',rfl,rfl,ha,hb,hc,?_⟩;rw[hw,<-yd];exact hK
  split at h<;>cases h
  .refine key 0 (n:Int) (by omega) (by omega) (by omega) ?_;simpa[SV.av]using hK
  .rename_i b;have hb:=hp _ (bh.2 rfl);refine key 0 b (by omega) hb.1 hb.2 ?_;simpa[SV.av]using hK
  .rename_i a;have hb:=hp _ (bh.2 rfl);exact key a (n:Int) hb.1 hb.2 (by omega) (by simpa[SV.av]using hK)
  .rename_i a b;have hb:=hp _ (bh.2 rfl);exact key a b hb.1 hb.2.1 hb.2.2 hK
 .rename_i s n;cases h;refine⟨e,0,(n:Int),he,h1,h2',rfl,rfl,iz _,by grind,iz _,?_⟩;simpa[SV.av]using hK
 .cases h
def HF(P:Program)(t:TypeId)(x:SV):Option SV:=match x with
 | .lst _ l=>(match(dG P t).isSome with|true=>some (.int .i64 (l.length:Int))|false=>none)
 | .own _ _ n=>(match(dG P t).isSome with|true=>some (.int .i64 (n:Int))|false=>none)
 | .owns _ _ _ n=>(match(dG P t).isSome with|true=>some (.int .i64 (n:Int))|false=>none)
 | .ownx _ n=>(match(dG P t).isSome with|true=>some (.int .i64 (n:Int))|false=>none)
 | .owF _ n=>(match(dG P t).isSome with|true=>some (.int .i64 (n:Int))|false=>none)
 | .ownf _ _ _ n=>(match(dG P t).isSome with|true=>some (.int .i64 (n:Int))|false=>none)
 | .sl n cs=>(match(dG P t).isSome,bG (avs cs)with|true,some _=>some (.int .i64 (n:Int))|_,_=>none)
 | .nil=>(match(dG P t).isSome with|true=>some (.int .i64 0)|false=>none)
 |_=>none
def Ym{P:Program}{t:TypeId}{x r:SV}(h:HF P t x=some r){K:AV->Prop}(hK:K r.av):CC P t x.av K:=by
 unfold HF at h;split at h
 .split at h<;>cases h;rename_i h1;exact⟨h1,hK⟩
 .split at h<;>cases h;rename_i h1;exact⟨h1,hK⟩
 .split at h<;>cases h;rename_i h1;exact⟨h1,hK⟩
 .split at h<;>cases h;rename_i h1;exact⟨h1,hK⟩
 .split at h<;>cases h;rename_i h1;exact⟨h1,hK⟩
 .split at h<;>cases h;rename_i h1;exact⟨h1,hK⟩
 .split at h<;>cases h;rename_i q h1 h2;simp only[SV.av,h2];exact⟨h1,hK⟩
 .split at h<;>cases h;rename_i h1;exact⟨h1,hK⟩
 .cases h
def x6(σ:Sg)(e:TypeId)(lt:LT)(x:SV):Option (List Prop×List lt.ty×List Nat):=match x with
 | .nil=>some ([],[],[])
 | .own s _ k=>(match σ s with
   |some (.row ty lt' l)=>(match decEq lt' lt,bB ty e with
    | .isTrue h,true=>some ([k=l.length],h▸l,[s])
    |_,_=>none)
   |_=>none)
 | .ownx s k=>(match σ s with
   |some (.arr ty ez cs)=>(match bB ty e,bB ez lt.w,lt.decs k cs with
    |true,true,some l=>some ([],l,[s])
    |_,_,_=>none)
   |_=>none)
 |_=>none
def BX(σ:Sg)(lt:LT)(x:SV):Option (List Prop×List lt.ty×List Nat):=match x with
 | .nil=>some ([],[],[])
 | .lst lt' l=>(match decEq lt' lt with
   | .isTrue h=>some ([],h▸l,[])
   | .isFalse _=>none)
 | .own s _ k=>(match σ s with
   |some (.row _ lt' l)=>(match decEq lt' lt with
    | .isTrue h=>some ([k=l.length],h▸l,[s])
    | .isFalse _=>none)
   |_=>none)
 | .owns s lt2 o k=>(match σ s with
   |some (.row _ lt' l)=>(match decEq lt' lt,decEq lt2 lt with
    | .isTrue h,.isTrue _=>some ([o+k<=l.length],(h▸l:List lt.ty).drop o|>.take k,[s])
    |_,_=>none)
   |_=>none)
 | .ownx s k=>(match σ s with
   |some (.arr _ ez cs)=>(match bB ez lt.w,lt.decs k cs with
    |true,some l=>some ([],l,[s])
    |_,_=>none)
   |_=>none)
 |_=>none
def Be(P:Program)(ltOf:TypeId->Option LT)(n:Nat)(t t':TypeId)(σ:Sg)(x y:SV):SR:=match dG P t,(dG P t').isSome with
 |some e,true=>(match ltOf e,Bu P e,frs σ n with
  |some lt,true,true=>(match bB (aZ P e) lt.w,x6 σ e lt x,BX σ lt y with
   |true,some (p1,l,r1),some (p2,m,r2)=>some (p1++p2++[l.length+m.length<=1000000],.own n lt (l++m).length,r1++r2,r1.map (·,none)++[(n,some (.row e lt (l++m)))])
   |_,_,_=>none)
  |_,_,_=>none)
 |_,_=>none
def X4{σ:Sg}{e:TypeId}{lt:LT}{x:SV}{ps:List Prop}{l:List lt.ty}{r:List Nat}(h:x6 σ e lt x=some (ps,l,r))(hp:∀p∈ps,p){K:Nat->List AV->List Nat->Prop}(hK:K l.length ((lt.enc l).map .p) (r.map aM)):Gw σ.a e lt.w x.av K:=by
 unfold x6 at h;split at h
 .cases h;exact hK
 .rename_i s _ k;split at h
  .rename_i ty lt' l' hs;split at h
   .rename_i he _ hty;subst he;cases h;have hk:k=l'.length:=hp _ (by grind);refine⟨_,by rw[Sg.cH,hs];rfl,dM hty,rfl,?_,by rw[hk];exact hK⟩;show((lt'.enc l').map AV.p).length=_;rw[cL,lt'.wide.length,hk]
   .cases h
  .cases h
 .rename_i s k;split at h
  .rename_i ty ez cs hs;split at h<;>cases h;rename_i h1 h2 h3;obtain⟨e1,e2⟩:=LT.uM h3;have h2:=dM h2;refine⟨_,by rw[Sg.cH,hs];rfl,dM h1,h2,?_,?_⟩
   .show(avs cs).length=_;rw[e2,cL,lt.wide.length,e1]
   .show K k (avs cs) [aM s];grind
  .cases h
 .cases h
def LN{σ:Sg}{lt:LT}{x:SV}{ps:List Prop}{l:List lt.ty}{r:List Nat}(h:BX σ lt x=some (ps,l,r))(hp:∀p∈ps,p){K:Nat->List AV->List Nat->Prop}(hK:K l.length ((lt.enc l).map .p) (r.map aM)):BY σ.a lt.w x.av K:=by
 unfold BX at h;split at h
 .cases h;exact hK
 .rename_i lt' l';split at h
  .rename_i he _;subst he;cases h;exact⟨lt'.wide.length _,hK⟩
  .cases h
 .rename_i s _ k;split at h
  .rename_i ty lt' l' hs;split at h
   .rename_i he _;subst he;cases h;have hk:k=l'.length:=hp _ (by grind);refine⟨_,(lt'.enc l').map .p,by rw[Sg.cH,hs];rfl,?_,?_,by grind⟩
    .show(((lt'.enc l').map AV.p).drop 0).take (k*lt'.w)=_;rw[Cl,gu (by rw[cL,lt'.wide.length,hk];omega)]
    .rw[cL,lt'.wide.length,hk]
   .cases h
  .cases h
 .rename_i s lt2 o k;split at h
  .rename_i ty lt' l' hs;split at h
   .rename_i he he2 _ _;subst he;subst he2;cases h;have hk:o+k<=l'.length:=hp _ (by grind);have hlen:((l'.drop o).take k).length=k:=by simp;omega
    refine⟨_,(lt2.enc ((l'.drop o).take k)).map .p,by rw[Sg.cH,hs];rfl,?_,?_,by grind⟩
    .show(((lt2.enc l').map AV.p).drop (o*lt2.w)).take (k*lt2.w)=_;rw[<-Ck,<-yf,lt2.wide.drop,lt2.wide.take]
    .rw[cL,lt2.wide.length,hlen]
   .cases h
  .cases h
 .rename_i s k;split at h
  .rename_i ty ez cs hs;split at h<;>cases h;rename_i h1 h3;obtain⟨e1,e2⟩:=LT.uM h3;have hl:(avs cs).length=k*lt.w:=by rw[e2,cL,lt.wide.length,e1]
   refine⟨_,avs cs,by rw[Sg.cH,hs];rfl,?_,hl,by grind⟩;show((avs cs).drop 0).take (k*lt.w)=_;grind
  .cases h
 .cases h
def Uo{σ:Sg}{e:TypeId}{lt:LT}{x:SV}{ps:List Prop}{l:List lt.ty}{r:List Nat}(h:x6 σ e lt x=some (ps,l,r)):∀s∈r,pk (σ s)=true:=by
 unfold x6 at h;split at h
 .grind
 .split at h
  .rename_i hs;split at h
   .cases h;exact λs' hs'=>by rw[bh.1 hs',hs];rfl
   .cases h
  .cases h
 .split at h
  .rename_i hs;split at h<;>cases h;exact λs' hs'=>by rw[bh.1 hs',hs];rfl
  .cases h
 .cases h
def XN{P:Program}{ltOf:TypeId->Option LT}{n:Nat}{t t':TypeId}{σ:Sg}{x y:SV}{ps:List Prop}{r:SV}{rd:List Nat}{W:aP}(h:Be P ltOf n t t' σ x y=some (ps,r,rd,W))(hp:∀p∈ps,p):
  (dG P t').isSome=true/\yM P n t σ.a x.av y.av λr' R' W'=>r'=r.av/\bX σ rd W R' W':=by
 unfold Be at h;split at h
 case h_2=>cases h
 rename_i e he ht';split at h
 case h_2=>cases h
 rename_i lt hlt htapp hf;split at h
 case h_2=>cases h
 rename_i p1 l r1 p2 m r2 hw h1 h2;cases h;refine⟨ht',e,he,htapp,?_⟩;rw[dM hw];obtain⟨f1,f2⟩:=ls hf;have hfl:=Uo h1;refine X4 h1 (λp hpp=>hp p (by simp[hpp])) (LN h2 (λp hpp=>hp p (by simp[hpp])) ⟨hp _ (by simp),?_,?_⟩)
 .show _=AV.own (aM n) 0 _;grind
 .have e1:(r1.map aM).map (·,(none:Option Ob))++[(sit n 0,some (⟨e,lt.w,(lt.enc l).map AV.p++(lt.enc m).map AV.p⟩:Ob))] =aP.sto (r1.map (·,none)++[(n,some (.row e lt (l++m)))]):=by unfold aP.sto;rw[dQ,cv,cv,<-f1];show _++_=_++[(aM n,some (⟨e,lt.w,(lt.enc (l++m)).map AV.p⟩:Ob))];rw[lt.wide.append,dQ];rfl
  rw[e1,<-dQ];refine bX.flat λq hq=> ?_;rcases bq.1 hq with hq|hq
  .obtain⟨s,hs,rfl⟩:=bM.1 hq;exact⟨hfl s hs,rfl⟩
  .rw[bh.1 hq,f2];exact⟨rfl,rfl⟩
def bX.take{σ:Sg}{z n a k:Nat}{ty ity:TypeId}{lt:LT}{L:List (List lt.ty)}{ov:List (Nat×SV)}{ob:SOb}{rd R:List Nat}(hs:σ z=some (.fam ty ity lt L ov))(ho:ov.lookup a=none)(hk:k=(L.getD a []).length)(hn:σ n=none)(hf:ob.flat=true)(hR:inC R (rd.map ncl)):
  bX σ rd [(z,some (.fam ty ity lt L ((a,.ownf z lt a k)::ov))),(n,some ob)] R [(inn z (a+1),none),(aM n,some (ob.ob n))] :=by
 have hzn:z≠n:=λe=>by grind
 refine⟨hR,λs hm=> ?_,?_⟩
 .have hm:s=inn z (a+1)\/s=aM n:=by simpa using hm
  rcases hm with rfl|rfl
  .rw[fG];grind
  .rw[show cls (aM n)=ncl n from fG n 0];grind
 .funext s
  unfold ao;rcases j8 s with⟨y,rfl⟩|⟨y,b,rfl⟩|hno
  .rw[Sg.cH,Sg.cH,dS,beq_eq_false_iff_ne.2 (show aM y≠inn z (a+1)from λh=>by have:=(fD h).2;omega)];unfold aP.up;rw[dS,dS,dS];by_cases e:y=z
   .subst e;rw[beq_iff_eq.2 rfl,beq_eq_false_iff_ne.2 (show aM y≠aM n from λh=>hzn (kn h)),hs];show some (⟨ty,1,_⟩:Ob)=some ⟨ty,1,_⟩
    congr 2
    refine iy λi hi=> ?_;unfold iX;rw[dS];by_cases hi:i=a
    .subst hi;rw[beq_iff_eq.2 rfl,ho,hk];rfl
    grind
   .rw[beq_eq_false_iff_ne.2 e];by_cases e2:y=n
    .grind
    .rw[beq_eq_false_iff_ne.2 e2,beq_eq_false_iff_ne.2 (show aM y≠aM n from λh=>e2 (kn h))];rfl
  .rw[Sg.fQ,Sg.fQ,dS,dS,beq_eq_false_iff_ne.2 (show inn y (b+1)≠aM n from λh=>by have:=(fD h).2;omega)];unfold aP.up;rw[dS,dS];by_cases e:y=z
   .subst e;rw[beq_iff_eq.2 rfl,hs];by_cases hb:b=a
    .subst hb;rw[beq_iff_eq.2 rfl];unfold SOb.inner;grind
    .rw[beq_eq_false_iff_ne.2 (show inn y (b+1)≠inn y (a+1)from λh=>hb (by have:=(fD h).2;omega))];unfold SOb.inner;grind
   .rw[beq_eq_false_iff_ne.2 e,beq_eq_false_iff_ne.2 (show inn y (b+1)≠inn z (a+1)from λh=>e (fD h).1)];by_cases e2:y=n
    .subst e2;rw[beq_iff_eq.2 rfl,hn];show none=SOb.inner b ob;rw[SOb.zP hf]
    grind
  .rw[Sg.jc _ hno,Sg.jc _ hno,dS,dS,beq_eq_false_iff_ne.2 (hno z (a+1)),beq_eq_false_iff_ne.2 (show s≠aM n from λh=>hno n 0 h)];rfl
def Bd(P:Program)(n:Nat)(t t':TypeId)(σ:Sg)(z:Nat)(lt2:LT)(a k:Nat)(y:SV):SR:=match dG P t,(dG P t').isSome,σ z with
 |some e,true,some (.fam ty ity lt L ov)=>(match decEq lt2 lt,Bu P e,frs σ n,bB ity e,bB (aZ P e) lt.w,BX σ lt y with
  | .isTrue _,true,true,true,true,some (p2,m,r2)=>some ((a<L.length)::(k=(L.getD a []).length)::(mC ov a++p2++[(L.getD a []).length+m.length<=1000000]),.own n lt (L.getD a [] ++m).length,z::r2,[(z,some (.fam ty ity lt L ((a,.ownf z lt a k)::ov))),(n,some (.row e lt (L.getD a [] ++m)))])
  |_,_,_,_,_,_=>none)
 |_,_,_=>none
def XM{P:Program}{n:Nat}{t t':TypeId}{σ:Sg}{z:Nat}{lt2:LT}{a k:Nat}{y:SV}{ps:List Prop}{r:SV}{rd:List Nat}{W:aP}(h:Bd P n t t' σ z lt2 a k y=some (ps,r,rd,W))(hp:∀p∈ps,p):
  (dG P t').isSome=true/\yM P n t σ.a (SV.ownf z lt2 a k).av y.av λr' R' W'=>r'=r.av/\bX σ rd W R' W':=by
 unfold Bd at h;split at h
 case h_2=>cases h
 rename_i e ty ity lt L ov he ht' hs;split at h
 case h_2=>cases h
 rename_i hlt p2 m r2 _ htapp hf hi hw h2;subst hlt;cases h;have ha:a<L.length:=hp _ (by grind);have hk:k=(L.getD a []).length:=hp _ (by grind);have ho:ov.lookup a=none:=rb λp hq=>hp p (by simp[hq]);refine⟨ht',e,he,htapp,?_⟩;rw[dM hw];obtain⟨f1,f2⟩:=ls hf;refine⟨_,D3 hs ha ho,dM hi,rfl,?_,?_⟩
 .rw[cL,lt2.wide.length,hk]
 .subst hk;refine LN h2 (λp hpp=>hp p (by simp[hpp])) ⟨hp _ (by simp),?_,?_⟩
  .show _=AV.own (aM n) 0 _;grind
  .rw[<-f1];have e1:(⟨e,lt2.w,(lt2.enc (L.getD a [])).map AV.p++(lt2.enc m).map AV.p⟩:Ob)=SOb.ob n (.row e lt2 (L.getD a [] ++m)):=by show _=(⟨e,lt2.w,(lt2.enc (L.getD a [] ++m)).map AV.p⟩:Ob);rw[lt2.wide.append,dQ]
   rw[e1];refine bX.take hs ho rfl f2 rfl λs hm=> ?_;rcases bO.1 hm with rfl|hm
   .rw[fG];grind
   .exact cB _ ((bX.read σ r2).1 s hm)
def B0(P:Program)(ltOf:TypeId->Option LT)(n:Nat)(t t':TypeId)(σ:Sg)(x y:SV):SR:=match x with
 | .ownf z lt a k=>Bd P n t t' σ z lt a k y
 |_=>Be P ltOf n t t' σ x y
def Yr{P:Program}{ltOf:TypeId->Option LT}{n:Nat}{t t':TypeId}{σ:Sg}{x y:SV}{ps:List Prop}{r:SV}{rd:List Nat}{W:aP}(h:B0 P ltOf n t t' σ x y=some (ps,r,rd,W))(hp:∀p∈ps,p):
  (dG P t').isSome=true/\yM P n t σ.a x.av y.av λr' R' W'=>r'=r.av/\bX σ rd W R' W':=by
 unfold B0 at h;split at h
 .exact XM h hp
 .exact XN h hp
def smm(f:Int->Int->Int)(x y:SV):Option SV:=match x,y with
 | .int .i64 a,.int .i64 b=>some (.int .i64 (f a b))
 |_,_=>none
def OY{f:Int->Int->Int}{x y r:SV}(h:smm f x y=some r){K:AV->Prop}(hK:K r.av):mmA f x.av y.av K:=by unfold smm at h;split at h<;>cases h;exact hK
end
noncomputable section
def jv(f:SV->Option (List Prop×SV)):List SV->Option (List Prop×List SV)
 |[] =>some ([],[])
 |x::l=>match f x,jv f l with
  |some (p,y),some (q,m)=>some (p++q,y::m)
  |_,_=>none
def Ba(d:Nat)(σ:Sg)(x n:Nat):Option (List Prop×SV):=match d,σ x with
 |_+1,some (.fam _ _ .I L [])=>some ([n=L.length],.lst .Q L)
 |_+1,some (.fam _ _ .V L [])=>some ([n=L.length],.lst .R L)
 |_,_=>none
def kH:Nat->Sg->SV->Option (List Prop×SV)
 |_,_,.nil=>some ([],.sl 0 [])
 |_+1,σ,.own s _ n=>(match σ s with
  |some (.row _ lt l)=>some ([n=l.length],.lst lt l)
  |_=>none)
 |_+1,σ,.owns s lt2 o n=>(match σ s with
  |some (.row _ lt l)=>(match bB lt2.w lt.w with|true=>some ([o+n<=l.length],.lst lt ((l.drop o).take n))|false=>none)
  |_=>none)
 |d+1,σ,.ownx s n=>(match σ s with
  |some (.arr _ ez cs)=>(match bB cs.length (n*ez),jv (kH d σ) cs with|true,some (ps,m)=>some (ps,.sl n m)|_,_=>none)
  |_=>none)
 |d+1,σ,.ptr s off=>(match σ s with
  |some (.box _ cs)=>(match jv (kH d σ) cs with|some (ps,m)=>some (ps,.pro m off)|none=>none)
  |_=>none)
 |_+1,σ,.ownf x _ a n=>(match σ x with
  |some (.fam _ _ lt L ov)=>some ((a<L.length)::(n=(L.getD a []).length)::mC ov a,.lst lt (L.getD a []))
  |_=>none)
 |d+1,σ,.owF x n=>Ba d σ x n
 |d+1,σ,.agg l=>(match jv (kH d σ) l with|some (ps,m)=>some (ps,.agg m)|none=>none)
 |d+1,σ,.fn f a b=>(match jv (kH d σ) a,jv (kH d σ) b with|some (p,x),some (q,y)=>some (p++q,.fnp f x y)|_,_=>none)
 |_,_,x=>(match x.av with| .p _=>some ([],x)|_=>none)
def xP{d:Nat}{σ:Sg}{f:SV->Option (List Prop×SV)}(hf:∀x ps y,f x=some (ps,y)->(∀p∈ps,p)->∃q,dL d σ.a x.av=some q/\y.av= .p q):
  ∀{l:List SV} {ps:List Prop} {m:List SV},jv f l=some (ps,m)->(∀p∈ps,p)->∃q,di (dL d σ.a) (avs l)=some q/\avs m=q.map .p
 |[],ps,m,h,_=>by obtain⟨rfl,rfl⟩:=h;exact⟨[],rfl,rfl⟩
 |x::l,ps,m,h,hp=>by
  unfold jv at h;split at h
  .rename_i p y q m' h1 h2;cases h;obtain⟨u,e1,e2⟩:=hf x p y h1 (λr hr=>hp r (by grind));obtain⟨v,e3,e4⟩:=xP hf h2 (λr hr=>hp r (by grind));refine⟨u::v,?_,by rw[avs,e2,e4];rfl⟩;rw[avs,di,e1,e3]
  .cases h
def JI{d:Nat}{σ:Sg}{x:SV}{ps:List Prop}{y:SV}(h:(match x.av with| .p _=>some (([] :List Prop),x)|_=>none)=some (ps,y)):∃q,dL d σ.a x.av=some q/\y.av= .p q:=by split at h<;>cases h;rename_i q hq;exact⟨q,by rw[hq,GB],hq⟩
def JJ{σ:Sg}{x a n d:Nat}{ty ity:TypeId}{lt:LT}{L:List (List lt.ty)}{ov:List (Nat×SV)}(hs:σ x=some (.fam ty ity lt L ov))(ha:a<L.length)(hn:n=(L.getD a []).length)(ho:ov.lookup a=none):
  dL (d+1) σ.a (.own (inn x (a+1)) 0 n)=some (.sl (L.getD a []).length (lt.enc (L.getD a []))):=by
 unfold dL;rw[D3 hs ha ho];simp only[qD,sH,eI,Cl];rw[gu (by rw[lt.wide.length,hn];omega),hn]
def Lu{d:Nat}{g:Nat->Option Ob}{f:Nat->AV}{h:Nat->PV}:∀(l:List Nat),(∀i∈l,dL d g (f i)=some (h i))->di (dL d g) (l.map f)=some (l.map h)
 |[],_=>rfl
 |i::l,H=>by
  rw[cT,di,H i (by grind),Lu l λj hj=>H j (cB _ hj)];rfl
def D8{α β:Type}(f:α->β):∀l:List α,(l.flatMap λr=>[f r])=l.map f
 |[] =>rfl
 |a::l=>by rw[fX,cT,D8 f l];rfl
def LP{σ:Sg}{x n d:Nat}{ty ity:TypeId}{lt:LT}{L:List (List lt.ty)}(hs:σ x=some (.fam ty ity lt L []))(hn:n=L.length):
  dL (d+2) σ.a (.own (aM x) 0 n)=some (.sl n (L.flatMap λr=>[PV.sl r.length (lt.enc r)])):=by
 have e1:Sg.a σ (aM x)=some ⟨ty,1,(bP L.length).map (iX x L [])⟩:=by rw[Sg.cH,hs];rfl
 have e2:di (dL (d+1) σ.a) ((bP L.length).map (iX x L []))=some ((bP L.length).map λi=>PV.sl (L.getD i []).length (lt.enc (L.getD i []))):=
  Lu _ λi hi=>JJ (ov:=[]) hs (by grind) rfl rfl
 have e3:((bP L.length).map λi=>PV.sl (L.getD i []).length (lt.enc (L.getD i [])))=L.flatMap λr=>[PV.sl r.length (lt.enc r)] :=by
  rw[D8 (λr:List lt.ty=>PV.sl r.length (lt.enc r))];refine rH (by simp) λi h1 h2=> ?_;have h3:i<L.length:=by simpa using h2
  rw[iZ,iZ,List.getElem_range,de,eZ h3];rfl
 unfold dL;rw[e1];simp only[qD,e2,e3,eI,Cl];rw[gu];grind
def XE{σ:Sg}{d x n:Nat}{ps:List Prop}{y:SV}(h:Ba d σ x n=some (ps,y))(hp:∀p∈ps,p):∃q,dL (d+1) σ.a (SV.owF x n).av=some q/\y.av= .p q:=by
 unfold Ba at h;split at h
 .rename_i d ty ity L hs;cases h;have hn:n=L.length:=hp _ (by grind);exact⟨_,LP hs hn,by rw[hn];rfl⟩
 .rename_i d ty ity L hs;cases h;have hn:n=L.length:=hp _ (by grind);exact⟨_,LP hs hn,by rw[hn];rfl⟩
 .cases h
def EU{σ:Sg}:∀{d:Nat} {x:SV} {ps:List Prop} {y:SV},kH d σ x=some (ps,y)->(∀p∈ps,p)->∃q,dL d σ.a x.av=some q/\y.av= .p q:=by
 intro d;induction d with
 |zero=>
  intro x ps y h hp;cases x<;>first
   |(change some ([],SV.sl 0 [])=some (ps,y)at h;cases h;exact⟨.sl 0 [],rfl,rfl⟩)
   |exact JI h
 |succ d ih=>
  intro x ps y h hp;have ihl:= @xP d σ (kH d σ) (by grind);cases x with
  |nil=>cases h;exact⟨.sl 0 [],rfl,rfl⟩
  |own s t n=>
   change (match σ s with|some (.row _ lt l)=>some ([n=l.length],SV.lst lt l)|_=>none)=_ at h;split at h<;>cases h;rename_i ty lt l hs;have hn:n=l.length:=hp _ (by grind);refine⟨_,?_,rfl⟩;show dL (d+1) (Sg.a σ) (.own (aM s) 0 n)=_;unfold dL;have:Sg.a σ (aM s)=some ⟨ty,lt.w,(lt.enc l).map .p⟩:=by rw[Sg.cH,hs];rfl
   rw[this];simp only[qD,sH,eI,Cl];rw[gu (by rw[lt.wide.length,hn];omega),hn]
  |owns s lt2 o n=>
   change (match σ s with|some (.row _ lt l)=>(match bB lt2.w lt.w with|true=>some ([o+n<=l.length],SV.lst lt ((l.drop o).take n))|false=>none)|_=>none)=_ at h;split at h
   case h_2=>cases h
   rename_i ty lt l hs;split at h<;>cases h;rename_i hw;have hw:=dM hw;have hn:o+n<=l.length:=hp _ (by grind);refine⟨_,?_,rfl⟩;show dL (d+1) (Sg.a σ) (.own (aM s) (o*lt2.w) n)=_;unfold dL;have:Sg.a σ (aM s)=some ⟨ty,lt.w,(lt.enc l).map .p⟩:=by rw[Sg.cH,hs];rfl
   rw[this];simp only[qD,sH,eI];rw[hw,lt.wide.drop,lt.wide.take];grind
  |ownx s n=>
   change (match σ s with|some (.arr _ ez cs)=>(match bB cs.length (n*ez),jv (kH d σ) cs with|true,some (ps,m)=>some (ps,SV.sl n m)|_,_=>none)|_=>none)=_ at h;split at h
   case h_2=>cases h
   rename_i ty ez cs hs;split at h<;>cases h;rename_i m hl hm;obtain⟨q,e1,e2⟩:=ihl hm hp;refine⟨.sl n q,?_,by show(match bG (avs m)with|some q=>AV.p (.sl n q)|none=> .any)=_;rw[e2,dR]⟩;show dL (d+1) (Sg.a σ) (.own (aM s) 0 n)=_;unfold dL;have:Sg.a σ (aM s)=some ⟨ty,ez,avs cs⟩:=by rw[Sg.cH,hs];rfl
   rw[this];simp only[qD,e1,eI,Cl];rw[gu (by rw[<-(nW e1).1,jJ,dM hl];omega)]
  |ptr s off=>
   change (match σ s with|some (.box _ cs)=>(match jv (kH d σ) cs with|some (ps,m)=>some (ps,SV.pro m off)|none=>none)|_=>none)=_ at h;split at h
   case h_2=>cases h
   rename_i ty cs hs;split at h<;>cases h;rename_i m hm;obtain⟨q,e1,e2⟩:=ihl hm hp;refine⟨.pro q off,?_,by show(match bG (avs m)with|some q=>AV.p (.pro q off)|none=> .any)=_;rw[e2,dR]⟩;show dL (d+1) (Sg.a σ) (.ptr (aM s) off)=_;unfold dL;have:Sg.a σ (aM s)=some ⟨ty,0,avs cs⟩:=by rw[Sg.cH,hs];rfl
   grind
  |ownf x t a n=>
   change (match σ x with|some (.fam _ _ lt L ov)=>some ((a<L.length)::(n=(L.getD a []).length)::mC ov a,SV.lst lt (L.getD a []))|_=>none)=_ at h;split at h<;>cases h;rename_i ty ity lt L ov hs;have ha:a<L.length:=hp _ (by grind);have hn:n=(L.getD a []).length:=hp _ (by grind);have ho:ov.lookup a=none:=rb (by grind);exact⟨_,JJ hs ha hn ho,rfl⟩
  |owF x n=>exact XE (show Ba d σ x n=_ from h) hp
  |agg l=>
   change (match jv (kH d σ) l with|some (ps,m)=>some (ps,SV.agg m)|none=>none)=_ at h;split at h<;>cases h;rename_i m hm;obtain⟨q,e1,e2⟩:=ihl hm hp;refine⟨.agg q,?_,by show eK (avs m)=_;rw[e2,rW]⟩;show dL (d+1) (Sg.a σ) (eK (avs l))=_;unfold eK;cases hq:bG (avs l)with
   |some q'=>
    rw[il hq,sH]at e1;cases e1;exact GB _ _ _
   |none=>unfold dL;rw[e1];rfl
  |fn f a b=>
   change (match jv (kH d σ) a,jv (kH d σ) b with|some (p,x),some (q,y)=>some (p++q,SV.fnp f x y)|_,_=>none)=_ at h;split at h<;>cases h;rename_i p x q y h1 h2;obtain⟨u,e1,e2⟩:=ihl h1 (λr hr=>hp r (by grind));obtain⟨v,e3,e4⟩:=ihl h2 (λr hr=>hp r (by grind));refine⟨.fn (.func f) u v,?_,by show(match bG (avs x),bG (avs y)with|some x,some y=>AV.p (.fn (.func f) x y)|_,_=> .any)=_;rw[e2,e4,dR,dR]⟩;show dL (d+1) (Sg.a σ) (.fn (.func f) (avs a) (avs b))=_;unfold dL;grind
  |_=>exact JI h
def dP:Nat->Sg->SV->List Nat
 |0,_,_=>[]
 |d+1,σ,x=>
  let O:Nat->List Nat:=λs=>match σ s with
   |some (.box _ cs)=>bK (dP d σ) cs
   |some (.arr _ _ cs)=>bK (dP d σ) cs
   |some (.fam _ _ _ _ ov)=>bK (λq:Nat×SV=>dP d σ q.2) ov
   |_=>[]
  match x with
  | .own s _ _=>s::O s
  | .owns s _ _ _=>s::O s
  | .ownx s _=>s::O s
  | .ptr s _=>s::O s
  | .pte s _ _ _=>s::O s
  | .ptf s _=>s::O s
  | .owF s _=>s::O s
  | .ownf s _ _ _=>[s]
  | .ptef s _ _ _ _=>[s]
  | .agg l=>bK (dP d σ) l
  | .fn _ a b=>bK (dP d σ) a++bK (dP d σ) b
  |_=>[]
def lD:Nat->Sg->SV->Bool
 |0,_,_=>true
 |d+1,σ,x=>
  let O:Nat->Bool:=λs=>match σ s with
   |some (.box _ cs)=>cs.all (lD d σ)
   |some (.arr _ _ cs)=>cs.all (lD d σ)
   |some (.fam ..)=>false
   |_=>true
  match x with
  | .own s _ _=>O s
  | .owns s _ _ _=>O s
  | .ownx s _=>O s
  | .ptr s _=>O s
  | .pte s _ _ _=>O s
  | .ptf s _=>O s
  | .owF s _=>O s
  | .ownf .. =>false
  | .ptef .. =>false
  | .agg l=>l.all (lD d σ)
  | .fn _ a b=>a.all (lD d σ)&&b.all (lD d σ)
  |_=>true
def qI{d:Nat}{g:Nat->Option Ob}{y:AV}(h:(∃q,y= .p q)\/y= .any\/(∃l,y= .tup l)):cJ (d+1) g y=[] :=by rcases h with⟨q,rfl⟩|rfl|⟨l,rfl⟩<;>rfl
def qW(x:SV):(match x with| .tup _| .sl .. | .pro .. | .fnp .. =>True|_=>False)->(∃q,x.av= .p q)\/x.av= .any\/(∃l,x.av= .tup l):=by
 intro h;cases x<;>first|exact h.elim|skip
 .show(∃q,jr _= .p q)\/jr _= .any\/∃m,jr _= .tup m;unfold jr;grind
 all_goals
  simp only[SV.av];split
  .exact .inl ⟨_,rfl⟩
  .exact .inr (.inl rfl)
def Ll{d:Nat}{g:Nat->Option Ob}(l:List SV):cJ (d+1) g (eK (avs l))=bK (cJ d g) (avs l):=by
 unfold eK;cases hq:bG (avs l)with
 |none=>rfl
 |some q=>rw[il hq,pJ];rfl
def Nw{A B Ac Bc:List Nat}(h1:inC A Ac)(h2:inC B Bc):inC (A++B) (Ac++Bc):=λs hs=>by
 rcases bq.1 hs with h|h
 .exact gZ _ (h1 s h)
 .exact fY _ (h2 s h)
def qT{d:Nat}{σ:Sg}(ih:∀x:SV,inC (cJ d σ.a x.av) ((dP d σ x).map ncl)):∀l:List SV,inC (bK (cJ d σ.a) (avs l)) ((bK (dP d σ) l).map ncl)
 |[] =>λs hs=>(cl hs).elim
 |x::l=>by rw[avs,bK,bK,dQ];exact Nw (ih x) (qT ih l)
def XU{σ:Sg}{d:Nat}(ih:∀x:SV,inC (cJ d σ.a x.av) ((dP d σ x).map ncl)):∀s:Nat,inC (aM s::(match σ.a (aM s)with|some ob=>bK (cJ d σ.a) ob.cells|none=>[])) ((s::(match σ s with|some (.box _ cs)=>bK (dP d σ) cs|some (.arr _ _ cs)=>bK (dP d σ) cs|some (.fam _ _ _ _ ov)=>bK (λq:Nat×SV=>dP d σ q.2) ov|_=>[])).map ncl):=by
 intro s t ht;rw[Sg.cH]at ht;rcases bO.1 ht with rfl|ht
 .rw[show cls (aM s)=ncl s from fG s 0];grind
 cases hs:σ s with
 |none=>grind
 |some ob=>
  rw[hs]at ht;cases ob with
  |box ty cs=>exact cB _ (qT ih cs t ht)
  |row ty lt l=>
   have ht:t∈bK (cJ d σ.a) ((lt.enc l).map .p):=ht;rw[pJ]at ht;grind
  |arr ty ez cs=>exact cB _ (qT ih cs t ht)
  |mp ks=>
   have ht:t∈bK (cJ d σ.a) (ft (gI ks)):=ht;rw[re,pJ]at ht;grind
  |fam ty ity lt L ov=>
   have ht:t∈bK (cJ d σ.a) ((bP L.length).map (iX s L ov)):=ht;have:∀l:List Nat,t∈bK (cJ d σ.a) (l.map (iX s L ov))->cls t∈ncl s::((bK (λq:Nat×SV=>dP d σ q.2) ov).map ncl):=λl=>by
    induction l with
    |nil=>intro h;exact(cl h).elim
    |cons i l ihl=>
     intro h;rcases bq.1 h with h|h
     .unfold iX at h;split at h
      .rename_i v hv;obtain⟨y,hy,e⟩:=bM.1 (ih v t h);refine cB _ (bM.2 ⟨y,nO (x:=(i,v)) ?_ hy,e⟩);have key:∀ov:List (Nat×SV),ov.lookup i=some v->(i,v)∈ov:=λov hv=>by
        induction ov with
        |nil=>cases hv
        |cons q ov ihv=>
         grind
       grind
      .cases d with
       |zero=>exact(cl h).elim
       |succ d=>
        rcases bO.1 h with rfl|h
        .rw[fG];grind
        .rw[Sg.fQ,hs]at h;have h:t∈(match(match ov.lookup i with|some _=>none|none=>(L[i]?).map λl=>(⟨ity,lt.w,(lt.enc l).map .p⟩:Ob))with|some ob=>bK (cJ d σ.a) ob.cells|none=>[]):=h;split at h
         .rename_i ob hob;split at hob
          .cases hob
          .cases hL:L[i]? with
           |none=>grind
           |some l=>rw[hL]at hob;cases hob;rw[pJ]at h;grind
         grind
     grind
   grind
def UT{σ:Sg}{d:Nat}:∀s a:Nat,inC (inn s (a+1)::(match σ.a (inn s (a+1))with|some ob=>bK (cJ d σ.a) ob.cells|none=>[])) ([s].map ncl):=by
 intro s a t ht;rcases bO.1 ht with rfl|ht
 .rw[fG];grind
 .rw[Sg.fQ]at ht;cases hs:σ s with
  |none=>grind
  |some ob=>
   rw[hs]at ht;cases ob with
   |fam ty ity lt L ov=>
    have ht:t∈(match(match ov.lookup a with|some _=>none|none=>(L[a]?).map λl=>(⟨ity,lt.w,(lt.enc l).map .p⟩:Ob))with|some ob=>bK (cJ d σ.a) ob.cells|none=>[]):=ht;split at ht
    .rename_i ob hob;split at hob
     .cases hob
     .cases hL:L[a]? with
      |none=>grind
      |some l=>rw[hL]at hob;cases hob;rw[pJ]at ht;grind
    grind
   |_=>exact(cl ht).elim
def NN{σ:Sg}:∀(d:Nat) (x:SV),inC (cJ d σ.a x.av) ((dP d σ x).map ncl):=by
 intro d;induction d with
 |zero=>intro x s hs;exact(cl hs).elim
 |succ d ih=>
  intro x;have obs:=XU ih;have inner:=UT (σ:=σ) (d:=d);have non:∀{y:SV} {l:List Nat},cJ (d+1) σ.a y.av=[]->inC (cJ (d+1) σ.a y.av) l:=λh=>by rw[h];exact λs hs=>by grind
  cases x with
  |own s t n=>exact obs s
  |owns s t o n=>exact obs s
  |ownx s n=>exact obs s
  |ptr s off=>exact obs s
  |pte s t i off=>exact obs s
  |ptf s a=>exact obs s
  |owF s n=>exact obs s
  |ownf s t a n=>exact inner s a
  |ptef s t a i off=>exact inner s a
  |agg l=>
   show inC (cJ (d+1) σ.a (eK (avs l))) _;rw[Ll];exact qT ih l
  |fn f a b=>
   show inC (bK (cJ d σ.a) (avs a)++bK (cJ d σ.a) (avs b)) ((bK (dP d σ) a++bK (dP d σ) b).map ncl);rw[dQ];exact Nw (qT ih a) (qT ih b)
  |tup l=>exact non (qI (qW _ trivial))
  |sl n cs=>exact non (qI (qW _ trivial))
  |pro cs off=>exact non (qI (qW _ trivial))
  |fnp f a b=>exact non (qI (qW _ trivial))
  |_=>exact non rfl
def rh{d:Nat}{σ:Sg}(ih:∀x:SV,lD d σ x=true->cJ d σ.a x.av=(dP d σ x).map aM/\∀y∈dP d σ x,pk (σ y)=true):∀l:List SV,l.all (lD d σ)=true->bK (cJ d σ.a) (avs l)=(bK (dP d σ) l).map aM/\∀y∈bK (dP d σ) l,pk (σ y)=true
 |[],_=>⟨rfl,λy hy=>(cl hy).elim⟩
 |x::l,h=>by
  rw[List.all_cons,bm]at h;obtain⟨a1,a2⟩:=ih x h.1;obtain⟨b1,b2⟩:=rh ih l h.2;rw[avs,bK,bK,dQ,a1,b1];grind
def Vl{σ:Sg}:∀(d:Nat) (x:SV),lD d σ x=true->cJ d σ.a x.av=(dP d σ x).map aM/\∀y∈dP d σ x,pk (σ y)=true:=by
 intro d;induction d with
 |zero=>intro x _;exact⟨rfl,λy hy=>(cl hy).elim⟩
 |succ d ih=>
  intro x hx;have obs:∀s:Nat,(match σ s with|some (.box _ cs)=>cs.all (lD d σ)|some (.arr _ _ cs)=>cs.all (lD d σ)|some (.fam ..)=>false|_=>true)=true->
    (aM s::(match σ.a (aM s)with|some ob=>bK (cJ d σ.a) ob.cells|none=>[]))=(s::(match σ s with|some (.box _ cs)=>bK (dP d σ) cs|some (.arr _ _ cs)=>bK (dP d σ) cs|some (.fam _ _ _ _ ov)=>bK (λq:Nat×SV=>dP d σ q.2) ov|_=>[])).map aM/\
    ∀y∈(s::(match σ s with|some (.box _ cs)=>bK (dP d σ) cs|some (.arr _ _ cs)=>bK (dP d σ) cs|some (.fam _ _ _ _ ov)=>bK (λq:Nat×SV=>dP d σ q.2) ov|_=>[])),pk (σ y)=true:=by
   intro s h;rw[Sg.cH,cT];cases hs:σ s with
   |none=>exact⟨rfl,λy hy=>by rw[bh.1 hy,hs];rfl⟩
   |some ob=>
    rw[hs]at h;cases ob with
    |box ty cs=>
     obtain⟨a1,a2⟩:=rh ih cs h;refine⟨congrArg (aM s:: ·) a1,λy hy=> ?_⟩;rcases bO.1 hy with rfl|hy
     .rw[hs];rfl
     grind
    |row ty lt l=>exact⟨congrArg (aM s:: ·) (pJ _ _ _),λy hy=>by rw[bh.1 hy,hs];rfl⟩
    |arr ty ez cs=>
     obtain⟨a1,a2⟩:=rh ih cs h;refine⟨congrArg (aM s:: ·) a1,λy hy=> ?_⟩;rcases bO.1 hy with rfl|hy
     .rw[hs];rfl
     grind
    |mp ks=>
     refine⟨congrArg (aM s:: ·) ?_,λy hy=>by rw[bh.1 hy,hs];rfl⟩;show bK (cJ d σ.a) (ft (gI ks))=_;rw[re];exact pJ _ _ _
    |fam=>cases h
  have non:∀{y:SV},cJ (d+1) σ.a y.av=[]->dP (d+1) σ y=[]->cJ (d+1) σ.a y.av=(dP (d+1) σ y).map aM/\∀z∈dP (d+1) σ y,pk (σ z)=true:=by grind
  cases x with
  |own s t n=>exact obs s hx
  |owns s t o n=>exact obs s hx
  |ownx s n=>exact obs s hx
  |ptr s off=>exact obs s hx
  |pte s t i off=>exact obs s hx
  |ptf s a=>exact obs s hx
  |owF s n=>exact obs s hx
  |ownf s t a n=>cases hx
  |ptef s t a i off=>cases hx
  |agg l=>
   show cJ (d+1) σ.a (eK (avs l))=_/\_;rw[Ll];exact rh ih l hx
  |fn f a b=>
   have hx:(a.all (lD d σ)&&b.all (lD d σ))=true:=hx;rw[bm]at hx;obtain⟨a1,a2⟩:=rh ih a hx.1;obtain⟨b1,b2⟩:=rh ih b hx.2;show bK (cJ d σ.a) (avs a)++bK (cJ d σ.a) (avs b)=(bK (dP d σ) a++bK (dP d σ) b).map aM/\∀y∈bK (dP d σ) a++bK (dP d σ) b,_;grind
  |tup l=>exact non (qI (qW _ trivial)) rfl
  |sl n cs=>exact non (qI (qW _ trivial)) rfl
  |pro cs off=>exact non (qI (qW _ trivial)) rfl
  |fnp f a b=>exact non (qI (qW _ trivial)) rfl
  |_=>exact non rfl rfl
inductive RK(X:Type) where
 |val (fr:Bool) (res:X->SV)
 |own (ty:TypeId) (t:LT) (l:X->List t.ty) (ys:X->List SV)
 |ownN (ty:TypeId) (t:LT) (l:X->List t.ty)
 |mutR (t:LT) (ty:TypeId) (l':X->List t.ty)
 |mutB (ty:TypeId) (cells':X->List SV)
 |tree (res:X->SV) (obs:X->aP)
 |rowB (t:LT) (ty:TypeId) (l':X->List t.ty)
structure Con where
 X:Type
 dec:List SV->Option X
 pre:X->List Prop
 rk:RK X
def aBr(P:Program)(f:Nat){X:Type}(dec:List SV->Option X)(pre:X->List Prop):RK X->Prop
 | .val fr res=>∀xs x,dec xs=some x->(∀p∈pre x,p)->∃A r,avs xs=A.map .p/\(res x).av= .p r/\Sat P fr f A r
 | .own ty t l ys=>∀xs x,dec xs=some x->(∀p∈pre x,p)->∃A Y,avs xs=A.map .p/\avs (ys x)=Y.map .p/\vF P f A ty t.w (t.enc (l x)) (l x).length Y
 | .ownN ty t l=>∀xs x,dec xs=some x->(∀p∈pre x,p)->∃A,avs xs= .nil::A.map .p/\Hk P f A ty t.w (t.enc (l x)) (l x).length []
 | .mutR t ty l'=>∀l rest x,dec (.lst t l::rest)=some x->(∀p∈pre x,p)->∃A,avs rest=A.map .p/\mF P f (some l.length) A ty t.w (t.enc l) (t.enc (l' x))
 | .mutB ty cells'=>∀cs rest x,dec (.agg cs::rest)=some x->(∀p∈pre x,p)->∃A q q',avs rest=A.map .p/\avs cs=q.map .p/\avs (cells' x)=q'.map .p/\mF P f none A ty 0 q q'
 | .tree res obs=>∀xs x,dec xs=some x->(∀p∈pre x,p)->∃A,avs xs=A.map .p/\Hj P f A (res x).av (Sg.a (aP.at (obs x)))
 | .rowB t ty l'=>∀l rest x,dec (.lst t l::rest)=some x->(∀p∈pre x,p)->∃A,avs rest=A.map .p/\Hl P f l.length A ty t.w (t.enc l) (t.enc (l' x)) (l' x).length
def Con.Ok(P:Program)(f:Nat)(c:Con):Prop:=aBr P f c.dec c.pre c.rk
abbrev Tab:=Nat->Option Con
def Tab.Ok(P:Program)(T:Tab):Prop:=∀f c,T f=some c->c.Ok P f
def LT.argP:(t:LT)->t.ty->PV
 | .V=>λv=> .agg [.int .i64 v.x,.int .i64 v.y]
 | .S=>λs=> .agg [.int .i64 s.a.x,.int .i64 s.a.y,.int .i64 s.b.x,.int .i64 s.b.y]
 | .R=>λr=> .sl r.length (fU r)
 | .I=>λn=> .int .i64 n
 | .B=>λb=> .bool b
 | .P=>λp=> .agg [.int .i64 p.1,.int .i64 p.2]
 | .Q=>λr=> .sl r.length (CK r)
def LT.one:LT->Bool
 | .V=>false
 | .S=>false
 | .P=>false
 |_=>true
def yL(t:LT)(v:SV):Option t.ty:=match t.one with
 |true=>t.dec [v]
 |false=>(match v with| .agg l=>t.dec l|_=>none)
def Ft{t:LT}{v:SV}{x:t.ty}(h:yL t v=some x):v.av= .p (t.argP x):=by
 have agg:∀l:List SV,v= .agg l->t.dec l=some x->v.av= .p (.agg (t.rowP x)):=by intro l e hd;subst e;show eK (avs l)=_;rw[LT.xt hd,rW]
 have one:t.dec [v] =some x->∀c,t.rowP x=[c]->v.av= .p c:=by intro hd c hc;have:=LT.xt hd;rw[hc]at this;simp only[avs,cT,j6,nK,and_true]at this;exact this
 unfold yL at h;cases t<;>simp only[LT.one]at h<;>first
  |exact one h _ rfl
  |(split at h<;>first|exact agg _ rfl h|cases h)
def aAU(P:Program)(pv:PV)(t:LT)(q:t.ty->Bool)(dom:t.ty->Prop):Prop:=∃f first caps,pv= .fn (.func f) first caps/\∀x,dom x->∃fr,Sat P fr f (first++[t.argP x] ++caps) (.bool (q x))
def aAT(P:Program)(pv:PV)(t:LT)(q:t.ty->t.ty->Int)(dom:t.ty->t.ty->Prop):Prop:=∃f first caps,pv= .fn (.func f) first caps/\∀x y,dom x y->∃fr,Sat P fr f (first++[t.argP x,t.argP y] ++caps) (.int .i64 (q x y))
def Gx(x:SV):Bool:=match x.av with
 | .p r=>r.flat
 |_=>false
def Bb(T:Tab)(n:Nat)(σ:Sg)(f:Nat)(xs:List SV):SR:=match T f with
 |none=>none
 |some ⟨_,dec,pre,rk⟩=>(match rk with
  | .val fr res=>(match jv (kH 3 σ) xs with
    |some (ps,bs)=>(match dec bs with
     |some x=>(match(res x).ape,bG (avs xs)with
      |false,some _=>some (ps++pre x,res x,[],[])
      |false,none=>(match fr,Gx (res x)with
       |false,false=>(match xs.all (lD 3 σ)with|true=>some (ps++pre x,res x,bK (dP 3 σ) xs,(bK (dP 3 σ) xs).map (·,none))|false=>none)
       |_,_=>some (ps++pre x,res x,bK (dP 3 σ) xs,[]))
      |_,_=>none)
     |none=>none)
    |none=>none)
  | .own ty t l ys=>(match bG (avs xs),dec xs,frs σ n with
    |some _,some x,true=>(match ys x with
     |[] =>some (pre x,.own n t (l x).length,[],[(n,some (.row ty t (l x)))])
     |y::r=>(match bB (y::r).length 0 with|_=>some (pre x,.tup (.own n t (l x).length::y::r),[],[(n,some (.row ty t (l x)))])))
    |_,_,_=>none)
  | .ownN ty t l=>(match xs with
    | .nil::rest=>(match bG (avs rest),dec (.nil::rest),frs σ n with
      |some _,some x,true=>some (pre x,.own n t (l x).length,[],[(n,some (.row ty t (l x)))])
      |_,_,_=>none)
    |_=>none)
  | .mutR t ty l'=>(match xs with
    | .own s _ m::rest=>(match σ s,bG (avs rest)with
      |some (.row ty' t' l),some _=>(match decEq t' t,bB ty' ty with
       | .isTrue h,true=>(match dec (.lst t (h▸l)::rest)with
         |some x=>some ((m=l.length)::pre x,.undef,[s],[(s,some (.row ty t (l' x)))])
         |none=>none)
       |_,_=>none)
      |_,_=>none)
    |_=>none)
  | .mutB ty cells'=>(match xs with
    | .ptr s 0::rest=>(match σ s,bG (avs rest)with
      |some (.box ty' cs),some _=>(match bB ty' ty,dec (.agg cs::rest)with
       |true,some x=>some (pre x,.undef,[s],[(s,some (.box ty (cells' x)))])
       |_,_=>none)
      |_,_=>none)
    |_=>none)
  | .tree .. =>none
  | .rowB .. =>none)
def Lb{P:Program}{T:Tab}(hT:T.Ok P){n:Nat}{σ:Sg}{f:Nat}{xs:List SV}{ps:List Prop}{r:SV}{rd:List Nat}{W:aP}(h:Bb T n σ f xs=some (ps,r,rd,W))(hp:∀p∈ps,p):
  (pT P σ.a f (avs xs) (λr' R' W'=>r'=r.av/\bX σ rd W R' W')\/Ag P n f (avs xs) (λr' R' W'=>r'=r.av/\bX σ rd W R' W'))/\r.ok:=by
 unfold Bb at h;split at h
 .cases h
 rename_i X dec pre rk hTf;have hc:=hT f _ hTf;unfold Con.Ok at hc;split at h
 .rename_i fr res;split at h
  case h_2=>cases h
  rename_i qs bs hb;split at h
  case h_2=>cases h
  rename_i x hx;have fin:(∀p∈qs++pre x,p)->∃A r,di (dL 3 σ.a) (avs xs)=some A/\(res x).av= .p r/\Sat P fr f A r:=by
   intro hp;obtain⟨A,r,h1,h2,h3⟩:=hc bs x hx (λp h=>hp p (by grind));obtain⟨q,h4,h5⟩:=xP (λx ps y=>EU) hb (λp h=>hp p (by grind));rw[h1]at h5;have:A=q:=by have:=congrArg bG h5;rw[dR,dR]at this;cases this;rfl
   subst this;grind
  have hR:bX σ (bK (dP 3 σ) xs) [] (bK (cJ 3 σ.a) (avs xs)) [] :=⟨qT (NN 3) xs,λs hs=>by grind,rfl⟩;split at h
  .rename_i A' hape hA';cases h;obtain⟨A,r,h1,h2,h3⟩:=fin hp;refine⟨.inl ?_,SV.mr hape⟩;rw[h2];rw[il hA',sH]at h1;cases h1;exact DE h3 hA' ⟨rfl,bX.read σ []⟩
  .rename_i hape hA';cases hfr:fr with
   |true=>
    rw[hfr]at h;cases h;obtain⟨A,r,h1,h2,h3⟩:=fin hp;refine⟨.inl ?_,SV.mr hape⟩;rw[h2];rw[hfr]at h3;exact Im h3 h1 rfl ⟨rfl,hR⟩
   |false=>
    cases hfl:Gx (res x)with
    |true=>
     rw[hfr,hfl]at h;cases h;obtain⟨A,r,h1,h2,h3⟩:=fin hp;refine⟨.inl ?_,SV.mr hape⟩;unfold Gx at hfl;rw[h2]at hfl|-;exact Im (h3.fresh hfl) h1 rfl ⟨rfl,hR⟩
    |false=>
     rw[hfr,hfl]at h;dsimp only at h;split at h<;>cases h;rename_i hall;obtain⟨A,r,h1,h2,h3⟩:=fin hp;refine⟨.inl ?_,SV.mr hape⟩;rw[h2];obtain⟨e1,e2⟩:=rh (Vl 3) xs hall;refine Tt h3 h1 e1 ⟨rfl,?_⟩;have e3:((bK (dP 3 σ) xs).map aM).map (·,(none:Option Ob))=aP.sto ((bK (dP 3 σ) xs).map (·,none)):=by unfold aP.sto;rw[cv,cv];rfl
     rw[e3];exact bX.flat λq hq=>by obtain⟨y,hy,rfl⟩:=bM.1 hq;exact⟨e2 y hy,rfl⟩
  .cases h
 .rename_i ty t l ys;split at h
  case h_2=>cases h
  rename_i A' x hA' hx hfr;obtain⟨f1,f2⟩:=ls hfr;have fin:(∀p∈pre x,p)->∃Y,avs (ys x)=Y.map .p/\vF P f A' ty t.w (t.enc (l x)) (l x).length Y:=by intro hp;obtain⟨A,Y,h1,h2,h3⟩:=hc xs x hx hp;rw[h1,dR]at hA';cases hA';exact⟨Y,h2,h3⟩
  split at h
  .rename_i hy;cases h;obtain⟨Y,h1,h2⟩:=fin hp;rw[hy]at h1;have hY:Y=[] :=by have:=congrArg fW h1;simp[avs]at this;grind
   subst hY;exact⟨.inr ⟨A',ty,t.w,t.enc (l x),(l x).length,[],by grind,by show _=AV.own (aM n) 0 _;rw[f1];rfl,bX.new (ob:= .row ty t (l x)) f2 f1 rfl⟩,trivial⟩
  .rename_i y r' hy;cases h;obtain⟨Y,h1,h2⟩:=fin hp;rw[hy]at h1;refine⟨.inr ⟨A',ty,t.w,t.enc (l x),(l x).length,Y,by grind,?_,bX.new (ob:= .row ty t (l x)) f2 f1 rfl⟩,trivial⟩;show B5 n (l x).length Y=jr (avs (.own n t (l x).length::y::r'));cases Y with
   |nil=>simp[avs]at h1
   |cons y0 Y=>
    rw[avs,h1];unfold B5 jr;rw[<-f1];rfl
 .rename_i ty t l;split at h
  case h_2=>cases h
  rename_i rest;split at h<;>cases h;rename_i A' x hA' hx hfr;obtain⟨f1,f2⟩:=ls hfr;obtain⟨A,h1,h2⟩:=hc _ x hx hp;have hA2:A'=A:=by have h1:AV.nil::avs rest= .nil::A.map .p:=h1;rw[nK]at h1;rw[h1.2,dR]at hA';cases hA';rfl
  subst hA2;exact⟨.inr ⟨A',ty,t.w,t.enc (l x),(l x).length,[],.inr ⟨avs rest,rfl,hA',h2⟩,by show _=AV.own (aM n) 0 _;rw[f1];rfl,bX.new (ob:= .row ty t (l x)) f2 f1 rfl⟩,trivial⟩
 .rename_i t ty l';split at h
  case h_2=>cases h
  rename_i s t2 m rest;split at h
  case h_2=>cases h
  rename_i ty' t' l A' hs hA';split at h
  case h_2=>cases h
  rename_i he _ hty;subst he;split at h<;>cases h;rename_i x hx;have hm:m=l.length:=hp _ (by simp);obtain⟨A,h1,h2⟩:=hc l rest x hx (by grind);have hty:=dM hty;refine⟨.inl (.inr ?_),trivial⟩;refine⟨ty,t'.w,t'.enc l,by rw[Sg.cH,hs,hty];rfl,nL t'.kF,A,t'.enc (l' x),by rw[h1,dR],by grind,rfl,?_⟩;exact bX.flat (rd:=[s]) (W:=[(s,some (.row ty t' (l' x)))]) λq hq=>by rw[bh.1 hq,hs];exact⟨rfl,rfl⟩
 .rename_i ty cells';split at h
  case h_2=>cases h
  rename_i s rest;split at h
  case h_2=>cases h
  rename_i ty' cs A' hs hA';split at h<;>cases h;rename_i x hty hx;obtain⟨A,q,q',h1,h2,h3,h4⟩:=hc cs rest x hx hp;have hty:=dM hty;refine⟨.inl (.inr ?_),trivial⟩;refine⟨ty,q,by rw[Sg.cH,hs,hty];show some (⟨ty,0,avs cs⟩:Ob)=_;rw[h2],A,q',by rw[h1,dR],h4,rfl,?_⟩;rw[<-h3];exact bX.flat (rd:=[s]) (W:=[(s,some (.box ty (cells' x)))]) λq hq=>by rw[bh.1 hq,hs];exact⟨rfl,rfl⟩
 .cases h
 .cases h
def FM(P:Program)(T:Tab)(n:Nat)(σ:Sg)(fv:SV)(xs:List SV):SR:=match fv with
 | .fn g a b=>Bb T n σ g (a++xs++b)
 | .fnp g a b=>(match bG (avs a),bG (avs b)with|some _,some _=>Bb T n σ g (a++xs++b)|_,_=>none)
 | .clo1 pv t q dom=>(match xs with
   |[v] =>(match yL t v with|some x=>some ([dom x/\aAU P pv t q dom],.bool (q x),[],[])|none=>none)
   |_=>none)
 | .clo2 pv t q dom=>(match xs with
   |[v,u] =>(match yL t v,yL t u with|some x,some y=>some ([dom x y/\aAT P pv t q dom],.int .i64 (q x y),[],[])|_,_=>none)
   |_=>none)
 |_=>none
def UO{P:Program}{T:Tab}(hT:T.Ok P){n:Nat}{σ:Sg}{fv:SV}{xs:List SV}{ps:List Prop}{r:SV}{rd:List Nat}{W:aP}(h:FM P T n σ fv xs=some (ps,r,rd,W))(hp:∀p∈ps,p):
  (Bs P σ.a fv.av (avs xs) (λr' R' W'=>r'=r.av/\bX σ rd W R' W')\/Br P n fv.av (avs xs) (λr' R' W'=>r'=r.av/\bX σ rd W R' W'))/\r.ok:=by
 unfold FM at h;split at h
 .have:=Lb hT h hp;rw[rZ,rZ]at this;exact this
 .rename_i g a b;split at h
  case h_2=>cases h
  rename_i x y h1 h2;have:=Lb hT h hp;rw[rZ,rZ,il h1,il h2]at this;have e:(SV.fnp g a b).av= .p (.fn (.func g) x y):=by simp only[SV.av,h1,h2]
  rw[e];exact this
 .rename_i pv t q dom;split at h
  case h_2=>cases h
  rename_i v;split at h<;>cases h;rename_i x hx;obtain⟨h1,f,first,caps,rfl,h2⟩:=hp _ (bh.2 rfl);obtain⟨fr,h3⟩:=h2 x h1;refine⟨.inl ?_,trivial⟩;show pT P σ.a f (first.map .p++[v.av] ++caps.map .p) _;have e:first.map AV.p++[v.av] ++caps.map AV.p=(first++[t.argP x] ++caps).map .p:=by rw[Ft hx,dQ,dQ];rfl
  rw[e];exact DE h3 (dR _) ⟨rfl,bX.read σ []⟩
 .rename_i pv t q dom;split at h
  case h_2=>cases h
  rename_i v u;split at h<;>cases h;rename_i x y hx hy;obtain⟨h1,f,first,caps,rfl,h2⟩:=hp _ (bh.2 rfl);obtain⟨fr,h3⟩:=h2 x y h1;refine⟨.inl ?_,trivial⟩;show pT P σ.a f (first.map .p++[v.av,u.av] ++caps.map .p) _;have e:first.map AV.p++[v.av,u.av] ++caps.map AV.p=(first++[t.argP x,t.argP y] ++caps).map .p:=by rw[Ft hx,Ft hy,dQ,dQ];rfl
  rw[e];exact DE h3 (dR _) ⟨rfl,bX.read σ []⟩
 .cases h
structure Cx where
 P:Program
 T:Tab
 lt:TypeId->Option LT
 q:EqT
 mt:TypeId->Bool
 inl:Nat->Bool
def R4(P:Program)(t:TypeId):Prop:=∃k e,P.underlying t=some (.map k e)/\MKey P k 2/\∀w,(zeroValue e).run P w= .ok (.bool false) w
def Cx.Ok(X:Cx):Prop:=X.T.Ok X.P/\X.q.Ok X.P/\∀t,X.mt t=true->R4 X.P t
def rB:Option SV->SR
 |some r=>(match r.ape with|false=>some ([],r,[],[])|true=>none)
 |none=>none
def te{o:Option SV}{ps:List Prop}{r:SV}{rd:List Nat}{W:aP}(h:rB o=some (ps,r,rd,W)):o=some r/\r.ok/\ps=[]/\rd=[]/\W=[] :=by
 unfold rB at h;split at h
 .split at h<;>cases h;rename_i hh;exact⟨rfl,SV.mr hh,rfl,rfl,rfl⟩
 .cases h
def un:Option (List Prop×SV)->SR
 |some (ps,r)=>(match r.ape with|false=>some (ps,r,[],[])|true=>none)
 |none=>none
def zQ{o:Option (List Prop×SV)}{ps:List Prop}{r:SV}{rd:List Nat}{W:aP}(h:un o=some (ps,r,rd,W)):o=some (ps,r)/\r.ok/\rd=[]/\W=[] :=by
 unfold un at h;split at h
 .split at h<;>cases h;rename_i hh;exact⟨rfl,SV.mr hh,rfl,rfl⟩
 .cases h
def um:SR->SR
 |some (ps,r,rd,W)=>(match r.ape with|false=>some (ps,r,rd,W)|true=>none)
 |none=>none
def DR{o:SR}{ps:List Prop}{r:SV}{rd:List Nat}{W:aP}(h:um o=some (ps,r,rd,W)):o=some (ps,r,rd,W)/\r.ok:=by
 unfold um at h;split at h
 .split at h<;>cases h;rename_i hh;exact⟨rfl,SV.mr hh⟩
 .cases h
def RX(raw:Bool)(x:SV):SV:=match raw with
 |true=>(match x with| .nil=> .sl 0 [] |y=>y)
 |false=>x
def sop(X:Cx)(raw:Bool)(n:Nat)(o:Op)(E:SE)(σ:Sg):SR:=match o with
 | .move x=>some ([],E x,[],[])
 | .assign x=>some ([],RX raw (E x),[],[])
 | .pick c a b=>rB (Ge (E c) (E a) (E b))
 | .alloc t=>A8 X.P σ n t
 | .box t x=>Bz σ n t (E x)
 | .build t parts=>A7 X.P t (parts.toList.map λq=>(q.1,E q.2))
 | .buildSlice t len parts=>Ad X.P σ n t len (parts.toList.map λq=>(q.1,E q.2))
 | .load t x=>um (Gi X.P t (E x) σ)
 | .store t a x=>A3 X.P t (E a) (E x) σ
 | .nilCheck x=>(match CA (E x).av with|true=>some ([],E x,[],[])|false=>none)
 | .binOp op t x y _=>un (HG X.P X.q raw op t (E x) (E y))
 | .unOp op _ x=>un (sun raw op (E x))
 | .convert s d x=>un (Gl X.P raw s d (E x))
 | .makeFunc (.func f) first caps=>some ([],.fn f (first.toList.map E) (caps.toList.map E),[],[])
 | .slice t x lo hi none=>(match CF E lo,CF E hi with|some a,some b=>un (GA X.P t (E x) a b)|_,_=>none)
 | .fieldAddr t x f=>(match GE X.P t (E x) f with|some r=>some ([],r,[],[])|none=>none)
 | .field t x f=>rB (GD X.P t (E x) f)
 | .indexAddr t x i=>(match GC X.P t (E x) (E i)with|some (ps,r)=>some (ps,r,[],[])|none=>none)
 | .extract x i=>rB (Gj (E x) i)
 | .call {callee:= .value f,args, .. }=>FM X.P X.T n σ (E f) (args.toList.map E)
 | .call {callee:= .builtin .len,args:=⟨[x]⟩,argTypes:=⟨[t]⟩}=>rB (HF X.P t (E x))
 | .call {callee:= .builtin .append,args:=⟨[x,y]⟩,argTypes:=⟨[t,t']⟩}=>B0 X.P X.lt n t t' σ (E x) (E y)
 | .call {callee:= .builtin .min,args:=⟨[x,y]⟩, .. }=>rB (smm min (E x) (E y))
 | .call {callee:= .builtin .max,args:=⟨[x,y]⟩, .. }=>rB (smm max (E x) (E y))
 | .makeSlice t a b=>um (Gg X.P X.lt σ n t (E a) (E b))
 |_=>none
def Z7{X:Cx}(hX:X.Ok){raw:Bool}{n:Nat}{o:Oper}{E:SE}{σ:Sg}(hE:∀x,(E x).ok){ps:List Prop}{r:SV}{rd:List Nat}{W:aP}(h:sop X raw n o.op E σ=some (ps,r,rd,W))(hp:∀p∈ps,p):
  AOp X.P n o E.a σ.a (λr' R' W'=>r'=r.av/\bX σ rd W R' W')/\r.ok:=by
 obtain⟨hT,hq,_⟩:=hX;generalize ho:o.op=op at h;have A:∀{R:SR},qy X.P n o E σ R->R=some (ps,r,rd,W)->AOp X.P n o E.a σ.a (λr' R' W'=>r'=r.av/\bX σ rd W R' W'):=λhs e=>hs _ _ _ _ e hp;have avl:∀l:List Operand,avs (l.map E)=l.map E.a:=λl=>by rw[im,cv];rfl
 unfold sop at h;split at h
 .rename_i x;cases h;exact⟨by unfold AOp;rw[ho];exact⟨rfl,bX.read σ []⟩,hE x⟩
 .rename_i x;cases h;unfold RX;split
  .split
   .rename_i hx;exact⟨by unfold AOp;rw[ho];exact .inr ⟨by show(E x).av= .nil;rw[hx];rfl,rfl,bX.read σ []⟩,trivial⟩
   .exact⟨by unfold AOp;rw[ho];exact .inl ⟨rfl,bX.read σ []⟩,hE x⟩
  .exact⟨by unfold AOp;rw[ho];exact .inl ⟨rfl,bX.read σ []⟩,hE x⟩
 .obtain⟨h1,h2,rfl,rfl,rfl⟩:=te h;exact⟨by unfold AOp;rw[ho];exact W9 h1 ⟨rfl,bX.read σ []⟩,h2⟩
 .refine⟨A (Vc ho) h,?_⟩;unfold A8 at h;split at h<;>cases h;trivial
 .refine⟨A (Yp ho) h,?_⟩;unfold Bz at h;split at h<;>cases h;trivial
 .refine⟨A (VY ho) h,?_⟩;unfold A7 at h;split at h
  .split at h<;>cases h;trivial
  .cases h
 .refine⟨A (UP ho) h,?_⟩;unfold Ad at h;split at h
  .split at h
   .split at h<;>cases h;trivial
   .cases h
  .cases h
 .rename_i t x;obtain⟨h1,h2⟩:=DR h;exact⟨A (XH ho (hE x)) h1,h2⟩
 .refine⟨A (VK ho) h,?_⟩;unfold A3 at h;split at h
  .split at h
   .split at h
    .split at h
     .split at h<;>cases h;trivial
     .split at h<;>cases h;trivial
     .cases h
    .split at h
     .split at h<;>cases h;trivial
     .cases h
    .split at h<;>cases h;trivial
    .cases h
   .cases h
  .cases h
 .rename_i x;split at h<;>cases h;rename_i hn;exact⟨by unfold AOp;rw[ho];exact⟨hn,rfl,bX.read σ []⟩,hE x⟩
 .obtain⟨h1,h2,rfl,rfl⟩:=zQ h;exact⟨by unfold AOp;rw[ho];exact Yq hq h1 hp ⟨rfl,bX.read σ []⟩,h2⟩
 .obtain⟨h1,h2,rfl,rfl⟩:=zQ h;exact⟨by unfold AOp;rw[ho];exact Z5 h1 hp ⟨rfl,bX.read σ []⟩,h2⟩
 .obtain⟨h1,h2,rfl,rfl⟩:=zQ h;exact⟨by unfold AOp;rw[ho];exact XK h1 hp ⟨rfl,bX.read σ []⟩,h2⟩
 .cases h;refine⟨?_,trivial⟩;unfold AOp;rw[ho];refine⟨?_,bX.read σ []⟩;show _=AV.fn _ (avs _) (avs _);rw[avl,avl]
 .rename_i t x lo hi;split at h
  case h_2=>cases h
  rename_i a b ha hb;obtain⟨h1,h2,rfl,rfl⟩:=zQ h;refine⟨?_,h2⟩;unfold AOp;rw[ho];dsimp only;have key:∀(z:Option Operand) (c:Option Int) (d:Int),CF E z=some c->loA E.a z d=some (c.getD d):=by
   intro z c d hz;cases z with
   |none=>cases hz;rfl
   |some z=>
    unfold CF at hz;dsimp only at hz;split at hz<;>cases hz;rename_i k hk;exact ZQ hk
  rw[key lo a 0 ha,key hi b _ hb];exact VL h1 hp ⟨rfl,bX.read σ []⟩
 .rename_i t x f;split at h<;>cases h;rename_i h1;have:=VV h1 (K:=λr'=>r'=r.av/\bX σ [] [] [] []) ⟨rfl,bX.read σ []⟩;exact⟨by unfold AOp;rw[ho];exact this.1,this.2 (hE x)⟩
 .obtain⟨h1,h2,rfl,rfl,rfl⟩:=te h;exact⟨by unfold AOp;rw[ho];exact VU h1 ⟨rfl,bX.read σ []⟩,h2⟩
 .split at h<;>cases h;rename_i h1;have:=VQ h1 hp (K:=λr'=>r'=r.av/\bX σ [] [] [] []) ⟨rfl,bX.read σ []⟩;exact⟨by unfold AOp;rw[ho];exact this.1,this.2⟩
 .obtain⟨h1,h2,rfl,rfl,rfl⟩:=te h;exact⟨by unfold AOp;rw[ho];exact XI h1 ⟨rfl,bX.read σ []⟩,h2⟩
 .have:=UO hT h hp;rw[avl]at this;exact⟨by unfold AOp;rw[ho];exact this.1,this.2⟩
 .obtain⟨h1,h2,rfl,rfl,rfl⟩:=te h;exact⟨by unfold AOp;rw[ho];exact Ym h1 ⟨rfl,bX.read σ []⟩,h2⟩
 .have:=Yr h hp;refine⟨by unfold AOp;rw[ho];exact this,?_⟩;unfold B0 at h;split at h
  .unfold Bd at h;split at h
   .split at h<;>cases h;trivial
   .cases h
  .unfold Be at h;split at h
   .split at h
    .split at h<;>cases h;trivial
    .cases h
   .cases h
 .obtain⟨h1,h2,rfl,rfl,rfl⟩:=te h;exact⟨by unfold AOp;rw[ho];exact OY h1 ⟨rfl,bX.read σ []⟩,h2⟩
 .obtain⟨h1,h2,rfl,rfl,rfl⟩:=te h;exact⟨by unfold AOp;rw[ho];exact OY h1 ⟨rfl,bX.read σ []⟩,h2⟩
 .obtain⟨h1,h2⟩:=DR h;exact⟨A (XF ho) h1,h2⟩
 .cases h
end
section
variable {P:Program} {o:Oper} {E:Operand->AV} {σ:Nat->Option Ob} {n:Nat}
def Wg{c:Call}{f:Operand}{fid:FuncId}{A cells:List PV}{m ty esz:Nat}(ho:o.op= .call c)(hc:c.callee= .value f)(hfv:E f= .p (.fn (.func fid) [] []))
  (hA:di (dL 3 σ) (c.args.toList.map E)=some A) (hfl:cells.all flat1=true) (hS:vF P fid A ty esz cells m []):bR P o E σ n (.own (sit n 0) 0 m) (bK (cJ 3 σ) (c.args.toList.map E)) [(sit n 0,some ⟨ty,esz,cells.map .p⟩)] :=by
 have hfm:f∈o.op.operands.toList:=by rw[ho];simp[cU,jI,hc]
 have ham:∀x∈c.args.toList,x∈o.op.operands.toList:=by intro x hx;rw[ho];simp[cU,jI];exact .inr (by grind)
 obtain⟨hok,he,hcalls⟩:=hS;intro C0 ρ g V w B hs hB hR hn hgn hE;have hn:=hn _ (gm n 0);have hgn:=hgn _ (gm n 0);have hcl:∀s,cls s≠n->s≠sit n 0:=λs h e=>h (by rw[e];exact gm n 0);have hargs:∀l:List Operand,(∀x∈l,x∈o.op.operands.toList)->ak ρ (bE C0 B w ρ g) (l.map E) (l.map (bI V)):=by
  intro l;induction l with
  |nil=>intro _;simp only[j6];unfold ak;rfl
  |cons x l ih=>
   intro hx;simp only[cT];unfold ak;grind
 have hall:=hargs _ ham;have hsnap:af (λb o v=>w.cell? ⟨b,o,none⟩=some v) A (c.args.toList.map (bI V)):=by
  obtain⟨g1,g2⟩:=nW hA;refine af.of _ _ (by grind) λi y hi=> ?_;have hlt:i<(c.args.toList.map E).length:=by rw[g1];exact(rK.1 hi).1
  obtain⟨y',h5,h6⟩:=g2 i _ (eZ hlt);rw[hi]at h5;cases h5;obtain⟨v,k1,k2⟩:=hall.get _ _ i _ (eZ hlt);exact⟨v,k1,ET hs _ (λ_=>True) (λb o v h=>h.1) (λs ob b c _ _ _ _ o v h=>h) 3 _ _ v h6 (λs hs'=>⟨trivial,hR s (nO (List.getElem_mem hlt) hs')⟩) k2⟩
 have hvf:bI V f= .func (.func fid) #[] #[] :=by have:=hE f hfm;rw[hfv]at this;unfold aR aU at this;obtain⟨v1,v2,h1,h2,h3⟩:=this;unfold af at h2 h3;rw[h1,h2,h3]
 have hrun:(execOp (bI V) o).run P w= .ok (.enter fid (c.args.toList.map (bI V)).toArray) w:=by
  unfold execOp;rw[ho];have e2: #[] ++s8 (bI V) c.args++ #[] =(c.args.toList.map (bI V)).toArray:=by apply ol.1;simp
  simp only[resolve,hc,hvf,s9,cn,dZ,cp,invoke,kk hok,e2]
 have hlive:∀s ob b c,g s=some ob->ρ s=some (some b,c)->b<w.heap.size:=by intro s ob b c e1 e2;obtain⟨_,arr,e3⟩:=hs.at e1 e2;exact e3.lt
 unfold cI;rw[hrun];dsimp only;refine(hcalls _ w _ (λb o v h=>h) hsnap).mono ?_;rintro e w' ⟨v,us,q,c,rfl,hbel,hys,hrow⟩;have hus:us=[] :=by have:=hys.length;simpa using this
 subst hus;have hqb:∀b,q=some b->w.heap.size<=b:=by
  intro b hb;rcases hrow with⟨h1,_⟩|⟨b',arr,h1,_,_,h4,_⟩
  .grind
  .grind
 have hold:∀b,b<w.heap.size->w'.heap[b]? =w.heap[b]? :=λb hb=>hbel.block b hb;generalize hnS:sit n 0=nS at*
 let ρ':Ren:=λs=>if s=nS then some (q,c)else ρ s
 have hρn:ρ' nS=some (q,c):=if_pos rfl;have hρs:∀s,s≠nS->ρ' s=ρ s:=λs h=>if_neg h;have hup:∀s,s≠nS->ao g [(nS,some ⟨ty,esz,cells.map .p⟩)] s=g s:=by intro s h;unfold ao;simp[gh,beq_eq_false_iff_ne.2 h]
 have hmono:∀b o' x,bE C0 B w ρ g b o' x->bE C0 B w' ρ' (ao g [(nS,some ⟨ty,esz,cells.map .p⟩)]) b o' x:=by
  intro b o' x ⟨e1,e2,e0⟩;have hlt:=jh w ⟨b,o',none⟩ e1;refine⟨(i6 (hold b hlt)).trans e1,λs c' e3=> ?_,e0⟩;by_cases hsn:s=nS
  .grind
  .grind
 refine⟨_,rfl,ρ',λs hs=>hρs s (hcl s hs),hmono,?_,?_,hbel.mono hB⟩
 .refine hs.step (λs o' _ hgs=>hρs s (λh=>by grind)) (λs q' hq=>by grind) hmono ?_ ?_ λk es clock hk=>hold k (qn hk)
  .grind
  .intro s o' hso;have hsn:s=nS:=by
    rcases om s nS with h|h
    .grind
    .exact h
   subst hsn;simp[gh]at hso;subst hso;refine⟨q,c,hρn,?_⟩;rcases hrow with⟨h1,h2,h3,h4,h5⟩|⟨b,arr,h1,h2,h3,h4,h5,h6,h7,h8,h9⟩
   .grind
   .refine .inr ⟨b,arr,h1,Nat.le_trans hB h4,⟨h5,λh=>absurd h he,λ_=>⟨h6,by grind,h8⟩,λi x hi=> ?_⟩,λs' o2 c' hne hg' hr'=> ?_⟩
    .have hi:(cells.map AV.p)[i]? =some x:=hi;rw[fy]at hi;cases hci:cells[i]? with
     |none=>grind
     |some y=>
      rw[hci]at hi;simp only[eI,fZ]at hi;subst hi;obtain⟨u,k1,k2,k3⟩:=h9 i y hci;exact⟨u,k1,k2,by unfold aR;exact EB (bZ.1 hfl y (List.mem_of_getElem? hci)) k3⟩
    grind
 .unfold aR;refine⟨q,c,hρn,?_⟩;rcases hrow with⟨h1,h2,h3,_⟩|⟨b,arr,h1,h2,h3,_⟩
  .exact .inl ⟨h1,h2,h3,rfl⟩
  .exact .inr ⟨b,0,c,h1,h2,h3,λ_=>rfl,λ_=>⟨rfl,rfl⟩⟩
end
noncomputable section
def za{m:Rf}{l r:List AV}(h:eo m l r):cN m (eK l) (eK r):=by
 unfold eK;cases hl:bG l with
 |some q=>
  have e:=il hl;subst e;have:∀(q:List PV) (r:List AV),eo m (q.map .p) r->r=q.map .p:=by
   intro q;induction q with
   |nil=>intro r h;exact h
   |cons x q ih=>intro r h;obtain⟨y,r',rfl,h1,h2⟩:=h;unfold cN at h1;grind
  rw[this q r h,dR];rfl
 |none=>
  unfold cN;cases hr:bG r with
  |some q=>exact⟨r,.inr ⟨q,rfl,il hr⟩,h⟩
  |none=>grind
def Dl{m:Rf}{l r:List AV}(h:eo m l r):cN m (jr l) (jr r):=by
 unfold jr;cases hl:bG l with
 |some q=>
  have e:=il hl;subst e;have:∀(q:List PV) (r:List AV),eo m (q.map .p) r->r=q.map .p:=by
   intro q;induction q with
   |nil=>intro r h;exact h
   |cons x q ih=>intro r h;obtain⟨y,r',rfl,h1,h2⟩:=h;unfold cN at h1;grind
  rw[this q r h,dR];rfl
 |none=>
  unfold cN;cases hr:bG r with
  |some q=>exact⟨r,.inr ⟨q,rfl,il hr⟩,h⟩
  |none=>grind
def dK{m:Rf}{x:PV}{y:AV}(h:y= .p x):cN m (.p x) y:=by exact h
def jk(m:Rf):∀q:List PV,eo m (q.map .p) (q.map .p)
 |[] =>by rfl
 |x::q=>by exact⟨_,_,rfl,dK rfl,jk m q⟩
def ti{m:Rf}{α:Type}(f g:α->AV):∀l:List α,(∀x∈l,cN m (f x) (g x))->eo m (l.map f) (l.map g)
 |[],_=>by rfl
 |x::l,h=>by
  exact⟨_,_,rfl,by grind,ti f g l (by grind)⟩
mutual
def SV.ren(f:Nat->Nat):SV->SV
 | .agg l=> .agg (q9 f l)
 | .tup l=> .tup (q9 f l)
 | .fn g a b=> .fn g (q9 f a) (q9 f b)
 | .ptr s o=> .ptr (f s) o
 | .pte s t i o=> .pte (f s) t i o
 | .own s t n=> .own (f s) t n
 | .owns s t o n=> .owns (f s) t o n
 | .ownx s n=> .ownx (f s) n
 | .ownf s t a n=> .ownf (f s) t a n
 | .ptef s t a i o=> .ptef (f s) t a i o
 | .ptf s a=> .ptf (f s) a
 | .owF s n=> .owF (f s) n
 | .mp s=> .mp (f s)
 | .any=> .any
 | .undef=> .undef
 | .nil=> .nil
 | .int k n=> .int k n
 | .bool b=> .bool b
 | .lit b=> .lit b
 | .prop p d=> .prop p d
 | .str s=> .str s
 | .lst t l=> .lst t l
 | .sl n cs=> .sl n cs
 | .pe t l i o=> .pe t l i o
 | .pro cs o=> .pro cs o
 | .fnp g a b=> .fnp g a b
 | .clo1 pv t q dom=> .clo1 pv t q dom
 | .clo2 pv t q dom=> .clo2 pv t q dom
 | .ptb F n o=> .ptb F n o
 | .junk=> .junk
def q9(f:Nat->Nat):List SV->List SV
 |[] =>[]
 |x::l=>x.ren f::q9 f l
end
def u5(m:Rf)(f:Nat->Nat):Prop:=∀y a,m (inn (f y) a)=some (some (inn y a))
def u5.n{m:Rf}{f:Nat->Nat}(h:u5 m f)(y:Nat):m (aM (f y))=some (some (aM y)):=h y 0
mutual
theorem NL{m:Rf}{f:Nat->Nat}(hm:u5 m f):∀v:SV,cN m (v.ren f).av v.av
 | .any=>by trivial
 | .undef=>by rfl
 | .nil=>by rfl
 | .int _ _=>dK rfl
 | .bool _=>dK rfl
 | .lit _=>dK rfl
 | .prop _ _=>dK rfl
 | .str _=>dK rfl
 | .lst _ _=>dK rfl
 | .pe _ _ _ _=>dK rfl
 | .clo1 _ _ _ _=>dK rfl
 | .clo2 _ _ _ _=>dK rfl
 | .ptb _ _ _=>dK rfl
 | .junk=>dK rfl
 | .sl n cs=>by
   simp only[SV.ren,SV.av];split
   .exact dK rfl
   .trivial
 | .pro cs off=>by
   simp only[SV.ren,SV.av];split
   .exact dK rfl
   .trivial
 | .fnp g a b=>by
   simp only[SV.ren,SV.av];split
   .exact dK rfl
   .trivial
 | .agg l=>by exact za (rj hm l)
 | .tup l=>by exact Dl (rj hm l)
 | .fn g a b=>by exact⟨_,_,rfl,rj hm a,rj hm b⟩
 | .ptr s off=>by exact⟨_,hm.n s,rfl⟩
 | .pte s t i off=>by exact⟨_,hm.n s,rfl⟩
 | .ptf s a=>by exact⟨_,hm.n s,rfl⟩
 | .ptef s t a i off=>by exact⟨_,hm s (a+1),rfl⟩
 | .own s t n=>by exact .inl ⟨_,hm.n s,rfl⟩
 | .owns s t o n=>by exact .inl ⟨_,hm.n s,rfl⟩
 | .ownx s n=>by exact .inl ⟨_,hm.n s,rfl⟩
 | .owF s n=>by exact .inl ⟨_,hm.n s,rfl⟩
 | .ownf s t a n=>by exact .inl ⟨_,hm s (a+1),rfl⟩
 | .mp s=>by exact⟨_,hm.n s,rfl⟩
theorem rj{m:Rf}{f:Nat->Nat}(hm:u5 m f):∀l:List SV,eo m (avs (q9 f l)) (avs l)
 |[] =>by rfl
 |x::l=>by exact⟨_,_,rfl,NL hm x,rj hm l⟩
end
def SOb.ren(f:Nat->Nat):SOb->SOb
 | .box ty cs=> .box ty (q9 f cs)
 | .arr ty ez cs=> .arr ty ez (q9 f cs)
 | .row ty t l=> .row ty t l
 | .fam ty ity t L ov=> .fam ty ity t L (ov.map λq=>(q.1,q.2.ren f))
 | .mp ks=> .mp ks
def ml:SOb->Bool
 | .box ty _=> !(bB ty 0)
 | .fam _ _ _ _ ov=>ov.isEmpty
 | .arr _ ez _=> !(bB ez 0)
 |_=>true
def Vk{m:Rf}{f:Nat->Nat}(hm:u5 m f)(k:Nat){o:SOb}(ho:ml o=true):pi m ((o.ren f).ob (f k)) (o.ob k):=by
 cases o with
 |box ty cs=>exact⟨rfl,rfl,rj hm cs⟩
 |arr ty ez cs=>exact⟨rfl,rfl,rj hm cs⟩
 |row ty t l=>exact⟨rfl,rfl,jk m _⟩
 |mp ks=>refine⟨rfl,rfl,?_⟩;show eo m (ft (gI ks)) (ft (gI ks));rw[re];exact jk m _
 |fam ty ity t L ov=>
  have:ov=[] :=II.1 ho;subst this;refine⟨rfl,rfl,ti _ _ _ λi _=> ?_⟩;exact .inl ⟨_,hm k (i+1),rfl⟩
def q8(x:Nat)(ob:SOb):List (Nat×Option Ob):=(aM x,some (ob.ob x))::match ob with
 | .fam _ ity t L _=>(bP L.length).map λa=>(inn x (a+1),some ⟨ity,t.w,(t.enc (L.getD a [])).map .p⟩)
 |_=>[]
def JZ{α:Type}{g0:Nat->Nat}(hg:∀a b,g0 a=g0 b->a=b)(h0:Nat->α):∀(l:List Nat) (a:Nat),(l.map λi=>(g0 i,h0 i)).lookup (g0 a)=if a∈l then some (h0 a)else none
 |[],a=>rfl
 |i::l,a=>by
  rw[cT,dS,JZ hg h0 l a];grind
def DD{α:Type}{s:Nat}:∀{l:List (Nat×α)},(∀q∈l,q.1≠s)->l.lookup s=none
 |[],_=>rfl
 |q::l,h=>by grind
def DN{α:Type}{s:Nat}:∀{l r:List (Nat×α)},(l++r).lookup s=(match l.lookup s with|some x=>some x|none=>r.lookup s)
 |[],r=>rfl
 |q::l,r=>by
  grind
def Xt{ob:SOb}(ho:ml ob=true)(a:Nat):ob.inner a=(match ob with| .fam _ ity t L _=>if a<L.length then some ⟨ity,t.w,(t.enc (L.getD a [])).map .p⟩else none|_=>none):=by
 cases ob<;>try rfl
 rename_i ty ity t L ov;have:ov=[] :=II.1 ho;subst this;show((L[a]?).map λl=>(⟨ity,t.w,(t.enc l).map .p⟩:Ob))=_;grind
def VM(x y:Nat)(ob:SOb):(q8 x ob).lookup (aM y)=if y=x then some (some (ob.ob x))else none:=by
 unfold q8;rw[dS];by_cases e:y=x
 .grind
 .rw[beq_eq_false_iff_ne.2 (λh=>e (kn h)),if_neg e];refine DD λq hq=> ?_;split at hq
  .obtain⟨a,_,rfl⟩:=bM.1 hq;exact λh=>by have:=(fD h).2;omega
  .cases hq
def XD(x y a:Nat){ob:SOb}(ho:ml ob=true):(q8 x ob).lookup (inn y (a+1))=if y=x then(ob.inner a).map some else none:=by
 have e0:inn y (a+1)≠aM x:=λh=>by have:=(fD h).2;omega
 rw[Xt ho a];unfold q8;rw[dS,beq_eq_false_iff_ne.2 e0];cases ob with
 |fam ty ity t L ov=>
  by_cases e:y=x
  .subst e;rw[if_pos rfl,JZ (g0:=λa=>inn y (a+1)) (λa b h=>by have:=(fD h).2;omega)];grind
  .rw[if_neg e];refine DD λq hq=> ?_;obtain⟨b,_,rfl⟩:=bM.1 hq;exact λh=>e (fD h).1.symm
 |_=>dsimp only;split<;>rfl
def Yl(x:Nat)(ob:SOb){s:Nat}(h:∀x a,s≠inn x a):(q8 x ob).lookup s=none:=by
 refine DD λq hq=> ?_;rcases bO.1 hq with rfl|hq
 .exact λe=>h x 0 e.symm
 grind
def ph(W:List (Nat×SOb)):List (Nat×Option Ob):=W.flatMap λq=>q8 q.1 q.2
def wP(y:Nat):∀W:List (Nat×SOb),(ph W).lookup (aM y)=(W.lookup y).map λob=>some (ob.ob y)
 |[] =>rfl
 |q::W=>by
  unfold ph;rw[fX,DN,VM,dS];by_cases e:y=q.1
  .grind
  .rw[if_neg e,beq_eq_false_iff_ne.2 e];exact wP y W
def wo(y a:Nat):∀{W:List (Nat×SOb)},(∀q∈W,ml q.2=true)->(W.map (·.1)).Nodup->(ph W).lookup (inn y (a+1))=((W.lookup y).bind (SOb.inner a)).map some
 |[],_,_=>rfl
 |q::W,h,hn=>by
  rw[cT,List.nodup_cons]at hn;have ih:=wo y a (W:=W) (by grind) hn.2;unfold ph;rw[fX,DN,XD _ _ _ (by grind),dS];by_cases e:y=q.1
  .rw[if_pos e,beq_iff_eq.2 e];have hno:W.lookup y=none:=by grind
   cases hi:q.2.inner a with
   |some ob=>simp[hi]
   |none=>
    have ih':(List.flatMap (λq=>q8 q.1 q.2) W).lookup (inn y (a+1))=none:=by have:=ih;unfold ph at this;rw[this,hno];rfl
    grind
  .rw[if_neg e,beq_eq_false_iff_ne.2 e];exact ih
def w8{s:Nat}(h:∀x a,s≠inn x a):∀W:List (Nat×SOb),(ph W).lookup s=none
 |[] =>rfl
 |q::W=>by
  unfold ph;rw[fX,DN,Yl _ _ h];exact w8 h W
def I4(W:List (Nat×SOb))(y:Nat):((W.map λq=>(q.1,some q.2)).lookup y:Option (Option SOb))=(W.lookup y).map some:=by
 induction W with
 |nil=>rfl
 |cons q W ih=>
  grind
def bX.news{σ:Sg}{W:List (Nat×SOb)}(hW:∀q∈W,ml q.2=true)(hn:(W.map (·.1)).Nodup)(hσ:∀q∈W,σ q.1=none):bX σ [] (W.map λq=>(q.1,some q.2)) [] (ph W):=by
 refine⟨λs hs=>by grind,λs hs=> ?_,?_⟩
 .obtain⟨⟨t,ob⟩,hq,rfl⟩:=bM.1 hs;obtain⟨q,hq1,hq2⟩:=dI.1 hq;have:cls t=ncl q.1:=by
   unfold q8 at hq2;rcases bO.1 hq2 with e|hq2
   .cases e;exact fG _ 0
   .split at hq2
    .obtain⟨a,_,e⟩:=bM.1 hq2;cases e;exact fG _ _
    .cases hq2
  grind
 .funext s
  unfold ao;rcases j8 s with⟨y,rfl⟩|⟨y,b,rfl⟩|hns
  .rw[Sg.cH,Sg.cH,wP];unfold aP.up;rw[I4];cases hl:W.lookup y with
   |none=>rfl
   |some ob=>rfl
  .rw[Sg.fQ,Sg.fQ,wo y b hW hn];unfold aP.up;rw[I4];cases hl:W.lookup y with
   |none=>rfl
   |some ob=>
    show(match((SOb.inner b ob).map some:Option (Option Ob))with|some x=>x|none=>(σ y).bind (SOb.inner b))=SOb.inner b ob;cases hi:SOb.inner b ob with
    |some o=>rfl
    |none=>grind
  .rw[Sg.jc _ hns,Sg.jc _ hns,w8 hns]
def mu(n y:Nat):Nat:=n+NM*(y+1)
def muR(n:Nat):Rf:=λs=>if inn (nm s) (sub s)=s then(if mu n (nm s/NM-1)=nm s then some (some (inn (nm s/NM-1) (sub s)))else none)else none
def GL{n:Nat}(hn:n<NM)(y:Nat):mu n y/NM-1=y:=by unfold mu;rw[Nat.add_mul_div_left _ _ (by grind),Nat.div_eq_of_lt hn];omega
def Ph{n:Nat}(hn:n<NM)(y:Nat):ncl (mu n y)=n:=by unfold ncl mu;rw[Nat.add_mul_mod_self_left,dj hn]
def aAu{n y z:Nat}(hn:n<NM)(h:mu n y=mu n z):y=z:=by rw[<-GL hn y,h,GL hn z]
def zf{n:Nat}(hn:n<NM):u5 (muR n) (mu n):=by intro y a;unfold muR;rw[sI,rp,if_pos rfl,GL hn,if_pos rfl]
def Eh{n s:Nat}{x:Option Nat}(h:muR n s=some x):∃y a,s=inn (mu n y) a/\x=some (inn y a):=by
 unfold muR at h;split at h
 .rename_i h1;split at h
  .rename_i h2;cases h;grind
  .cases h
 .cases h
def u8:List Nat->Nat->Bool
 |[],_=>false
 |x::l,s=>match bB s x with|true=>true|false=>u8 l s
def AI{s:Nat}:∀{l:List Nat},u8 l s=false->s∉l
 |[],_=>cl
 |x::l,h=>by
  unfold u8 at h;cases hb:bB s x with
  |true=>grind
  |false=>
   rw[hb]at h;intro hm;rcases bO.1 hm with rfl|hm
   .simp_all
   .exact AI h hm
def BV(σ:Sg)(n:Nat):aP->Option (List (Nat×SOb))
 |[] =>some []
 |(y,some ob)::W=>(match ml ob,σ (mu n y),u8 (W.map (·.1)) y,BV σ n W with
  |true,none,false,some l=>some ((mu n y,ob.ren (mu n))::l)
  |_,_,_,_=>none)
 |_::_=>none
def XT{f:Nat->Nat}{ob:SOb}(h:ml ob=true):ml (ob.ren f)=true:=by
 cases ob<;>first|exact h|skip
 rename_i ty ity t L ov;have:ov=[] :=II.1 h;subst this;rfl
def Vj{f:Nat->Nat}{ob:SOb}(h:ml ob=true)(a:Nat):(ob.ren f).inner a=ob.inner a:=by
 cases ob<;>first|rfl|skip
 rename_i ty ity t L ov;have:ov=[] :=II.1 h;subst this;rfl
def JE{σ:Sg}{n:Nat}(hn:n<NM):∀{W:aP} {l:List (Nat×SOb)},BV σ n W=some l->
  (∀q∈l,ml q.2=true/\σ q.1=none)/\(l.map (·.1)).Nodup/\l.map (·.1)=W.map (λq=>mu n q.1)/\∀z obr,l.lookup z=some obr->∃y ob,z=mu n y/\obr=ob.ren (mu n)/\ml ob=true/\aP.at W y=some ob
 |[],l,h=>by cases h;grind
 |(y,none)::W,l,h=>by cases h
 |(y,some ob)::W,l,h=>by
  unfold BV at h;split at h<;>cases h;rename_i l' h1 h2 h3 h4;obtain⟨g1,g2,g3,g4⟩:=JE hn h4;have hy:=AI h3;have hnot:mu n y∉l'.map (·.1):=by rw[g3];intro hm;obtain⟨q,hq,e⟩:=bM.1 hm;exact hy (by rw[<-aAu hn e];grind)
  refine⟨λq hq=> ?_,?_,?_,?_⟩
  .rcases bO.1 hq with rfl|hq
   .exact⟨XT h1,h2⟩
   grind
  .grind
  .grind
  .intro z obr hz;rw[dS]at hz;by_cases e:z=mu n y
   .rw[beq_iff_eq.2 e]at hz;cases hz;exact⟨y,ob,e,rfl,h1,by unfold aP.at;simp_all⟩
   .rw[beq_eq_false_iff_ne.2 e]at hz;obtain⟨y2,ob2,k1,k2,k3,k4⟩:=g4 z obr hz;unfold aP.at;have:bB y2 y=false:=by
     cases hb:bB y2 y with
     |false=>rfl
     |true=>simp_all
    grind
def vB:SV->Option Nat
 | .fnp f [] [] =>some f
 |_=>none
def Ga(X:Cx)(n:Nat)(σ:Sg)(fv:SV)(xs:List SV):SR:=match vB fv with
 |none=>none
 |some f=>(match X.T f with
  |some ⟨_,dec,pre,.tree res obs⟩=>(match bG (avs xs),dec xs,iM n NM with
   |some _,some x,true=>(match BV σ n (obs x)with
    |some l=>some (pre x,(res x).ren (mu n),[],l.map λq=>(q.1,some q.2))
    |none=>none)
   |_,_,_=>none)
  |_=>none)
def Al{fv:SV}{f:Nat}(h:vB fv=some f):fv.av= .p (.fn (.func f) [] []):=by unfold vB at h;split at h<;>cases h;rfl
def mG(P:Program)(n:Nat)(o:Oper)(E:SE)(σ:Sg)(R:SR):Prop:=
 ∀ps r rd W,R=some (ps,r,rd,W)->(∀p∈ps,p)->(∃R' W',bR P o E.a σ.a n r.av R' W'/\bX σ rd W R' W')/\r.ok
def W5{X:Cx}(hX:X.Ok){n:Nat}{o:Oper}{E:SE}{σ:Sg}{c:Call}{f:Operand}(ho:o.op= .call c)(hc:c.callee= .value f):mG X.P n o E σ (um (Ga X n σ (E f) (c.args.toList.map E))):=by
 intro ps r rd W h hp;obtain⟨h,hr⟩:=DR h;refine⟨?_,hr⟩;unfold Ga at h;split at h
 .cases h
 rename_i fid hf;split at h
 case h_2=>cases h
 rename_i Y dec pre res obs hT;split at h
 case h_2=>cases h
 rename_i A' x hA' hx hn;split at h<;>cases h;rename_i l hl;have hn:n<NM:=o5 hn;obtain⟨A,h1,h2⟩:=hX.1 fid _ hT _ x hx hp;obtain⟨g1,g2,g3,g4⟩:=JE hn hl;have avl:avs (c.args.toList.map E)=c.args.toList.map E.a:=by rw[im,cv];rfl
 refine⟨[],ph l,?_,bX.news (by grind) g2 (by grind)⟩;have hinner:∀{ob:SOb} {a:Nat} {o':Ob},ob.inner a=some o'->∃(ity:TypeId) (wd:Nat) (q:List PV),wd≠0/\o'=⟨ity,wd,q.map .p⟩:=by
  intro ob a o' hi;cases ob<;>try (cases hi;done)
  rename_i ty ity t L ov;unfold SOb.inner at hi;dsimp only at hi;split at hi
  .cases hi
  .cases hL:L[a]? with
   |none=>grind
   |some r=>rw[hL]at hi;cases hi;exact⟨ity,t.w,_,nL t.kF,rfl⟩
 have hcls:∀z∈l.map (·.1),ncl z=n:=by intro z hz;rw[g3]at hz;obtain⟨q,_,rfl⟩:=bM.1 hz;exact Ph hn _
 refine Wd (A:=A) (m1:=muR n) ho hc (by exact Al hf) (by rw[<-avl,h1,dR]) h2 ?_ ?_ ⟨?_,?_⟩ ?_ (NL (zf hn) _)
 .intro s x hs;obtain⟨y,a,rfl,_⟩:=Eh hs;rw[fG,Ph hn]
 .intro s hs;rcases j8 s with⟨z,rfl⟩|⟨z,b,rfl⟩|hno
  .rw[wP]at hs|-;refine⟨by rw[show cls (aM z)=ncl z from fG z 0];grind,?_⟩;cases hl2:l.lookup z with
   |none=>grind
   |some ob=>simp
  .rw[wo z b (by grind) g2]at hs|-;refine⟨by rw[fG];grind,?_⟩;cases(l.lookup z).bind (SOb.inner b)<;>simp
  .exact absurd (w8 hno l) hs
 .intro s s' o1 e1 e2;obtain⟨y,a,rfl,k1⟩:=Eh e1;obtain⟨y',a',rfl,k2⟩:=Eh e2;rw[mO k1]at k2;obtain⟨rfl,rfl⟩:=fD (mO k2);rfl
 .intro s ob' hs;dsimp only at hs;rcases j8 s with⟨z,rfl⟩|⟨z,b,rfl⟩|hno
  .rw[wP]at hs;cases hl2:l.lookup z with
   |none=>grind
   |some obr=>
    rw[hl2]at hs;cases hs;obtain⟨y,ob,rfl,rfl,k3,k4⟩:=g4 z obr hl2;rw[(zf hn).n y];exact⟨ob.ob y,by rw[Sg.cH,k4];rfl,Vk (zf hn) y k3⟩
  .rw[wo z b (by grind) g2]at hs;cases hl2:l.lookup z with
   |none=>grind
   |some obr=>
    rw[hl2]at hs;obtain⟨y,ob,rfl,rfl,k3,k4⟩:=g4 z obr hl2;have hs:((SOb.inner b (ob.ren (mu n))).map some).join=some ob':=hs;rw[Vj k3]at hs;cases hi:ob.inner b with
    |none=>grind
    |some o'=>
     rw[hi]at hs;cases hs;rw[zf hn y (b+1)];refine⟨ob',by rw[Sg.fQ,k4];exact hi,?_⟩;obtain⟨ity,wd,q,_,rfl⟩:=hinner hi;exact⟨rfl,rfl,jk _ q⟩
  .rw[w8 hno]at hs;cases hs
 .intro s ob' hs;rcases j8 s with⟨z,rfl⟩|⟨z,b,rfl⟩|hno
  .rw[wP]at hs;cases hl2:l.lookup z with
   |none=>grind
   |some obr=>
    rw[hl2]at hs;cases hs;obtain⟨y,ob,rfl,rfl,k3,k4⟩:=g4 z obr hl2;cases ob with
    |box ty cs=>
     intro⟨_,e⟩;subst e;cases k3
    |arr ty ez cs=>
     intro⟨e,_⟩;subst e;cases k3
    |row ty t l=>intro⟨e,_⟩;exact absurd e (nL t.kF)
    |fam ty ity t L ov=>intro⟨e,_⟩;cases e
    |mp ks=>intro⟨_,e⟩;cases e
  .rw[wo z b (by grind) g2]at hs;cases hb:(l.lookup z).bind (SOb.inner b)with
   |none=>grind
   |some o'=>
    rw[hb]at hs;obtain⟨ob,_,hi⟩:=qE.1 hb;grind
  .rw[w8 hno]at hs;cases hs
def kI(f:SV->Option SV):List SV->Option (List SV)
 |[] =>some []
 |x::l=>(match f x,kI f l with|some y,some m=>some (y::m)|_,_=>none)
def kW:Nat->Sg->SV->Option SV
 |_,_,.nil=>some (.sl 0 [])
 |_,_,.own .. =>some .junk
 |_,_,.owns .. =>some .junk
 |_,_,.ownx .. =>some .junk
 |_,_,.owF .. =>some .junk
 |_,_,.ownf .. =>some .junk
 |_,_,.any=>some .junk
 |0,_,.ptr .. =>some .junk
 |d+1,σ,.ptr s off=>(match σ s with
  |some (.box _ cs)=>(match kI (kW d σ) cs with|some m=>some (.pro m off)|none=>none)
  |_=>none)
 |d+1,σ,.agg l=>(match kI (kW d σ) l with|some m=>some (.agg m)|none=>none)
 |d+1,σ,.fn f a b=>(match kI (kW d σ) a,kI (kW d σ) b with|some x,some y=>some (.fnp f x y)|_,_=>none)
 |_,_,x=>(match x.av with| .p _=>some x|_=>none)
def gp:Nat->Sg->SV->List Nat
 |0,_,_=>[]
 |d+1,σ,.ptr s _=>s::(match σ s with|some (.box _ cs)=>bK (gp d σ) cs|_=>[])
 |d+1,σ,.agg l=>bK (gp d σ) l
 |d+1,σ,.fn _ a b=>bK (gp d σ) a++bK (gp d σ) b
 |_,_,_=>[]
def FI(d:Nat)(σ:Nat->Option Ob)(x:PV):gU d σ (.p x)=some x:=by cases d<;>rfl
def Oi(d:Nat)(σ:Nat->Option Ob):∀l:List PV,di (gU d σ) (l.map .p)=some l
 |[] =>rfl
 |x::l=>by simp only[cT,di,FI,Oi d σ l]
def FQ(d:Nat)(σ:Nat->Option Ob)(x:PV):ff d σ (.p x)=[] :=by cases d<;>rfl
def N7(d:Nat)(σ:Nat->Option Ob):∀l:List PV,bK (ff d σ) (l.map .p)=[]
 |[] =>rfl
 |x::l=>by simp only[cT,bK,FQ,N7 d σ l,List.append_nil]
def TZ{d:Nat}{σ:Sg}{x:SV}{y:SV}(h:(match x.av with| .p _=>some x|_=>none)=some y):(∃q,gU d σ.a x.av=some q/\y.av= .p q)/\ff d σ.a x.av=[] :=by split at h<;>cases h;rename_i q e;rw[e];exact⟨⟨q,FI _ _ _,rfl⟩,FQ _ _ _⟩
def JL{d:Nat}{σ:Sg}{x:SV}{y:SV}(h:(match x.av with| .p _=>some x|_=>none)=some y)(hr:gp d σ x=[]):(∃q,gU d σ.a x.av=some q/\y.av= .p q)/\ff d σ.a x.av=(gp d σ x).map aM:=by rw[hr];exact TZ h
def JOk(d:Nat)(σ:Sg):Prop:=∀x y,kW d σ x=some y->(∃q,gU d σ.a x.av=some q/\y.av= .p q)/\ff d σ.a x.av=(gp d σ x).map aM
def pI{d:Nat}{σ:Sg}(hf:JOk d σ):∀{l m:List SV},kI (kW d σ) l=some m->(∃q,di (gU d σ.a) (avs l)=some q/\avs m=q.map .p)/\bK (ff d σ.a) (avs l)=(bK (gp d σ) l).map aM
 |[],m,h=>by cases h;exact⟨⟨[],rfl,rfl⟩,rfl⟩
 |x::l,m,h=>by
  unfold kI at h;split at h<;>cases h;rename_i y m' h1 h2;obtain⟨⟨u,e1,e2⟩,e3⟩:=hf x y h1;obtain⟨⟨v,e4,e5⟩,e6⟩:=pI hf h2;refine⟨⟨u::v,?_,by rw[avs,e2,e5];rfl⟩,?_⟩
  .rw[avs,di,e1,e4]
  .rw[avs,bK,bK,e3,e6,dQ]
def zU{σ:Sg}:∀d:Nat,JOk d σ:=by
 intro d;induction d with
 |zero=>
  intro x y h;cases x<;>first
   |(change some (SV.sl 0 [])=some y at h;cases h;exact⟨⟨.sl 0 [],rfl,rfl⟩,rfl⟩)
   |(change some SV.junk=some y at h;cases h;exact⟨⟨.junk,rfl,rfl⟩,rfl⟩)
   |exact JL h rfl
 |succ d ih=>
  intro x y h;cases x with
  |nil=>cases h;exact⟨⟨.sl 0 [],rfl,rfl⟩,rfl⟩
  |own s t n=>cases h;exact⟨⟨.junk,rfl,rfl⟩,rfl⟩
  |owns s t o n=>cases h;exact⟨⟨.junk,rfl,rfl⟩,rfl⟩
  |ownx s n=>cases h;exact⟨⟨.junk,rfl,rfl⟩,rfl⟩
  |owF s n=>cases h;exact⟨⟨.junk,rfl,rfl⟩,rfl⟩
  |ownf s t a n=>cases h;exact⟨⟨.junk,rfl,rfl⟩,rfl⟩
  |any=>cases h;exact⟨⟨.junk,rfl,rfl⟩,rfl⟩
  |ptr s off=>
   change (match σ s with|some (.box _ cs)=>(match kI (kW d σ) cs with|some m=>some (SV.pro m off)|none=>none)|_=>none)=_ at h;split at h
   case h_2=>cases h
   rename_i ty cs hs;split at h<;>cases h;rename_i m hm;obtain⟨⟨q,e1,e2⟩,e3⟩:=pI ih hm;have e0:Sg.a σ (aM s)=some ⟨ty,0,avs cs⟩:=by rw[Sg.cH,hs];rfl
   refine⟨⟨.pro q off,?_,by show(match bG (avs m)with|some q=>AV.p (.pro q off)|none=> .any)=_;rw[e2,dR]⟩,?_⟩
   .show gU (d+1) (Sg.a σ) (.ptr (aM s) off)=_;unfold gU;grind
   .show ff (d+1) (Sg.a σ) (.ptr (aM s) off)=_;unfold ff gp;grind
  |agg l=>
   change (match kI (kW d σ) l with|some m=>some (SV.agg m)|none=>none)=_ at h;split at h<;>cases h;rename_i m hm;obtain⟨⟨q,e1,e2⟩,e3⟩:=pI ih hm;refine⟨⟨.agg q,?_,by show eK (avs m)=_;rw[e2,rW]⟩,?_⟩
   .show gU (d+1) (Sg.a σ) (eK (avs l))=_;unfold eK;cases hq:bG (avs l)with
    |some q'=>
     rw[il hq,Oi]at e1;cases e1;exact FI _ _ _
    |none=>unfold gU;rw[e1];rfl
   .show ff (d+1) (Sg.a σ) (eK (avs l))=(bK (gp d σ) l).map aM;rw[<-e3];unfold eK;cases hq:bG (avs l)with
    |some q'=>rw[il hq,N7];exact FQ _ _ _
    |none=>rfl
  |fn f a b=>
   change (match kI (kW d σ) a,kI (kW d σ) b with|some x,some y=>some (SV.fnp f x y)|_,_=>none)=_ at h;split at h<;>cases h;rename_i x y h1 h2;obtain⟨⟨u,e1,e2⟩,e3⟩:=pI ih h1;obtain⟨⟨v,e4,e5⟩,e6⟩:=pI ih h2;refine⟨⟨.fn (.func f) u v,?_,by show(match bG (avs x),bG (avs y)with|some x,some y=>AV.p (.fn (.func f) x y)|_,_=> .any)=_;rw[e2,e5,dR,dR]⟩,?_⟩
   .show gU (d+1) (Sg.a σ) (.fn (.func f) (avs a) (avs b))=_;unfold gU;grind
   .show bK (ff d σ.a) (avs a)++bK (ff d σ.a) (avs b)=(bK (gp d σ) a++bK (gp d σ) b).map aM;grind
  |_=>exact JL h rfl
def I3(l:List Nat):inC (l.map aM) (l.map ncl):=by intro s hs;obtain⟨x,hx,rfl⟩:=bM.1 hs;rw[show cls (aM x)=ncl x from fG x 0];grind
def qw:LT->Bool
 | .R| .Q=>false
 |_=>true
def EA{t:LT}(h:qw t=true)(l:List t.ty):(t.enc l).all flat1=true:=by
 refine bZ.2 λx hx=> ?_;obtain⟨e,_,hx⟩:=dI.1 hx;cases t<;>first|(cases h;done)|skip
 all_goals (simp[LT.rowP]at hx;rcases hx with rfl|rfl|rfl|rfl<;>rfl)
def bX.rset{σ:Sg}{z a:Nat}{ty ity:TypeId}{lt:LT}{L:List (List lt.ty)}{ov:List (Nat×SV)}{l':List lt.ty}{rd R:List Nat}(hs:σ z=some (.fam ty ity lt L ov))(ho:ov.lookup a=none)(ha:a<L.length)(hl:l'.length=(L.getD a []).length)(hR:inC R (rd.map ncl)):
  bX σ rd [(z,some (.fam ty ity lt (L.set a l') ov))] R [(inn z (a+1),some ⟨ity,lt.w,(lt.enc l').map .p⟩)] :=by
 refine⟨hR,λs hm=> ?_,?_⟩
 .have hm:s=inn z (a+1):=by simpa using hm
  subst hm;rw[fG];grind
 .funext s
  unfold ao;rcases j8 s with⟨y,rfl⟩|⟨y,b,rfl⟩|hno
  .rw[Sg.cH,Sg.cH,dS,beq_eq_false_iff_ne.2 (show aM y≠inn z (a+1)from λh=>by have:=(fD h).2;omega)];unfold aP.up;rw[dS];by_cases e:y=z
   .subst e;rw[beq_iff_eq.2 rfl,hs];show some (⟨ty,1,_⟩:Ob)=some ⟨ty,1,_⟩
    congr 2
    rw[yh];unfold iX;grind
   grind
  .rw[Sg.fQ,Sg.fQ,dS];unfold aP.up;rw[dS];by_cases e:y=z
   .subst e;rw[beq_iff_eq.2 rfl,hs];by_cases hb:b=a
    .subst hb;rw[beq_iff_eq.2 rfl];unfold SOb.inner;grind
    .rw[beq_eq_false_iff_ne.2 (show inn y (b+1)≠inn y (a+1)from λh=>hb (by have:=(fD h).2;omega))];unfold SOb.inner;grind
   .rw[beq_eq_false_iff_ne.2 e,beq_eq_false_iff_ne.2 (show inn y (b+1)≠inn z (a+1)from λh=>e (fD h).1)];rfl
  .rw[Sg.jc _ hno,Sg.jc _ hno,dS,beq_eq_false_iff_ne.2 (hno z (a+1))];rfl
def Gc(X:Cx)(n:Nat)(σ:Sg)(fv:SV)(xs:List SV):SR:=match vB fv with
 |none=>none
 |some f=>(match X.T f with
  |some ⟨_,dec,pre,.rowB t ty l'⟩=>(match xs with
   | .own s _ m::rest=>(match σ s,kI (kW 3 σ) rest,frs σ n,u8 (bK (gp 3 σ) rest) s with
     |some (.row ty' t' l),some bs,true,false=>(match decEq t' t,bB ty' ty with
      | .isTrue h,true=>(match dec (.lst t (h▸l)::bs)with
        |some x=>some ((m=l.length)::(0<m)::pre x,.own n t (l' x).length,s::bK (gp 3 σ) rest,[(s,none),(n,some (.row ty t (l' x)))])
        |none=>none)
      |_,_=>none)
     |_,_,_,_=>none)
   | .ownf z _ a m::rest=>(match σ z,kI (kW 3 σ) rest,frs σ n with
     |some (.fam tyo ity t' L ov),some bs,true=>(match decEq t' t,bB ity ty with
      | .isTrue h,true=>(match dec (.lst t ((h▸L:List (List t.ty)).getD a [])::bs)with
        |some x=>some ((a<L.length)::(m=(L.getD a []).length)::(0<m)::(mC ov a++pre x),.own n t (l' x).length,z::bK (gp 3 σ) rest,[(z,some (.fam tyo ity t' L ((a,.ownf z t' a m)::ov))),(n,some (.row ty t (l' x)))])
        |none=>none)
      |_,_=>none)
     |_,_,_=>none)
   |_=>none)
  |_=>none)
def YV(x:SV)(l:List SV):avs (x::l)=x.av::avs l:=rfl
def W8{X:Cx}(hX:X.Ok){n:Nat}{o:Oper}{E:SE}{σ:Sg}{c:Call}{f:Operand}(ho:o.op= .call c)(hc:c.callee= .value f):mG X.P n o E σ (Gc X n σ (E f) (c.args.toList.map E)):=by
 intro ps r rd W h hp;unfold Gc at h;split at h
 .cases h
 rename_i fid hf;split at h
 case h_2=>cases h
 rename_i Y dec pre t ty l' hT;have hfv:E.a f= .p (.fn (.func fid) [] []):=Al hf;have avl:c.args.toList.map E.a=avs (c.args.toList.map E):=by rw[im,cv];rfl
 have hC:=hX.1 fid _ hT;split at h
 .rename_i s lt m rest hxs;split at h
  case h_2=>cases h
  rename_i ty' t' l bs hs hbs hfr hmem;split at h
  case h_2=>cases h
  rename_i ht hty hb;subst ht;split at h<;>cases h;rename_i x hx;have hb:=dM hb;subst hb;have e1:m=l.length:=hp _ (by grind);have e2:0<m:=hp _ (by grind);obtain⟨A,h1,h2⟩:=hC l bs x hx (by grind);obtain⟨⟨q,k1,k2⟩,k3⟩:=pI (zU 3) hbs;have hqA:q=A:=by have:=congrArg bG (k2.symm.trans h1);rw[dR,dR]at this;cases this;rfl
  subst hqA;obtain⟨hn1,hn2⟩:=ls hfr;subst e1;refine⟨⟨(s::bK (gp 3 σ) rest).map aM,aP.sto [(s,none),(n,some (.row ty' t' (l' x)))],?_,?_⟩,trivial⟩
  rotate_left
  .exact bX.flat (rd:=s::bK (gp 3 σ) rest) (W:=[(s,none),(n,some (.row ty' t' (l' x)))]) λq hq=>by
    rcases bO.1 hq with rfl|hq
    .rw[hs];exact⟨rfl,rfl⟩
    .rw[bh.1 hq,hn2];exact⟨rfl,rfl⟩
  have:=K4 (σ:=σ.a) (n:=n) (k:=l.length) (s:=aM s) (rest:=avs rest) (A:=q) ho hc hfv (by rw[avl,hxs];rfl) (by rw[Sg.cH,hs];rfl) (nL t'.kF) e2 k1 (by rw[k3];intro hm;obtain⟨y,hy,e⟩:=bM.1 hm;exact AI hmem (by rw[<-kn e];exact hy)) h2
  rw[k3]at this;show bR _ _ _ _ _ _ (aM s::_) [(aM s,none),(aM n,some _)];show bR _ _ _ _ _ (.own (aM n) 0 _) _ _;rw[hn1];exact this
 .rename_i z lt a m rest hxs;split at h
  case h_2=>cases h
  rename_i tyo ity t' L ov bs hs hbs hfr;split at h
  case h_2=>cases h
  rename_i ht hty hb;subst ht;split at h<;>cases h;rename_i x hx;have hb:=dM hb;subst hb;have e0:a<L.length:=hp _ (by grind);have e1:m=(L.getD a []).length:=hp _ (by grind);have e2:0<m:=hp _ (by grind);have hov:ov.lookup a=none:=rb λp hq=>hp p (by grind);obtain⟨A,h1,h2⟩:=hC _ bs x hx (λp hq=>hp p (by grind));obtain⟨⟨q,k1,k2⟩,k3⟩:=pI (zU 3) hbs;have hqA:q=A:=by have:=congrArg bG (k2.symm.trans h1);rw[dR,dR]at this;cases this;rfl
  subst hqA;obtain⟨hn1,hn2⟩:=ls hfr;have hob:Sg.a σ (inn z (a+1))=some ⟨ity,t'.w,(t'.enc (L.getD a [])).map .p⟩:=by rw[Sg.fQ,hs];show SOb.inner a (.fam tyo ity t' L ov)=_;unfold SOb.inner;dsimp only;rw[hov,de,eZ e0];rfl
  refine⟨⟨inn z (a+1)::bK (ff 3 σ.a) (avs rest),_,?_,bX.take (n:=n) (ob:= .row ity t' (l' x)) hs hov e1 hn2 rfl ?_⟩,trivial⟩
  .have:=K4 (σ:=σ.a) (n:=n) (k:=m) (s:=inn z (a+1)) (rest:=avs rest) (A:=q) ho hc hfv (by rw[avl,hxs];rfl) hob (nL t'.kF) e2 k1 (by rw[k3];intro hm;obtain⟨y,hy,e⟩:=bM.1 hm;have:=(fD e).2;omega) (by rw[e1];exact h2)
   show bR _ _ _ _ _ (.own (aM n) 0 _) _ [(inn z (a+1),none),(aM n,some _)];rw[hn1];exact this
  .intro t ht;rcases bO.1 ht with rfl|ht
   .rw[fG];grind
   .rw[k3]at ht;exact cB _ (I3 _ t ht)
 .cases h
def Gb(X:Cx)(σ:Sg)(fv:SV)(xs:List SV):SR:=match vB fv with
 |none=>none
 |some f=>(match X.T f with
  |some ⟨_,dec,pre,.mutR t ty l'⟩=>(match(match qw t with|true=>xs|false=>[])with
   | .own s _ m::rest=>(match σ s,kI (kW 3 σ) rest,u8 (bK (gp 3 σ) rest) s with
     |some (.row ty' t' l),some bs,false=>(match decEq t' t,bB ty' ty with
      | .isTrue h,true=>(match dec (.lst t (h▸l)::bs)with
        |some x=>some ((m=l.length)::(0<m)::pre x,.undef,s::bK (gp 3 σ) rest,[(s,some (.row ty t (l' x)))])
        |none=>none)
      |_,_=>none)
     |_,_,_=>none)
   | .ownf z _ a m::rest=>(match σ z,kI (kW 3 σ) rest with
     |some (.fam tyo ity t' L ov),some bs=>(match decEq t' t,bB ity ty with
      | .isTrue h,true=>(match dec (.lst t ((h▸L:List (List t.ty)).getD a [])::bs)with
        |some x=>some ((a<L.length)::(m=(L.getD a []).length)::(0<m)::(mC ov a++pre x),.undef,z::bK (gp 3 σ) rest,[(z,some (.fam tyo ity t ((h▸L:List (List t.ty)).set a (l' x)) ov))])
        |none=>none)
      |_,_=>none)
     |_,_=>none)
   |_=>none)
  |_=>none)
def W7{X:Cx}(hX:X.Ok){n:Nat}{o:Oper}{E:SE}{σ:Sg}{c:Call}{f:Operand}(ho:o.op= .call c)(hc:c.callee= .value f):mG X.P n o E σ (Gb X σ (E f) (c.args.toList.map E)):=by
 intro ps r rd W h hp;unfold Gb at h;split at h
 .cases h
 rename_i fid hf;split at h
 case h_2=>cases h
 rename_i Y dec pre t ty l' hT;have hfv:E.a f= .p (.fn (.func fid) [] []):=Al hf;have avl:c.args.toList.map E.a=avs (c.args.toList.map E):=by rw[im,cv];rfl
 have hC:=hX.1 fid _ hT;have hfl:qw t=true/\(match qw t with|true=>c.args.toList.map E|false=>[])=c.args.toList.map E\/(match qw t with|true=>c.args.toList.map E|false=>[])=[] :=by
  cases qw t
  .grind
  .grind
 generalize (match qw t with|true=>c.args.toList.map E|false=>[])=ys at h hfl;rcases hfl with⟨hfl,rfl⟩|rfl
 rotate_left
 .cases h
 split at h
 .rename_i s lt m rest hxs;split at h
  case h_2=>cases h
  rename_i ty' t' l bs hs hbs hmem;split at h
  case h_2=>cases h
  rename_i ht hty hb;subst ht;split at h<;>cases h;rename_i x hx;have hb:=dM hb;subst hb;have e1:m=l.length:=hp _ (by grind);have e2:0<m:=hp _ (by grind);obtain⟨A,h1,h2⟩:=hC l bs x hx (by grind);obtain⟨⟨q,k1,k2⟩,k3⟩:=pI (zU 3) hbs;have hqA:q=A:=by have:=congrArg bG (k2.symm.trans h1);rw[dR,dR]at this;cases this;rfl
  subst hqA;subst e1;refine⟨⟨(s::bK (gp 3 σ) rest).map aM,aP.sto [(s,some (.row ty' t' (l' x)))],?_,?_⟩,trivial⟩
  rotate_left
  .exact bX.flat (rd:=s::bK (gp 3 σ) rest) (W:=[(s,some (.row ty' t' (l' x)))]) λq hq=>by rw[bh.1 hq,hs];exact⟨rfl,rfl⟩
  have:=Kz (σ:=σ.a) (n:=n) (k:=l.length) (s:=aM s) (rest:=avs rest) (A:=q) ho hc hfv (by rw[avl,hxs];rfl) (by rw[Sg.cH,hs];rfl) (nL t'.kF) e2 k1 (by rw[k3];intro hm;obtain⟨y,hy,e⟩:=bM.1 hm;exact AI hmem (by rw[<-kn e];exact hy)) (EA hfl _) h2
  rw[k3]at this;exact this
 .rename_i z lt a m rest hxs;split at h
  case h_2=>cases h
  rename_i tyo ity t' L ov bs hs hbs;split at h
  case h_2=>cases h
  rename_i ht hty hb;subst ht;split at h<;>cases h;rename_i x hx;have hb:=dM hb;have e0:a<L.length:=hp _ (by grind);have e1:m=(L.getD a []).length:=hp _ (by grind);have e2:0<m:=hp _ (by grind);have hov:ov.lookup a=none:=rb λp hq=>hp p (by grind);obtain⟨A,h1,h2⟩:=hC _ bs x hx (λp hq=>hp p (by grind));obtain⟨⟨q,k1,k2⟩,k3⟩:=pI (zU 3) hbs;have hqA:q=A:=by have:=congrArg bG (k2.symm.trans h1);rw[dR,dR]at this;cases this;rfl
  have hob:Sg.a σ (inn z (a+1))=some ⟨ity,t'.w,(t'.enc (L.getD a [])).map .p⟩:=by rw[Sg.fQ,hs];show SOb.inner a (.fam tyo ity t' L ov)=_;unfold SOb.inner;dsimp only;rw[hov,de,eZ e0];rfl
  have hlen:(l' x).length=(L.getD a []).length:=by have:=h2.2.1;rw[t'.wide.length,t'.wide.length]at this;exact Nat.eq_of_mul_eq_mul_right t'.kF this
  refine⟨⟨inn z (a+1)::bK (ff 3 σ.a) (avs rest),_,?_,bX.rset (l':=l' x) hs hov e0 hlen ?_⟩,trivial⟩
  .exact Kz (σ:=σ.a) (n:=n) (k:=m) (s:=inn z (a+1)) (rest:=avs rest) (A:=q) ho hc hfv (by rw[avl,hxs];rfl) hob (nL t'.kF) e2 k1 (by rw[k3];intro hm;obtain⟨y,hy,e⟩:=bM.1 hm;have:=(fD e).2;omega) (EA hfl _) (by grind)
  .intro t ht;rcases bO.1 ht with rfl|ht
   .rw[fG];grind
   .rw[k3]at ht;exact cB _ (I3 _ t ht)
 .cases h
def Bg:SV->Option (Nat×Nat)
 | .agg l=>LT.P.dec l
 |_=>none
def jw(k:Nat×Nat):List Int:=[(k.1:Int),(k.2:Int)]
def Lr{x:SV}{k:Nat×Nat}(h:Bg x=some k):x.av= .p (.agg (kf (jw k))):=by
 unfold Bg at h;split at h
 .have:=LT.xt h;show eK (avs _)=_;rw[this,rW];rfl
 .cases h
def kJ(ks:List (Nat×Nat))(k:Nat×Nat):List (Nat×Nat):=if k∈ks then ks else ks++[k]
def ME{k l:Nat×Nat}(h:jw k=jw l):k=l:=by unfold jw at h;grind
def KA(k:Nat×Nat):∀ks:List (Nat×Nat),n9 (gI ks) (jw k) (.p (.bool false))= .p (.bool (decide (k∈ks)))
 |[] =>rfl
 |l::ks=>by
  show(if jw l=jw k then AV.p (.bool true)else n9 (gI ks) (jw k) (.p (.bool false)))=_;by_cases e:l=k
  .grind
  .rw[if_neg (λh=>e (ME h)),KA k ks];grind
def LR(k:Nat×Nat):∀ks:List (Nat×Nat),ju (gI ks) (jw k) (.p (.bool true))=gI (kJ ks k)
 |[] =>rfl
 |l::ks=>by
  show(if jw l=jw k then(jw k,AV.p (.bool true))::gI ks else(jw l,AV.p (.bool true))::ju (gI ks) (jw k) (.p (.bool true)))=_;by_cases e:l=k
  .subst e;rw[if_pos rfl];unfold kJ;rw[if_pos (by grind)];rfl
  .rw[if_neg (λh=>e (ME h)),LR k ks];have:k≠l:=λh=>e h.symm;unfold kJ;by_cases h2:k∈ks
   .rw[if_pos h2,if_pos (by grind)];rfl
   .rw[if_neg h2,if_neg (by grind)];rfl
def KB{ks:List (Nat×Nat)}(h:ks.Nodup):rD (gI ks):=by unfold rD gI;grind
def LS{ks:List (Nat×Nat)}:∀q∈gI ks,q.1.length=2:=by intro q hq;obtain⟨k,_,rfl⟩:=bM.1 hq;rfl
def smk(X:Cx)(n:Nat)(σ:Sg)(t:TypeId):SR:=match X.mt t,frs σ n with
 |true,true=>some ([],.mp n,[],[(n,some (.mp []))])
 |_,_=>none
def Z8{X:Cx}{n:Nat}{o:Oper}{E:SE}{σ:Sg}{t:TypeId}(ho:o.op= .makeMap t none):mG X.P n o E σ (smk X n σ t):=by intro ps r rd W h hp;unfold smk at h;split at h<;>cases h;rename_i h1 h2;obtain⟨hn1,hn2⟩:=ls h2;refine⟨⟨[],aP.sto [(n,some (.mp []))],?_,bX.flat (rd:=[]) (W:=[(n,some (.mp []))]) λq hq=>by rw[bh.1 hq,hn2];exact⟨rfl,rfl⟩⟩,trivial⟩;have:=Tk (P:=X.P) (E:=E.a) (σ:=σ.a) (n:=n) ho;show bR _ _ _ _ _ (.mp (aM n)) _ [(aM n,some ⟨1,0,[]⟩)];grind
def Gh(X:Cx)(σ:Sg)(t:TypeId)(x i:SV):SR:=match X.mt t,x,Bg i with
 |true,.mp s,some k=>(match σ s with
  |some (.mp ks)=>some ([ks.Nodup],.prop (k∈ks) inferInstance,[s],[])
  |_=>none)
 |_,_,_=>none
def XG{X:Cx}(hX:X.Ok){n:Nat}{o:Oper}{E:SE}{σ:Sg}{t:TypeId}{x i:Operand}(ho:o.op= .lookup t x i false):mG X.P n o E σ (Gh X σ t (E x) (E i)):=by
 intro ps r rd W h hp;unfold Gh at h;split at h
 case h_2=>cases h
 rename_i s k hmt hx hi;split at h<;>cases h;rename_i ks hs;obtain⟨kt,et,g1,g2,g3⟩:=hX.2.2 t hmt;have hnd:ks.Nodup:=hp _ (by grind);refine⟨⟨[s].map aM,[],?_,bX.read σ [s]⟩,trivial⟩;have:=Ud (E:=E.a) (σ:=σ.a) (n:=n) (m:=2) (s:=aM s) (ks:=gI ks) (xs:=jw k) (z:= .p (.bool false)) (zv:= .bool false) ho g1 g2 g3 (λρ C=>by rfl) (by show(E x).av=_;rw[hx];rfl) (by exact Lr hi) rfl (by rw[Sg.cH,hs];rfl) LS (KB hnd);rw[KA]at this;exact this
def HB(X:Cx)(σ:Sg)(t:TypeId)(x i y:SV):SR:=match X.mt t,x,Bg i,y with
 |true,.mp s,some k,.lit true=>(match σ s with
  |some (.mp ks)=>some ([ks.Nodup],.undef,[s],[(s,some (.mp (kJ ks k)))])
  |_=>none)
 |_,_,_,_=>none
def Yh{X:Cx}(hX:X.Ok){n:Nat}{o:Oper}{E:SE}{σ:Sg}{t:TypeId}{x i y:Operand}(ho:o.op= .mapUpdate t x i y):mG X.P n o E σ (HB X σ t (E x) (E i) (E y)):=by
 intro ps r rd W h hp;unfold HB at h;split at h
 case h_2=>cases h
 rename_i s k hmt hx hi hy;split at h<;>cases h;rename_i ks hs;obtain⟨kt,et,g1,g2,g3⟩:=hX.2.2 t hmt;have hnd:ks.Nodup:=hp _ (by grind);refine⟨⟨[s].map aM,aP.sto [(s,some (.mp (kJ ks k)))],?_,bX.flat (rd:=[s]) (W:=[(s,some (.mp (kJ ks k)))]) λq hq=>by rw[bh.1 hq,hs];exact⟨rfl,rfl⟩⟩,trivial⟩;have:=S5 (E:=E.a) (σ:=σ.a) (n:=n) (m:=2) (s:=aM s) (ks:=gI ks) (xs:=jw k) ho g1 g2 (by show(E x).av=_;rw[hx];rfl) (by exact Lr hi) rfl (by rw[Sg.cH,hs];rfl) LS (KB hnd);rw[show E.a y= .p (.bool true)from by show(E y).av=_;rw[hy];rfl,LR]at this;exact this
def orS(a b:SR):SR:=match a with
 |some x=>some x
 |none=>b
def BE{P:Program}{n:Nat}{o:Oper}{E:SE}{σ:Sg}{a b:SR}(ha:mG P n o E σ a)(hb:mG P n o E σ b):mG P n o E σ (orS a b):=by
 intro ps r rd W h hp;cases a with
 |some x=>exact ha ps r rd W h hp
 |none=>exact hb ps r rd W h hp
def Gf(X:Cx)(n:Nat)(σ:Sg)(fv:SV)(xs:List SV):SR:=match vB fv with
 |none=>none
 |some f=>(match X.T f with
  |some ⟨_,dec,pre,.own ty t l ys⟩=>(match jv (kH 3 σ) xs with
   |some (qs,bs)=>(match dec bs,frs σ n,qw t with
    |some x,true,true=>(match ys x with
     |[] =>some (qs++pre x,.own n t (l x).length,bK (dP 3 σ) xs,[(n,some (.row ty t (l x)))])
     |_=>none)
    |_,_,_=>none)
   |none=>none)
  |_=>none)
def XA{X:Cx}(hX:X.Ok){n:Nat}{o:Oper}{E:SE}{σ:Sg}{c:Call}{f:Operand}(ho:o.op= .call c)(hc:c.callee= .value f):mG X.P n o E σ (Gf X n σ (E f) (c.args.toList.map E)):=by
 intro ps r rd W h hp;unfold Gf at h;split at h
 .cases h
 rename_i fid hf;split at h
 case h_2=>cases h
 rename_i Y dec pre ty t l ys hT;split at h
 case h_2=>cases h
 rename_i qs bs hbs;split at h
 case h_2=>cases h
 rename_i x hx hfr hfl;split at h<;>cases h;rename_i hys;have avl:c.args.toList.map E.a=avs (c.args.toList.map E):=by rw[im,cv];rfl
 obtain⟨A,Y2,h1,h2,h3⟩:=hX.1 fid _ hT bs x hx (λp hq=>hp p (by grind));obtain⟨q,k1,k2⟩:=xP (λx ps y=>EU) hbs (λp hq=>hp p (by grind));have hqA:q=A:=by have:=congrArg bG (k2.symm.trans h1);rw[dR,dR]at this;cases this;rfl
 subst hqA;have hY:Y2=[] :=by
  rw[hys]at h2;cases Y2 with
  |nil=>rfl
  |cons y Y2=>cases h2
 subst hY;obtain⟨hn1,hn2⟩:=ls hfr;have:=Wg (σ:=σ.a) (n:=n) ho hc (Al hf) (by rw[avl];exact k1) (EA hfl _) h3;rw[avl]at this;refine⟨⟨_,aP.sto [(n,some (.row ty t (l x)))],?_,⟨qT (NN 3) _,(bX.flat (rd:=[]) (W:=[(n,some (.row ty t (l x)))]) λq hq=>by rw[bh.1 hq,hn2];exact⟨rfl,rfl⟩).2⟩⟩,trivial⟩;show bR _ _ _ _ _ (.own (aM n) 0 _) _ [(aM n,some _)];rw[hn1];exact this
def HD(X:Cx)(n:Nat)(o:Op)(E:SE)(σ:Sg):SR:=match o with
 | .call {callee:= .value f,args, .. }=>orS (um (Ga X n σ (E f) (args.toList.map E))) (orS (Gc X n σ (E f) (args.toList.map E)) (orS (Gb X σ (E f) (args.toList.map E)) (Gf X n σ (E f) (args.toList.map E))))
 | .makeMap t none=>smk X n σ t
 | .lookup t x i false=>Gh X σ t (E x) (E i)
 | .mapUpdate t x i y=>HB X σ t (E x) (E i) (E y)
 |_=>none
def Yk{X:Cx}(hX:X.Ok){n:Nat}{o:Oper}{E:SE}{σ:Sg}:mG X.P n o E σ (HD X n o.op E σ):=by
 generalize ho:o.op=op;unfold HD;split
 .exact BE (W5 hX ho rfl) (BE (W8 hX ho rfl) (BE (W7 hX ho rfl) (XA hX ho rfl)))
 .exact Z8 ho
 .exact XG hX ho
 .exact Yh hX ho
 .intro ps r rd W h hp;cases h
def RW(X:Cx)(raw:Bool)(n:Nat)(o:Op)(E:SE)(σ:Sg):SR:=orS (sop X raw n o E σ) (HD X n o E σ)
def Yj{X:Cx}(hX:X.Ok){raw:Bool}{n:Nat}{o:Oper}{E:SE}{σ:Sg}(hE:∀x,(E x).ok):mG X.P n o E σ (RW X raw n o.op E σ):=by refine BE ?_ (Yk hX);intro ps r rd W h hp;obtain⟨h1,h2⟩:=Z7 hX hE h hp;obtain⟨r',R',W',h3,rfl,h4⟩:=Wm h1;grind
end
noncomputable section
def jC{P:Program}{N:Nat}{ds:List (Option Nat)}{K K':List AV->Sto->iu->Prop}(hK:∀F L log,K F L log->K' F L log):∀{l:List Oper} {i:Nat} {F:List AV} {L:Sto} {log:iu},eP P N ds l i F L log K->eP P N ds l i F L log K'
 |[],i,F,L,log,h=>by unfold eP at*;grind
 |o::rest,i,F,L,log,h=>by
  unfold eP at*;split at h
  .obtain⟨r,R,W,Rc,Wc,h1,i1,i2,h2⟩:=h;exact⟨r,R,W,Rc,Wc,h1,i1,i2,jC hK h2⟩
  .split at h
   .split at h
    .rename_i e;rw[if_pos e];obtain⟨r,R,W,Rc,Wc,h1,i1,i2,h2⟩:=h;exact⟨r,R,W,Rc,Wc,h1,i1,i2,jC hK h2⟩
    .rename_i e;rw[if_neg e];exact jC hK h
   .exact jC hK h
   .exact h
def sn.mono{P:Program}{o:Oper}{F:List AV}{L:Sto}{N:Nat}{K K':List AV->Sto->Nat->Prop}(hK:∀F L N,K F L N->K' F L N)(h:sn P o F L N K):sn P o F L N K':=
 λC0 B wI a w hS=>zL (h C0 B wI a w hS) λ_ _ ⟨F',L',N',h1,h2⟩=>⟨F',L',N',hK _ _ _ h1,h2⟩
def mX{P:Program}:∀(c:Code) {Q Q':oM} (_:∀e F L N,Q e F L N->Q' e F L N) {F:List AV} {L:Sto} {N:Nat},awp P c Q F L N->awp P c Q' F L N:=by
 intro c;induction c with
 |skip=>intro Q Q' hQ F L N h;exact hQ _ _ _ _ h
 |region id ops draw=>
  intro Q Q' hQ F L N h;rcases h with h|⟨hd,pre,o,h1,h2,h3⟩
  rotate_left
  .exact .inr ⟨hd,pre,o,h1,h2,jC (λF L log a=>a.mono λF L N=>hQ _ _ _ _) h3⟩
  cases draw with
  |true=>obtain⟨anc,h1,h2,h3,h4⟩:=h;exact .inl ⟨anc,h1,h2,h3,jC (λF L log ⟨a,b⟩=>⟨a,hQ _ _ _ _ b⟩) h4⟩
  |false=>obtain⟨h1,h2⟩:=h;exact .inl ⟨h1,jC (λF L log a=>hQ _ _ _ _ a) h2⟩
 |seq a b iha ihb=>
  intro Q Q' hQ F L N h;obtain⟨M,h1,h2⟩:=h;refine⟨M,iha ?_ h1,λF L N hm=> ?_⟩
  .grind
  grind
 |cond c t e iht ihe=>
  intro Q Q' hQ F L N h;obtain⟨b,hb,h1,h2⟩:=h;exact⟨b,hb,λe=>iht hQ (h1 e),λe=>ihe hQ (h2 e)⟩
 |block id c ih=>
  intro Q Q' hQ F L N h;refine ih ?_ h;grind
 |loop c ih=>
  intro Q Q' hQ F L N h;obtain⟨Inv,μ,h1,h2⟩:=h;refine⟨Inv,μ,h1,λF L N hi=>ih ?_ (h2 F L N hi)⟩;grind
 |exit id=>intro Q Q' hQ F L N h;exact hQ _ _ _ _ h
 |ret=>intro Q Q' hQ F L N h;exact hQ _ _ _ _ h
 |rangeFunc f params x y _ _=>intro Q Q' hQ F L N h;exact h.elim
 |scope c ih=>
  intro Q Q' hQ F L N h;refine ih ?_ h;grind
 |label l=>intro Q Q' hQ F L N h;exact hQ _ _ _ _ h
 |goto l=>intro Q Q' hQ F L N h;exact h.elim
 |refuse s=>intro Q Q' hQ F L N h;exact h.elim
def Frm.ok(F:Frm):Prop:=∀t,(F.at t).ok
def Z3(v:Value):(svC v).ok:=by
 unfold svC;split
 .split<;>trivial
 .split<;>trivial
 .unfold svK;split<;>trivial
def YC{n:Nat}{F:Frm}(h:F.ok)(x:Operand):(sW n F x).ok:=by
 cases x with
 |tmp t=>
  show(match iM t n with|true=>F.at t|false=>SV.any).ok;split
  .exact h t
  .trivial
 |const v=>exact Z3 v
 |func f=>trivial
 |global g=>trivial
def Frm.Nb{F:Frm}(h:F.ok){d:Nat}{v:SV}(hv:v.ok):Frm.ok ((d,v)::F):=by
 intro t;rw[Frm.kz];split
 .exact hv
 .exact h t
def oP(n:Nat)(F:Frm)(d:Option Nat)(r:SV):Frm:=match d with
 |none=>F
 |some d=>(match iM d n with|true=>(d,r)::F|false=>F)
def jn(a b:Nat):iM a b=true↔a<b:=by simp_all
def Wi{a b:Nat}(h:iM a b=false):¬a<b:=λhh=>by rw[(jn a b).2 hh]at h;cases h
def FS{n:Nat}{F:Frm}{d:Option Nat}{r:SV}:eL (F.av n) d r.av=(oP n F d r).av n:=by
 cases d with
 |none=>rfl
 |some d=>
  unfold oP;dsimp only;split
  .rename_i h;exact Frm.aAP ((jn _ _).1 h)
  .rename_i h;unfold eL;dsimp only;rw[List.set_eq_of_length_le (by rw[Frm.jB];exact Nat.le_of_not_lt (Wi h))]
def Pre(S:Nat->Prop)(F F':Frm):Prop:=∃pre:Frm,F'=pre++F/\∀q∈pre,S q.1
def gL(L L':aP):Prop:=∃pre:aP,L'=pre++L
def Pre.rfl{S:Nat->Prop}{F:Frm}:Pre S F F:=⟨[],by simp,λq h=>by cases h⟩
def Pre.trans{S:Nat->Prop}{F G H:Frm}(h1:Pre S F G)(h2:Pre S G H):Pre S F H:=by obtain⟨p,rfl,hp⟩:=h1;obtain⟨q,rfl,hq⟩:=h2;exact⟨q++p,by simp,λr hr=>by grind⟩
def Pre.mono{S T:Nat->Prop}{F G:Frm}(h1:Pre S F G)(h:∀d,S d->T d):Pre T F G:=by obtain⟨p,e,hp⟩:=h1;exact⟨p,e,λq hq=>h _ (hp q hq)⟩
def gL.rfl{L:aP}:gL L L:=⟨[],by simp⟩
def gL.trans{L M O:aP}(h1:gL L M)(h2:gL M O):gL L O:=by obtain⟨p,rfl⟩:=h1;obtain⟨q,rfl⟩:=h2;exact⟨q++p,by simp⟩
def Ec{n:Nat}{F:Frm}{d:Option Nat}{r:SV}{S:Nat->Prop}(h:∀t,d=some t->S t):Pre S F (oP n F d r):=by
 cases d with
 |none=>exact Pre.rfl
 |some d=>
  unfold oP;dsimp only;split
  .exact⟨[(d,r)],by simp,λq hq=>by grind⟩
  .exact Pre.rfl
def FR{n:Nat}{F:Frm}{d:Option Nat}{r:SV}(h:F.ok)(hr:r.ok):(oP n F d r).ok:=by
 cases d with
 |none=>exact h
 |some d=>
  unfold oP;dsimp only;split
  .exact Frm.Nb h hr
  .exact h
def oV(X:Cx)(n:Nat)(raw:Bool)(N i:Nat)(o:Oper)(F:Frm)(L:aP)(log:iu)(k:Frm->aP->iu->Fm):Fm:=match RW X raw (N+i) o.op (sW n F) L.at with
 |some (ps,r,R,W)=>qt ps (k (oP n F o.dst r) (W++L) (log++[(R.map ncl,W.map λ(q:Nat×Option SOb)=>ncl q.1)]))
 |none=> .stuck i
def m8(n:Nat)(o:Oper)(F:Frm)(L:aP)(log:iu)(k:Frm->aP->iu->Fm):Fm:=k (oP n F o.dst .undef) L (log++[([],[])])
def gE(X:Cx)(n:Nat)(raw:Nat->Bool)(N:Nat)(ds:List (Option Nat)):List Oper->Nat->Frm->aP->iu->(Frm->aP->iu->Fm)->Fm
 |[],_,F,L,log,K=>K F L log
 |o::rest,i,F,L,log,K=>match o.guard with
  |none=>oV X n (raw i) N i o F L log λF L log=>gE X n raw N ds rest (i+1) F L log K
  |some (j,want)=>(match(ds[j]?).join with
   |some d=>(match iM d n,F.at d with
    |true,.lit b=>(match b,want with
     |true,false=>m8 n o F L log λF L log=>gE X n raw N ds rest (i+1) F L log K
     |false,true=>m8 n o F L log λF L log=>gE X n raw N ds rest (i+1) F L log K
     |_,_=>oV X n (raw i) N i o F L log λF L log=>gE X n raw N ds rest (i+1) F L log K)
    |true,.undef=>m8 n o F L log λF L log=>gE X n raw N ds rest (i+1) F L log K
    |true,.prop p _=> .both
     (.imp p (match want with
       |true=>oV X n (raw i) N i o ((d,.lit true)::F) L log λF L log=>gE X n raw N ds rest (i+1) F L log K
       |false=>m8 n o ((d,.lit true)::F) L log λF L log=>gE X n raw N ds rest (i+1) F L log K))
     (.imp (¬p) (match want with
       |false=>oV X n (raw i) N i o ((d,.lit false)::F) L log λF L log=>gE X n raw N ds rest (i+1) F L log K
       |true=>m8 n o ((d,.lit false)::F) L log λF L log=>gE X n raw N ds rest (i+1) F L log K))
    |true,.bool c=> .both
     (.imp (c=true) (match want with
       |true=>oV X n (raw i) N i o ((d,.lit true)::F) L log λF L log=>gE X n raw N ds rest (i+1) F L log K
       |false=>m8 n o ((d,.lit true)::F) L log λF L log=>gE X n raw N ds rest (i+1) F L log K))
     (.imp (c=false) (match want with
       |false=>oV X n (raw i) N i o ((d,.lit false)::F) L log λF L log=>gE X n raw N ds rest (i+1) F L log K
       |true=>m8 n o ((d,.lit false)::F) L log λF L log=>gE X n raw N ds rest (i+1) F L log K))
    |_,_=> .stuck i)
   |none=> .stuck i)
def Frm.Zt{n:Nat}{F:Frm}{d:Nat}{v:SV}(h:v.av=(F.at d).av):Frm.av n ((d,v)::F)=F.av n:=by unfold Frm.av;apply iy;intro t _;rw[Frm.kz];grind
def aP.fn(L:aP):Sto:=Sg.a L.at
def gW(n:Nat)(S:Nat->Prop)(F:Frm)(L:aP)(FA:List AV)(LA:Sto)(G:Frm->aP->Prop):Prop:=∃F' L',FA=F'.av n/\LA=L'.fn/\F'.ok/\Pre S F F'/\gL L L'/\G F' L'
def gW.step{n:Nat}{S:Nat->Prop}{F F1:Frm}{L L1:aP}{FA:List AV}{LA:Sto}{G:Frm->aP->Prop}(h1:Pre S F F1)(h2:gL L L1)(h:gW n S F1 L1 FA LA G):gW n S F L FA LA G:=by obtain⟨F',L',a,b,c,d,e,f⟩:=h;exact⟨F',L',a,b,c,h1.trans d,h2.trans e,f⟩
def xM{X:Cx}(hX:X.Ok){n:Nat}{raw:Nat->Bool}{N:Nat}{ds:List (Option Nat)}{K:Frm->aP->iu->Fm}:
  ∀(l:List Oper) (i:Nat) (F:Frm) (L:aP) (log:iu),(∀o∈l,o.dst∈ds)->F.ok->(gE X n raw N ds l i F L log K).holds->
   eP X.P N ds l i (F.av n) L.fn log λFA LA log'=>gW n (λd=>some d∈ds) F L FA LA λF' L'=>(K F' L' log').holds
 |[],i,F,L,log,_,hF,h=>by
  unfold gE at h;unfold eP;exact⟨F,L,rfl,rfl,hF,Pre.rfl,gL.rfl,h⟩
 |o::rest,i,F,L,log,hd,hF,h=>by
  have hd':∀o∈rest,o.dst∈ds:=λo ho=>hd o (cB _ ho);have hod:∀t,o.dst=some t->some t∈ds:=λt ht=>by grind
  have run:∀F:Frm,F.ok->(oV X n (raw i) N i o F L log λF L log=>gE X n raw N ds rest (i+1) F L log K).holds->
    ∃r R W Rc Wc,bR X.P o (jt (F.av n)) L.fn (N+i) r R W/\inC R Rc/\inC (W.map (·.1)) Wc/\eP X.P N ds rest (i+1) (eL (F.av n) o.dst r) (ao L.fn W) (log++[(Rc,Wc)]) λFA LA log'=>gW n (λd=>some d∈ds) F L FA LA λF' L'=>(K F' L' log').holds:=by
   intro F hF h;unfold oV at h;split at h
   .rename_i ps r R W hs;obtain⟨h1,h2⟩:=rQ h;obtain⟨⟨R',W',h5,f1,f2,f3⟩,h4⟩:=Yj hX (YC hF) _ _ _ _ hs h1;have e1:SE.a (sW n F)=jt (F.av n):=funext λx=>Ev x;rw[e1]at h5;refine⟨r.av,R',W',_,_,h5,f1,f2,?_⟩;have e3:ao L.fn W'=aP.fn (W++L):=by unfold aP.fn;rw[f3,aP.BU]
    rw[FS,e3];exact jC (λ_ _ _=>gW.step (Ec hod) ⟨W,rfl⟩) (xM hX rest (i+1) _ _ _ hd' (FR hF h4) h2)
   .exact h.elim
  have skip:∀F:Frm,F.ok->(m8 n o F L log λF L log=>gE X n raw N ds rest (i+1) F L log K).holds->
    eP X.P N ds rest (i+1) (eL (F.av n) o.dst .undef) L.fn (log++[([],[])]) λFA LA log'=>gW n (λd=>some d∈ds) F L FA LA λF' L'=>(K F' L' log').holds:=by
   intro F hF h;unfold m8 at h;have:=xM hX rest (i+1) _ _ _ hd' (FR (n:=n) (d:=o.dst) hF (show SV.ok .undef from trivial)) h;rw[<-FS]at this;exact jC (λ_ _ _=>gW.step (Ec hod) gL.rfl) this
  unfold gE at h;unfold eP;split at h
  .grind
  .rename_i j want hg;rw[hg];dsimp only;split at h
   case h_2=>exact h.elim
   rename_i d hdj;have hds:some d∈ds:=by
    cases hx:ds[j]? with
    |none=>grind
    |some y=>grind
   have gd:∀F:Frm,d<n->gdA ds (F.av n) j=(match(F.at d).av with| .p (.bool b)=>some (some b)| .undef=>some none|_=>none):=by intro F hlt;unfold gdA;rw[hdj];dsimp only;rw[Frm.lv hlt];rfl
   have split1:∀(b:Bool),d<n->(F.at d).av= .p (.bool b)->(match want with
      |true=>(match b with
       |true=>oV X n (raw i) N i o ((d,.lit true)::F) L log λF L log=>gE X n raw N ds rest (i+1) F L log K
       |false=>m8 n o ((d,.lit false)::F) L log λF L log=>gE X n raw N ds rest (i+1) F L log K)
      |false=>(match b with
       |true=>m8 n o ((d,.lit true)::F) L log λF L log=>gE X n raw N ds rest (i+1) F L log K
       |false=>oV X n (raw i) N i o ((d,.lit false)::F) L log λF L log=>gE X n raw N ds rest (i+1) F L log K)).holds->
     (match(gdA ds (F.av n) j:Option (Option Bool))with
       |some (some b)=>if b=want then∃r R W Rc Wc,bR X.P o (jt (F.av n)) L.fn (N+i) r R W/\inC R Rc/\inC (W.map (·.1)) Wc/\eP X.P N ds rest (i+1) (eL (F.av n) o.dst r) (ao L.fn W) (log++[(Rc,Wc)]) (λFA LA log'=>gW n (λd=>some d∈ds) F L FA LA λF' L'=>(K F' L' log').holds)
        else eP X.P N ds rest (i+1) (eL (F.av n) o.dst .undef) L.fn (log++[([],[])]) (λFA LA log'=>gW n (λd=>some d∈ds) F L FA LA λF' L'=>(K F' L' log').holds)
       |some none=>eP X.P N ds rest (i+1) (eL (F.av n) o.dst .undef) L.fn (log++[([],[])]) (λFA LA log'=>gW n (λd=>some d∈ds) F L FA LA λF' L'=>(K F' L' log').holds)
       |none=>False):=by
    intro b hlt hb h;rw[gd F hlt,hb];dsimp only;have e0:∀c,c=b->Frm.av n ((d,.lit c)::F)=F.av n:=λc hc=>Frm.Zt (by rw[hb,hc];rfl);have hpre:∀c,Pre (λd=>some d∈ds) F ((d,SV.lit c)::F):=λc=>⟨[(d,.lit c)],rfl,λq hq=>by grind⟩;have up:∀c FA LA (G:Frm->aP->Prop),gW n (λd=>some d∈ds) ((d,SV.lit c)::F) L FA LA G->gW n (λd=>some d∈ds) F L FA LA G:=λc FA LA G=>gW.step (hpre c) gL.rfl;have hok:∀c,Frm.ok ((d,SV.lit c)::F):=λc=>Frm.Nb hF (show SV.ok (.lit c)from trivial);cases want<;>cases b<;>dsimp only at h
    .rw[if_pos rfl];have:=run _ (hok false) h;rw[e0 false rfl]at this;obtain⟨r,R,W,Rc,Wc,h1,i1,i2,h2⟩:=this;exact⟨r,R,W,Rc,Wc,h1,i1,i2,jC (λ_ _ _=>up false _ _ _) h2⟩
    .rw[if_neg (by decide)];have:=skip _ (hok true) h;rw[e0 true rfl]at this;exact jC (λ_ _ _=>up true _ _ _) this
    .rw[if_neg (by decide)];have:=skip _ (hok false) h;rw[e0 false rfl]at this;exact jC (λ_ _ _=>up false _ _ _) this
    .rw[if_pos rfl];have:=run _ (hok true) h;rw[e0 true rfl]at this;obtain⟨r,R,W,Rc,Wc,h1,i1,i2,h2⟩:=this;exact⟨r,R,W,Rc,Wc,h1,i1,i2,jC (λ_ _ _=>up true _ _ _) h2⟩
   split at h
   .rename_i b hlt hb;have hlt:=(jn _ _).1 hlt;rw[gd F hlt,hb];show(if b=want then _ else _);cases b<;>cases want<;>dsimp only at h
    .grind
    .grind
    .grind
    grind
   .rename_i hlt hb;have hlt:=(jn _ _).1 hlt;rw[gd F hlt,hb];exact skip F hF h
   .rename_i p dec hlt hb;obtain⟨h1,h2⟩:=Fm.tU h;have hlt:=(jn _ _).1 hlt;have hav:(F.at d).av= .p (.bool (@decide p dec)):=by rw[hb];rfl
    by_cases hp:p
    .refine split1 true hlt (by grind) ?_;have h1:=(h1:p->_) hp;omega
    .refine split1 false hlt (by grind) ?_;have h2:=(h2:¬p->_) hp;grind
   .rename_i c hlt hb;obtain⟨h1,h2⟩:=Fm.tU h;have hlt:=(jn _ _).1 hlt;have hav:(F.at d).av= .p (.bool c):=by rw[hb];rfl
    cases c with
    |true=>
     refine split1 true hlt hav ?_;have h1:=(h1:(true=true)->_) rfl;omega
    |false=>
     refine split1 false hlt hav ?_;have h2:=(h2:(false=false)->_) rfl;grind
   .exact h.elim
end
noncomputable section
abbrev Rm:=List (Nat×Option Nat)
def l7:Rm->Nat->Option (Option Nat)
 |[],_=>none
 |(k,x)::m,s=>match bB s k with|true=>some x|false=>l7 m s
def oU(f:SV->SV->Option (List Prop×Rm)):List SV->List SV->Option (List Prop×Rm)
 |[],[] =>some ([],[])
 |x::l,y::r=>(match f x y,oU f l r with
  |some (p,m),some (q,k)=>some (p++q,m++k)
  |_,_=>none)
 |_,_=>none
def Hc:SV->SV->Option (List Prop×Rm)
 | .any,_=>some ([],[])
 | .undef,.undef=>some ([],[])
 | .nil,.nil=>some ([],[])
 | .int k a,.int k' b=>(match decEq k k' with| .isTrue _=>some ([b=a],[])| .isFalse _=>none)
 | .bool a,.bool b=>some ([b=a],[])
 | .bool a,.lit b=>some ([b=a],[])
 | .bool a,.prop p d=>some ([@decide p d=a],[])
 | .lit a,.lit b=>some ([b=a],[])
 | .lit a,.bool b=>some ([b=a],[])
 | .lit a,.prop p d=>some ([@decide p d=a],[])
 | .prop p _,.prop q _=>some ([q↔p],[])
 | .prop p d,.bool b=>some ([b= @decide p d],[])
 | .prop p d,.lit b=>some ([b= @decide p d],[])
 | .str a,.str b=>some ([b=a],[])
 | .lst t l,.lst t' l'=>(match decEq t' t with| .isTrue h=>some ([(h▸l':List t.ty)=l],[])| .isFalse _=>none)
 | .lst _ l,.sl 0 [] =>some ([l=[]],[])
 | .lst t l,.sl n cs=>(match t.decs n cs with|some l'=>some ([l'=l],[])|none=>none)
 | .ptr s off,.ptr s' off'=>(match bB off off' with|true=>some ([],[(s,some s')])|false=>none)
 | .own s t n,.own s' t' n'=>(match decEq t' t with| .isTrue _=>some ([n'=n],[(s,some s')])| .isFalse _=>none)
 | .own s _ n,.ownx s' n'=>some ([n'=n],[(s,some s')])
 | .own s _ n,.nil=>some ([n=0],[(s,none)])
 | .ownx s n,.ownx s' n'=>(match bB n n' with|true=>some ([],[(s,some s')])|false=>none)
 | .owF s n,.owF s' n'=>some ([n'=n],[(s,some s')])
 | .mp s,.mp s'=>some ([],[(s,some s')])
 | .junk,.junk=>some ([],[])
 |_,_=>none
def eqv:Nat->SV->SV->Option (List Prop×Rm)
 |d+1,.agg l,.agg r=>oU (eqv d) l r
 |d+1,.tup l,.tup r=>oU (eqv d) l r
 |d+1,.fn f a b,.fn f' a' b'=>(match bB f f',oU (eqv d) a a',oU (eqv d) b b' with
  |true,some (p,m),some (q,k)=>some (p++q,m++k)
  |_,_,_=>none)
 |_,x,y=>Hc x y
def jq(m:Rf)(r:Rm):Prop:=∀q∈r,m (aM q.1)=some (q.2.map aM)
def jq.left{m:Rf}{r k:Rm}(h:jq m (r++k)):jq m r:=λq hq=>h q (gZ _ hq)
def jq.right{m:Rf}{r k:Rm}(h:jq m (r++k)):jq m k:=λq hq=>h q (fY _ hq)
def qV{f:SV->SV->Option (List Prop×Rm)}{m:Rf}(hf:∀x y ps r,f x y=some (ps,r)->(∀p∈ps,p)->jq m r->cN m x.av y.av):
  ∀{l k:List SV} {ps:List Prop} {r:Rm},oU f l k=some (ps,r)->(∀p∈ps,p)->jq m r->eo m (avs l) (avs k)
 |[],[],ps,r,_,_,_=>by simp only[avs];unfold eo;rfl
 |[],_::_,ps,r,h,_,_=>by cases h
 |_::_,[],ps,r,h,_,_=>by cases h
 |x::l,y::k,ps,r,h,hp,hm=>by
  unfold oU at h;split at h<;>cases h;rename_i p m1 q m2 h1 h2;rw[avs,avs];unfold eo;exact⟨_,_,rfl,hf x y p m1 h1 (λa ha=>hp a (gZ _ ha)) hm.left,qV hf h2 (λa ha=>hp a (fY _ ha)) hm.right⟩
def MS{m:Rf}{x y:SV}{ps:List Prop}{r:Rm}(h:Hc x y=some (ps,r))(hp:∀p∈ps,p)(hm:jq m r):cN m x.av y.av:=by
 unfold Hc at h;split at h
 .simp only[SV.av];unfold cN;trivial
 .simp only[SV.av];unfold cN;rfl
 .simp only[SV.av];unfold cN;rfl
 .split at h<;>cases h;rename_i e _;subst e;refine dK ?_;rw[<-hp _ (bh.2 rfl)];rfl
 .cases h;refine dK ?_;rw[<-hp _ (bh.2 rfl)];rfl
 .cases h;refine dK ?_;rw[<-hp _ (bh.2 rfl)];rfl
 .cases h;refine dK ?_;rw[<-hp _ (bh.2 rfl)];rfl
 .cases h;refine dK ?_;rw[<-hp _ (bh.2 rfl)];rfl
 .cases h;refine dK ?_;rw[<-hp _ (bh.2 rfl)];rfl
 .cases h;refine dK ?_;rw[<-hp _ (bh.2 rfl)];rfl
 .rename_i p d q e;cases h;refine dK ?_;have hh:q↔p:=hp _ (bh.2 rfl);show AV.p (.bool (decide q))=AV.p (.bool (decide p));grind
 .cases h;refine dK ?_;rw[<-hp _ (bh.2 rfl)];rfl
 .cases h;refine dK ?_;rw[<-hp _ (bh.2 rfl)];rfl
 .cases h;refine dK ?_;rw[<-hp _ (bh.2 rfl)];rfl
 .rename_i t l t' l';split at h<;>cases h;rename_i e _;subst e;have:l'=l:=hp _ (bh.2 rfl);subst this;exact dK rfl
 .cases h;rename_i t l;have:l=[] :=hp _ (bh.2 rfl);subst this;exact dK rfl
 .rename_i t l n cs _;split at h<;>cases h;rename_i l' hl;have:l'=l:=hp _ (bh.2 rfl);subst this;obtain⟨e1,e2⟩:=LT.uM hl;refine dK ?_;show(match bG (avs cs)with|some q=>AV.p (.sl n q)|none=> .any)=_;rw[e2,dR,e1]
 .rename_i s off s' off';split at h<;>cases h;rename_i e;simp only[SV.av];unfold cN;exact⟨aM s',hm _ (bh.2 rfl),by simp_all⟩
 .rename_i s t n s' t' n';split at h<;>cases h;have:n'=n:=hp _ (bh.2 rfl);simp only[SV.av];unfold cN;exact .inl ⟨aM s',hm _ (bh.2 rfl),by rw[this]⟩
 .cases h;rename_i s t n s' n';have:n'=n:=hp _ (bh.2 rfl);simp only[SV.av];unfold cN;exact .inl ⟨aM s',hm _ (bh.2 rfl),by rw[this]⟩
 .cases h;rename_i s t n;have:n=0:=hp _ (bh.2 rfl);simp only[SV.av];unfold cN;exact .inr ⟨hm _ (bh.2 rfl),rfl,rfl,this⟩
 .rename_i s n s' n';split at h<;>cases h;rename_i e;simp only[SV.av];unfold cN;exact .inl ⟨aM s',hm _ (bh.2 rfl),by simp_all⟩
 .cases h;rename_i s n s' n';have:n'=n:=hp _ (bh.2 rfl);simp only[SV.av];unfold cN;exact .inl ⟨aM s',hm _ (bh.2 rfl),by rw[this]⟩
 .cases h;rename_i s s';simp only[SV.av];unfold cN;exact⟨aM s',hm _ (bh.2 rfl),rfl⟩
 .cases h;exact dK rfl
 .cases h
def uL{m:Rf}:∀(d:Nat) (x y:SV) (ps:List Prop) (r:Rm),eqv d x y=some (ps,r)->(∀p∈ps,p)->jq m r->cN m x.av y.av:=by
 intro d;induction d with
 |zero=>
  intro x y ps r h hp hm;refine MS (ps:=ps) (r:=r) ?_ hp hm;exact h
 |succ d ih=>
  intro x y ps r h hp hm;unfold eqv at h;split at h
  .rename_i d' l k e;cases e;exact za (qV ih h hp hm)
  .rename_i d' l k e;cases e;exact Dl (qV ih h hp hm)
  .rename_i d' f a b f' a' b' e;cases e;split at h<;>cases h;rename_i p m1 q m2 e h1 h2;show cN m (.fn (.func f) (avs a) (avs b)) (.fn (.func f') (avs a') (avs b'));unfold cN;exact⟨_,_,by simp_all,qV ih h1 (λa ha=>hp a (gZ _ ha)) hm.left,qV ih h2 (λa ha=>hp a (fY _ ha)) hm.right⟩
  .exact MS h hp hm
mutual
def SV.sites:SV->List Nat
 | .agg l=>nk l
 | .tup l=>nk l
 | .fn _ a b=>nk a++nk b
 | .ptr s _=>[s]
 | .pte s _ _ _=>[s]
 | .own s _ _=>[s]
 | .owns s _ _ _=>[s]
 | .ownx s _=>[s]
 | .ownf s _ _ _=>[s]
 | .ptef s _ _ _ _=>[s]
 | .ptf s _=>[s]
 | .owF s _=>[s]
 | .mp s=>[s]
 |_=>[]
def nk:List SV->List Nat
 |[] =>[]
 |x::l=>x.sites++nk l
end
def vE(m:Rf)(s:Nat):Prop:=∀a,m (inn s a)=some (some (inn s a))
mutual
theorem zV{m:Rf}:∀(v:SV),(∀s∈v.sites,vE m s)->cN m v.av v.av
 | .any,_=>by simp only[SV.av];unfold cN;trivial
 | .undef,_=>by simp only[SV.av];unfold cN;rfl
 | .nil,_=>by simp only[SV.av];unfold cN;rfl
 | .int _ _,_=>dK rfl
 | .bool _,_=>dK rfl
 | .lit _,_=>dK rfl
 | .prop _ _,_=>dK rfl
 | .str _,_=>dK rfl
 | .lst _ _,_=>dK rfl
 | .pe _ _ _ _,_=>dK rfl
 | .clo1 _ _ _ _,_=>dK rfl
 | .clo2 _ _ _ _,_=>dK rfl
 | .ptb _ _ _,_=>dK rfl
 | .junk,_=>dK rfl
 | .mp s,h=>by simp only[SV.av];unfold cN;exact⟨aM s,h s (by simp[SV.sites]) 0,rfl⟩
 | .sl n cs,_=>by
   simp only[SV.av];split
   .exact dK rfl
   .unfold cN;trivial
 | .pro cs off,_=>by
   simp only[SV.av];split
   .exact dK rfl
   .unfold cN;trivial
 | .fnp f a b,_=>by
   simp only[SV.av];split
   .exact dK rfl
   .unfold cN;trivial
 | .agg l,h=>by simp only[SV.av];exact za (rV l h)
 | .tup l,h=>by simp only[SV.av];exact Dl (rV l h)
 | .fn f a b,h=>by
   simp only[SV.av];unfold cN;exact⟨_,_,rfl,rV a (λs hs=>h s (by simp only[SV.sites];grind)),rV b (λs hs=>h s (by simp only[SV.sites];grind))⟩
 | .ptr s off,h=>by simp only[SV.av];unfold cN;exact⟨aM s,h s (by simp[SV.sites]) 0,rfl⟩
 | .pte s t i off,h=>by simp only[SV.av];unfold cN;exact⟨aM s,h s (by simp[SV.sites]) 0,rfl⟩
 | .own s t n,h=>by simp only[SV.av];unfold cN;exact .inl ⟨aM s,h s (by simp[SV.sites]) 0,rfl⟩
 | .owns s t o n,h=>by simp only[SV.av];unfold cN;exact .inl ⟨aM s,h s (by simp[SV.sites]) 0,rfl⟩
 | .ownx s n,h=>by simp only[SV.av];unfold cN;exact .inl ⟨aM s,h s (by simp[SV.sites]) 0,rfl⟩
 | .owF s n,h=>by simp only[SV.av];unfold cN;exact .inl ⟨aM s,h s (by simp[SV.sites]) 0,rfl⟩
 | .ownf s t a n,h=>by simp only[SV.av];unfold cN;exact .inl ⟨inn s (a+1),h s (by simp[SV.sites]) (a+1),rfl⟩
 | .ptf s a,h=>by simp only[SV.av];unfold cN;exact⟨aM s,h s (by simp[SV.sites]) 0,rfl⟩
 | .ptef s t a i off,h=>by simp only[SV.av];unfold cN;exact⟨inn s (a+1),h s (by simp[SV.sites]) (a+1),rfl⟩
theorem rV{m:Rf}:∀(l:List SV),(∀s∈nk l,vE m s)->eo m (avs l) (avs l)
 |[],_=>by simp only[avs];unfold eo;rfl
 |x::l,h=>by
  simp only[avs];unfold eo;exact⟨_,_,rfl,zV x (λs hs=>h s (by simp only[nk];grind)),rV l (λs hs=>h s (by simp only[nk];grind))⟩
end
def SOb.sites:SOb->List Nat
 | .box _ cs=>nk cs
 | .arr _ _ cs=>nk cs
 | .row .. =>[]
 | .fam _ _ _ _ ov=>ov.flatMap λq=>q.2.sites
 | .mp _=>[]
def Du{ov:List (Nat×SV)}{i:Nat}{v:SV}(h:ov.lookup i=some v):(i,v)∈ov:=by
 induction ov with
 |nil=>cases h
 |cons q ov ih=>
  grind
def I1{m:Rf}(o:SOb)(x:Nat)(hx:vE m x)(h:∀s∈o.sites,vE m s):pi m (o.ob x) (o.ob x):=by
 cases o with
 |box ty cs=>exact⟨rfl,rfl,rV cs h⟩
 |arr ty ez cs=>exact⟨rfl,rfl,rV cs h⟩
 |row ty t l=>exact⟨rfl,rfl,jk m _⟩
 |mp ks=>refine⟨rfl,rfl,?_⟩;show eo m (ft (gI ks)) (ft (gI ks));rw[re];exact jk m _
 |fam ty ity t L ov=>
  refine⟨rfl,rfl,ti _ _ _ λi _=> ?_⟩;unfold iX;split
  .rename_i v hv;exact zV v λs hs=>h s (dI.2 ⟨(i,v),Du hv,hs⟩)
  .unfold cN;exact .inl ⟨_,hx (i+1),rfl⟩
def uq:SOb->SOb->Option (List Prop×Rm)
 | .box ty cs,.box ty' cs'=>(match bB ty ty' with|true=>oU (eqv 3) cs cs'|false=>none)
 | .arr ty ez cs,.arr ty' ez' cs'=>(match bB ty ty',bB ez ez' with|true,true=>oU (eqv 3) cs cs'|_,_=>none)
 | .row ty t l,.row ty' t' l'=>(match bB ty ty',decEq t' t with|true,.isTrue h=>some ([(h▸l':List t.ty)=l],[])|_,_=>none)
 | .mp ks,.mp ks'=>some ([ks'=ks],[])
 | .row ty t l,.arr ty' ez cs=>(match bB ty ty',bB ez t.w,t.decs (cs.length/t.w) cs with|true,true,some l'=>some ([l'=l],[])|_,_,_=>none)
 |_,_=>none
def Ko{m:Rf}{x y:SOb}{ps:List Prop}{r:Rm}(h:uq x y=some (ps,r))(hp:∀p∈ps,p)(hm:jq m r)(k k':Nat):pi m (x.ob k) (y.ob k'):=by
 unfold uq at h;split at h
 .split at h
  .rename_i e;exact⟨dM e,rfl,qV (uL 3) h hp hm⟩
  .cases h
 .split at h
  .rename_i e1 e2;exact⟨dM e1,dM e2,qV (uL 3) h hp hm⟩
  .cases h
 .split at h<;>cases h;rename_i e2 e1 _;subst e2;have:=hp _ (bh.2 rfl);dsimp only at this;subst this;exact⟨dM e1,rfl,jk m _⟩
 .cases h;have:=hp _ (bh.2 rfl);subst this;refine⟨rfl,rfl,?_⟩;show eo m (ft (gI _)) (ft (gI _));rw[re];exact jk m _
 .split at h<;>cases h;rename_i l' e1 e2 e3;have:=hp _ (bh.2 rfl);subst this;obtain⟨_,e4⟩:=LT.uM e3;refine⟨dM e1,(dM e2).symm,?_⟩;show eo m ((LT.enc _ l').map .p) (avs _);rw[e4];exact jk m _
 .cases h
end
section
noncomputable section
def mem(l:List Nat)(s:Nat):Bool:=match l with
 |[] =>false
 |x::l=>(match bB s x with|true=>true|false=>mem l s)
def mem_iff(s:Nat):∀l:List Nat,mem l s=true↔s∈l
 |[] =>by simp[mem]
 |x::l=>by
  unfold mem;cases h:bB s x with
  |true=>simp_all
  |false=>simp[lT h,mem_iff s l]
def eT{α:Type}(p:α->Bool):List α->Bool
 |[] =>true
 |x::l=>(match p x with|true=>eT p l|false=>false)
def gR{α:Type}{p:α->Bool}:∀{l:List α},eT p l=true->∀x∈l,p x=true
 |[],_,x,hx=>by cases hx
 |y::l,h,x,hx=>by
  unfold eT at h;cases hy:p y with
  |false=>grind
  |true=>
   rw[hy]at h;rcases bO.1 hx with rfl|hx
   .exact hy
   .exact gR h x hx
def gT(rk:List Nat)(N0:Nat)(s:Nat):Bool:=match iM (ncl s) N0,mem rk s with
 |true,false=>true
 |_,_=>false
def ja(F:Frm)(rk:List Nat)(N0:Nat):Frm->List Nat
 |[] =>[]
 |(d,v)::r=>(match eT (gT rk N0) v.sites with
  |true=>ja F rk N0 r
  |false=>(match eT (gT rk N0) (F.at d).sites with
   |true=>ja F rk N0 r
   |false=>d::ja F rk N0 r))
def ke(F:Frm)(upd:Frm)(hav:List Nat):Frm:=upd++(hav.map λd=>(d,SV.any))++F
def ir(L:aP)(obs:List (Nat×SOb)):aP:=(obs.map λq=>(q.1,some q.2))++L
def xz(obs:List (Nat×SOb)):List Nat:=obs.map λq=>q.1
def aA6(L:aP)(keys rk:List Nat)(N0:Nat):Bool:=eT (λ(q:Nat×Option SOb)=>match mem keys q.1 with
 |true=>true
 |false=>(match L.at q.1 with
  |none=>true
  |some ob=>(match gT rk N0 q.1 with|true=>eT (gT rk N0) ob.sites|false=>false))) L
def vA(n:Nat)(F':Frm):Frm->Option (List Prop×Rm)
 |[] =>some ([],[])
 |(d,v)::r=>(match iM d n,v.ape,eqv 3 v (F'.at d),vA n F' r with
  |true,false,some (p,m),some (q,k)=>some (p++q,m++k)
  |_,_,_,_=>none)
def x7(rk:List Nat)(s o:Nat):SOb->SOb->Option (List Prop)
 | .fam ty ity t M [],.fam ty' ity' t' M' [] =>(match bB s o,mem rk s,bB ty ty',bB ity ity',decEq t' t with
   |true,false,true,true,.isTrue h=>some [(h▸M':List (List t.ty))=M]
   |_,_,_,_,_=>none)
 |_,_=>none
def MP{rk:List Nat}{s o:Nat}{x y:SOb}{ps:List Prop}(h:x7 rk s o x y=some ps)(hp:∀p∈ps,p):s=o/\mem rk s=false/\x=y/\x.sites=[] :=by
 unfold x7 at h;split at h
 .split at h<;>cases h;rename_i e h1 h2 h3 h4 _;subst e;have:=hp _ (bh.2 rfl);subst this;rw[dM h3,dM h4];exact⟨dM h1,h2,rfl,rfl⟩
 .cases h
def si(L':aP)(rk:List Nat):List (Nat×SOb)->Rm->Option (List Prop×Rm)
 |[],mm=>some ([],mm)
 |(s,ob)::r,mm=>(match(match mem rk s with|true=>l7 mm s|false=>some (some s))with
  |none=>none
  |some none=>(match ob with
   | .row _ _ l=>(match si L' rk r (mm++[(s,none)])with|some (q,k)=>some ((l=[])::q,k)|none=>none)
   |_=>none)
  |some (some o)=>(match L'.at o with
   |none=>none
   |some ob'=>(match uq ob ob' with
    |none=>(match x7 rk s o ob ob' with
     |none=>none
     |some p=>(match si L' rk r (mm++[(s,some o)])with|some (q,k)=>some (p++q,k)|none=>none))
    |some (p,m2)=>(match si L' rk r (mm++(s,some o)::m2)with|some (q,k)=>some (p++q,k)|none=>none))))
def eqO:Option Nat->Option Nat->Bool
 |none,none=>true
 |some a,some b=>bB a b
 |_,_=>false
def GR{a b:Option Nat}(h:eqO a b=true):a=b:=by cases a<;>cases b<;>first|rfl|(cases h;done)|(rw[dM h])
def isO:Option (Option Nat)->Option Nat->Bool
 |some a,b=>eqO a b
 |none,_=>false
def okM(rk:List Nat)(N0 N1:Nat)(mm:Rm):Bool:=eT (λ(q:Nat×Option Nat)=>match isO (l7 mm q.1) q.2,mem rk q.1 with
 |true,true=>(match iM (ncl q.1) N1,q.2 with
  |true,none=>true
  |true,some o=>(match(match iM (ncl o) N0 with|false=>true|true=>mem rk o)with
   |true=>eT (λ(q2:Nat×Option Nat)=>match eqO q2.2 (some o)with|true=>bB q2.1 q.1|false=>true) mm
   |false=>false)
  |_,_=>false)
 |true,false=>(match gT rk N0 q.1 with|true=>eqO q.2 (some q.1)|false=>false)
 |_,_=>false) mm
def aA0(N0:Nat)(keys:List Nat)(pre:aP):Bool:=eT (λ(q:Nat×Option SOb)=>match mem keys q.1 with
 |true=>true
 |false=>(match iM (ncl q.1) N0 with|true=>false|false=>true)) pre
def aBy(rk:List Nat)(N0:Nat)(mm:Rm):Nat->Option (Option Nat):=λs=>match l7 mm s with
 |some x=>some x
 |none=>(match gT rk N0 s with|true=>some (some s)|false=>none)
open Classical in
def lF(mn:Nat->Option (Option Nat))(st:Nat->Bool):Rf:=λs=>if inn (nm s) (sub s)=s then(match sub s with
 |0=>(mn (nm s)).map (Option.map aM)
 |_+1=>(match st (nm s)with|true=>some (some s)|false=>none))else none
def DO(mn:Nat->Option (Option Nat))(st:Nat->Bool)(x:Nat):lF mn st (aM x)=(mn x).map (Option.map aM):=by unfold lF aM;rw[rp,sI,if_pos rfl]
def Kb(mn:Nat->Option (Option Nat))(st:Nat->Bool)(x a:Nat):lF mn st (inn x (a+1))=(match st x with|true=>some (some (inn x (a+1)))|false=>none):=by unfold lF;rw[rp,sI,if_pos rfl]
def Xq(mn:Nat->Option (Option Nat))(st:Nat->Bool){s:Nat}(h:∀x a,s≠inn x a):lF mn st s=none:=by unfold lF;grind
def Bk(n:Nat)(L:aP)(N0 N1:Nat)(rk:List Nat)(upd:Frm)(obs:List (Nat×SOb))(F':Frm)(L':aP):Option (List Prop):=
 match vA n F' upd with
 |none=>none
 |some (p,m1)=>(match si L' rk obs m1 with
  |none=>none
  |some (q,m2)=>(match okM rk N0 N1 m2,aA0 N0 (xz obs) (L'.take (L'.length-L.length)),aA6 L (xz obs) rk N0,mM N0 N1 with
   |true,true,true,true=>some (p++q)
   |_,_,_,_=>none))
def KX{m:Rm}{s:Nat}{x:Option Nat}(h:l7 m s=some x):(s,x)∈m:=by
 induction m with
 |nil=>cases h
 |cons q m ih=>
  obtain⟨a,b⟩:=q;unfold l7 at h;split at h
  .simp_all
  grind
def MR{n:Nat}{F':Frm}{m:Rf}:∀{upd:Frm} {ps:List Prop} {r:Rm},vA n F' upd=some (ps,r)->(∀p∈ps,p)->jq m r->∀q∈upd,cN m q.2.av (F'.at q.1).av/\q.2.ok
 |[],ps,r,_,_,_,q,hq=>by cases hq
 |(d,v)::upd,ps,r,h,hp,hm,q,hq=>by
  unfold vA at h;split at h<;>cases h;rename_i p1 m1 p2 m2 h1 h2 h3 h4;rcases bO.1 hq with rfl|hq
  .exact⟨uL 3 _ _ _ _ h3 (λa ha=>hp a (by grind)) hm.left,SV.mr h2⟩
  .exact MR h4 (λa ha=>hp a (by grind)) hm.right q hq
def Ju{x y:SOb}{q:List Prop×Rm}(h:uq x y=some q):x.flat=true:=by unfold uq at h;cases x<;>first|rfl|grind
def AL{L':aP}{rk:List Nat}{m:Rf}:∀{obs:List (Nat×SOb)} {mm:Rm} {ps:List Prop} {r:Rm},si L' rk obs mm=some (ps,r)->(∀p∈ps,p)->jq m r->
  (∃k,r=mm++k)/\∀q∈obs,(q.2.flat=true/\((∃y ob,m (aM q.1)=some (some (aM y))/\L'.at y=some ob/\pi m (q.2.ob q.1) (ob.ob y))\/(m (aM q.1)=some none/\(q.2.ob q.1).esz≠0/\(q.2.ob q.1).cells=[])))\/((q.1,some q.1)∈r/\mem rk q.1=false/\L'.at q.1=some q.2/\q.2.sites=[])
 |[],mm,ps,r,h,_,_=>by unfold si at h;simp_all
 |(s,ob)::obs,mm,ps,r,h,hp,hm=>by
  unfold si at h;split at h
  .cases h
  .split at h
   .rename_i ty t l;split at h<;>cases h;rename_i q k hk;obtain⟨⟨k',e⟩,h2⟩:=AL hk (by grind) hm;refine⟨by grind,λq hq=> ?_⟩;rcases bO.1 hq with rfl|hq
    .have:m (aM s)=some none:=hm (s,none) (by rw[e];simp);have hl:l=[] :=hp _ (by grind);subst hl;exact .inl ⟨rfl,.inr ⟨this,nL t.kF,rfl⟩⟩
    grind
   .cases h
  .rename_i o hi;split at h
   .cases h
   .rename_i ob' hob;split at h
    .split at h
     .cases h
     .rename_i p hfe;split at h<;>cases h;rename_i q k hk;obtain⟨⟨k',e⟩,h2⟩:=AL hk (λa ha=>hp a (by grind)) hm;refine⟨by grind,λq hq=> ?_⟩;rcases bO.1 hq with rfl|hq
      .obtain⟨f1,f2,f3,f4⟩:=MP hfe λa ha=>hp a (by grind);grind
      grind
    .rename_i p m2 he;split at h<;>cases h;rename_i q k hk;obtain⟨⟨k',e⟩,h2⟩:=AL hk (λa ha=>hp a (by grind)) hm;refine⟨by grind,λq hq=> ?_⟩;rcases bO.1 hq with rfl|hq
     .have:m (aM s)=some (some (aM o)):=hm (s,some o) (by rw[e];simp);refine .inl ⟨Ju he,.inl ⟨o,ob',this,hob,Ko he (λa ha=>hp a (by grind)) ?_ _ _⟩⟩;intro q hq;exact hm q (by grind)
     grind
def AW{F:Frm}{rk:List Nat}{N0:Nat}{d:Nat}:∀{G:Frm},(∃v,(d,v)∈G/\eT (gT rk N0) v.sites=false)->d∉ja F rk N0 G->eT (gT rk N0) (F.at d).sites=true
 |[],⟨v,h,_⟩,_=>by cases h
 |(e,u)::G,⟨v,h,hv⟩,hn=>by
  unfold ja at hn;rcases bO.1 h with h|h
  .grind
  .split at hn
   .exact AW ⟨v,h,hv⟩ hn
   .split at hn
    .exact AW ⟨v,h,hv⟩ hn
    .exact AW ⟨v,h,hv⟩ (by grind)
def aAQ(F:Frm)(d:Nat):(F.at d)= .undef\/(d,F.at d)∈F:=by
 induction F with
 |nil=>exact .inl rfl
 |cons q F ih=>
  rw[Frm.kz];grind
def ZW{F:Frm}{rk:List Nat}{N0 d:Nat}(h:d∉ja F rk N0 F):eT (gT rk N0) (F.at d).sites=true:=by
 rcases aAQ F d with e|e
 .rw[e];rfl
 .cases hb:eT (gT rk N0) (F.at d).sites with
  |true=>rfl
  |false=>rw[<-hb];exact AW ⟨_,e,hb⟩ h
def Frm.o7(A B:Frm)(d:Nat):(Frm.at (A++B) d)=if d∈A.map (·.1)then A.at d else B.at d:=by
 induction A with
 |nil=>simp
 |cons q A ih=>
  rw[j7,Frm.kz,Frm.kz,ih];grind
def PK(l:List Nat)(d:Nat):(Frm.at (l.map λd=>(d,SV.any)) d)=if d∈l then .any else .undef:=by
 induction l with
 |nil=>rfl
 |cons e l ih=>
  rw[cT,Frm.kz,ih];grind
def uw{F:Frm}{d:Nat}(h:d∈F.map (·.1)):(d,F.at d)∈F:=by
 induction F with
 |nil=>cases h
 |cons q F ih=>
  rw[Frm.kz];grind
def aP.o7(A B:aP)(s:Nat):(aP.at (A++B) s)=if s∈A.map (·.1)then A.at s else B.at s:=by
 induction A with
 |nil=>simp
 |cons q A ih=>
  obtain⟨e,v⟩:=q;show(match bB s e with|true=>v|false=>aP.at (A++B) s)=if _ then(match bB s e with|true=>v|false=>aP.at A s)else _;cases h:bB s e with
  |true=>simp_all
  |false=>
   have:=lT h;grind
def aP.uw{L:aP}{s:Nat}{ob:SOb}(h:L.at s=some ob):(s,some ob)∈L:=by
 induction L with
 |nil=>cases h
 |cons q L ih=>
  obtain⟨e,v⟩:=q;change (match bB s e with|true=>v|false=>aP.at L s)=some ob at h;cases hb:bB s e with
  |true=>simp_all
  |false=>grind
def Mw{x:Nat}:∀{obs:List (Nat×SOb)},x∈obs.map (·.1)->∃q∈obs,q.1=x/\aP.at (obs.map λq=>(q.1,some q.2)) x=some q.2
 |[],h=>by grind
 |q::obs,h=>by
  show∃q'∈q::obs,q'.1=x/\(match bB x q.1 with|true=>some q.2|false=>aP.at (obs.map λq=>(q.1,some q.2)) x)=some q'.2;cases hb:bB x q.1 with
  |true=>simp_all
  |false=>
   rcases bO.1 h with h|h
   .simp_all
   .obtain⟨q',h1,h2,h3⟩:=Mw h;grind
def Jj{m:Rf}{o':SOb}{a:Nat}{ob':Ob}(hs:o'.inner a=some ob'):pi m ob' ob':=by
 cases o' with
 |fam ty ity t LL ov=>
  change (match ov.lookup a with|some _=>none|none=>(LL[a]?).map λl=>(⟨ity,t.w,(t.enc l).map .p⟩:Ob))=some ob' at hs;split at hs
  .cases hs
  .cases hL2:LL[a]? with
   |none=>grind
   |some l=>rw[hL2]at hs;cases hs;exact⟨rfl,rfl,jk _ _⟩
 |_=>cases hs
def KV{n:Nat}{F F' upd:Frm}{L L':aP}{N0 N1 N':Nat}{obs:List (Nat×SOb)}{hav:List Nat}{ps:List Prop}{rk:List Nat}(h:Bk n L N0 N1 rk upd obs F' L'=some ps)(hp:∀p∈ps,p)
  (hF:Pre (λd=>d∈hav) F F') (hbad:∀d∈ja F rk N0 F,d∈hav) (hL:gL L L'):
  fV (F'.av n) L'.fn N' ((ke F upd hav).av n) (ir L obs).fn N1:=by
 unfold Bk at h;split at h
 .cases h
 rename_i p1 m1 h1;split at h
 .cases h
 rename_i p2 mm h2;split at h<;>cases h;rename_i h3 h4 h5 h6
 let mn:Nat->Option (Option Nat):=aBy rk N0 mm
 let m:Rf:=lF mn (gT rk N0)
 have hokM:∀s x,(s,x)∈mm->l7 mm s=some x/\((mem rk s=true/\ncl s<N1/\∀o,x=some o->(ncl o<N0->mem rk o=true)/\∀s',(s',some o)∈mm->s'=s)\/(mem rk s=false/\ncl s<N0/\x=some s)):=by
  intro s x hs;have:=gR h3 (s,x) hs;dsimp only at this;split at this
  .rename_i e1 e2;refine⟨?_,.inl ⟨e2,?_⟩⟩
   .unfold isO at e1;split at e1
    .rename_i heq;rw[heq,GR e1]
    .cases e1
   .split at this
    .simp_all
    .rename_i o e3;refine⟨(jn _ _).1 e3,λo' ho=> ?_⟩;cases ho;split at this
     .rename_i e4;refine⟨λhlt=> ?_,λs' hs'=> ?_⟩
      .rw[(jn _ _).2 hlt]at e4;exact e4
      .have:=gR this (s',some o) hs';rw[show eqO (some o) (some o)=true from Nat.beq_refl o]at this;simp_all
     .cases this
    .cases this
  .rename_i e1 e2;split at this
   .rename_i e3;refine⟨?_,.inr ⟨e2,?_,GR this⟩⟩
    .unfold isO at e1;split at e1
     .rename_i heq;rw[heq,GR e1]
     .cases e1
    .unfold gT at e3;split at e3
     .simp_all
     .cases e3
   .cases this
  .cases this
 have hstay:∀s,gT rk N0 s=true->mn s=some (some s)/\ncl s<N0/\mem rk s=false:=by
  intro s hs;have:ncl s<N0/\mem rk s=false:=by
   unfold gT at hs;split at hs
   .rename_i e1 e2;exact⟨(jn _ _).1 e1,e2⟩
   .cases hs
  refine⟨?_,this⟩;show(match l7 mm s with|some x=>some x|none=>_)=_;cases hl:l7 mm s with
  |some x=>
   rcases(hokM s x (KX hl)).2 with⟨e,_⟩|⟨_,_,e⟩
   .grind
   .rw[e]
  |none=>grind
 have hm:∀s x,mn s=some x->(s,x)∈mm\/(gT rk N0 s=true/\x=some s):=by
  intro s x hs;change (match l7 mm s with|some x=>some x|none=>(match gT rk N0 s with|true=>some (some s)|false=>none))=some x at hs;cases hl:l7 mm s with
  |some y=>rw[hl]at hs;cases hs;exact .inl (KX hl)
  |none=>
   grind
 have hag:jq m mm:=by
  intro q hq;have:=(hokM q.1 q.2 hq).1;have e:mn q.1=some q.2:=by show(match l7 mm q.1 with|some x=>some x|none=>_)=_;rw[this]
  show lF mn (gT rk N0) (aM q.1)=_;rw[DO,e];rfl
 have hst:∀s,gT rk N0 s=true->vE m s:=by
  intro s hs a;cases a with
  |zero=>show lF mn _ (aM s)=_;rw[DO,(hstay s hs).1];rfl
  |succ a=>show lF mn _ (inn s (a+1))=_;rw[Kb,hs]
 have hcase:∀s x,m s=some x->(∃y z,s=aM y/\mn y=some z/\x=z.map aM)\/(∃y a,s=inn y (a+1)/\gT rk N0 y=true/\x=some s):=by
  intro s x hs;rcases j8 s with⟨y,rfl⟩|⟨y,a,rfl⟩|hno
  .change lF mn _ (aM y)=some x at hs;rw[DO]at hs;cases hy:mn y with
   |none=>grind
   |some z=>grind
  .change lF mn _ (inn y (a+1))=some x at hs;rw[Kb]at hs;grind
  .change lF mn _ s=some x at hs;rw[Xq _ _ hno]at hs;cases hs
 have hlt:∀s x,mn s=some x->ncl s<N1:=by
  intro s x hs;rcases hm s x hs with h|⟨h,_⟩
  .rcases(hokM s x h).2 with⟨_,e,_⟩|⟨_,e,_⟩
   .exact e
   .have:=o5 h6;omega
  .have:=(hstay s h).2.1;have:=o5 h6;omega
 obtain⟨⟨k,hk⟩,hobs⟩:=AL h2 (λa ha=>hp a (by grind)) hag;have hfst:∀y,(y,some y)∈mm->mem rk y=false->gT rk N0 y=true:=by
  intro y hy hr;rcases(hokM y _ hy).2 with⟨e,_⟩|⟨_,e,_⟩
  .grind
  .unfold gT;rw[(jn _ _).2 e,hr]
 have hag1:jq m m1:=λq hq=>hag q (by grind);have hupd:=MR h1 (λa ha=>hp a (by grind)) hag1;have h6':=o5 h6;refine Mo m ?_ ?_ (by rw[Frm.jB,Frm.jB]) ?_ ?_
 .intro s x hs;rcases hcase s x hs with⟨y,z,rfl,h,_⟩|⟨y,a,rfl,h,_⟩
  .rw[show cls (aM y)=ncl y from fG y 0];grind
  .rw[fG];grind
 .intro s s' o hs hs';have inj:∀s s' o,mn s=some (some o)->mn s'=some (some o)->s=s':=by
   intro s s' o hs hs';rcases hm s (some o) hs with h|⟨h,e⟩
   .rcases(hokM s _ h).2 with⟨e1,e2,e3⟩|⟨e1,e2,e3⟩
    .grind
    .rcases hm s' (some o) hs' with h'|⟨h',e'⟩
     .grind
     grind
   .rcases hm s' (some o) hs' with h'|⟨h',e'⟩
    .grind
    grind
  rcases hcase s _ hs with⟨y,z,rfl,h,e⟩|⟨y,a,rfl,h,e⟩
  .rcases hcase s' _ hs' with⟨y',z',rfl,h',e'⟩|⟨y',a',rfl,h',e'⟩
   .cases z with
    |none=>cases e
    |some z=>
     cases z' with
     |none=>cases e'
     |some z'=>
      have e:=mO e;have e':=mO e';have:z=z':=kn (e.symm.trans e');grind
   .cases z with
    |none=>cases e
    |some z=>
     have e:=mO e;have e':=mO e';have:=(fD (e.symm.trans e')).2;omega
  .rcases hcase s' _ hs' with⟨y',z',rfl,h',e'⟩|⟨y',a',rfl,h',e'⟩
   .cases z' with
    |none=>cases e'
    |some z'=>
     have e:=mO e;have e':=mO e';have:=(fD (e'.symm.trans e)).2;omega
   grind
 .intro t ht;rw[Frm.jB]at ht;rw[Frm.lv ht,Frm.lv ht];unfold ke;rw[Frm.o7,Frm.o7];split
  .split
   .rename_i hu;exact(hupd _ (uw hu)).1
   .rw[PK];split
    .trivial
    grind
  .rename_i hin;have hh:t∉hav:=by grind
   have hgood:=ZW (λhb=>hh (hbad t hb));obtain⟨pre,e,hpre⟩:=hF;have:Frm.at F' t=Frm.at F t:=by rw[e,Frm.o7,if_neg];intro h;simp only[bM]at h;obtain⟨q,hq,e⟩:=h;grind
   rw[this];exact zV _ λs hs=>hst s (gR hgood s hs)
 .intro s ob' hs;have kept:∀x o',x∉(obs.map λq=>(q.1,some q.2)).map (·.1)->(ir L obs).at x=some o'->gT rk N0 x=true/\eT (gT rk N0) o'.sites=true/\L'.at x=some o':=by
   intro x o' hnk ho;unfold ir at ho;rw[aP.o7,if_neg hnk]at ho;have hnk':mem (xz obs) x=false:=by
    cases hb:mem (xz obs) x with
    |false=>rfl
    |true=>
     exfalso;have:=(mem_iff _ _).1 hb;unfold xz at this;grind
   have:=gR h5 _ (aP.uw ho);dsimp only at this;rw[hnk',ho]at this;dsimp only at this;split at this
   .rename_i hst;refine⟨hst,this,?_⟩;obtain⟨pre,e⟩:=hL;rw[e,aP.o7,if_neg,ho];intro hin;have h4':=h4;rw[e]at h4';rw[show(pre++L).length-L.length=pre.length by simp,Cj]at h4';simp only[bM]at hin;obtain⟨q,hq,e2⟩:=hin;have:=gR h4' q hq;rw[e2,hnk']at this;rw[(jn _ _).2 (hstay x hst).2.1]at this;cases this
   .cases this
  have told:∀x,x∈(obs.map λq=>(q.1,some q.2)).map (·.1)->∃q∈obs,q.1=x/\(ir L obs).at x=some q.2:=by
   intro x hk;have e:(ir L obs).at x=aP.at (obs.map λq=>(q.1,some q.2)) x:=by unfold ir;rw[aP.o7,if_pos hk]
   rw[e];exact Mw (by grind)
  rcases j8 s with⟨x,rfl⟩|⟨x,a,rfl⟩|hno
  .change Sg.a (ir L obs).at (aM x)=some ob' at hs;rw[Sg.cH]at hs;by_cases hk:x∈(obs.map λq=>(q.1,some q.2)).map (·.1)
   .obtain⟨q,hq,rfl,ho⟩:=told x hk;rw[ho]at hs;cases hs;rcases hobs q hq with⟨_,⟨y,ob,g1,g2,g3⟩|⟨g1,g2,g3⟩⟩|⟨g1,g2,g3,g4⟩
    .rw[g1];exact⟨ob.ob y,by show Sg.a L'.at (aM y)=_;rw[Sg.cH,g2];rfl,g3⟩
    .grind
    .have hq':=hfst q.1 g1 g2;rw[show m (aM q.1)=some (some (aM q.1))from hst q.1 hq' 0];exact⟨q.2.ob q.1,by show Sg.a L'.at (aM q.1)=_;rw[Sg.cH,g3];rfl,I1 _ q.1 (hst q.1 hq') (by grind)⟩
   .cases ho:(ir L obs).at x with
    |none=>grind
    |some o'=>
     rw[ho]at hs;cases hs;obtain⟨k1,k2,k3⟩:=kept x o' hk ho;rw[show m (aM x)=some (some (aM x))from hst x k1 0];exact⟨o'.ob x,by show Sg.a L'.at (aM x)=_;rw[Sg.cH,k3];rfl,I1 _ x (hst x k1) λs hs=>hst s (gR k2 s hs)⟩
  .change Sg.a (ir L obs).at (inn x (a+1))=some ob' at hs;rw[Sg.fQ]at hs;by_cases hk:x∈(obs.map λq=>(q.1,some q.2)).map (·.1)
   .obtain⟨q,hq,rfl,ho⟩:=told x hk;rw[ho]at hs;rcases hobs q hq with⟨hfl,_⟩|⟨g1,g2,g3,g4⟩
    .have:=SOb.zP hfl a;grind
    .have hq':=hfst q.1 g1 g2;rw[show m (inn q.1 (a+1))=some (some (inn q.1 (a+1)))from hst q.1 hq' (a+1)];exact⟨ob',by show Sg.a L'.at (inn q.1 (a+1))=_;rw[Sg.fQ,g3];exact hs,Jj hs⟩
   .cases ho:(ir L obs).at x with
    |none=>grind
    |some o'=>
     rw[ho]at hs;obtain⟨k1,k2,k3⟩:=kept x o' hk ho;rw[show m (inn x (a+1))=some (some (inn x (a+1)))from hst x k1 (a+1)];exact⟨ob',by show Sg.a L'.at (inn x (a+1))=_;rw[Sg.fQ,k3];exact hs,Jj hs⟩
  .change Sg.a (ir L obs).at s=some ob' at hs;rw[Sg.jc _ hno]at hs;cases hs
end
end
section
noncomputable section
def x4(N x s z:Nat):Bool:=match iM (ncl z) N,bB z s,bB z x with
 |true,false,false=>true
 |_,_,_=>false
def xm(N x s:Nat)(v:SV):Bool:=match v with
 | .owF y _=>(match iM (ncl y) N,bB y s with|true,false=>true|_,_=>false)
 |v=>eT (x4 N x s) v.sites
def l8(N x s:Nat)(v:SV):Bool:=match v with
 | .agg l=>eT (xm N x s) l
 |v=>xm N x s v
def BJ(N x s y:Nat)(ob:SOb):Bool:=match x4 N x s y with
 |true=>(match ob with
  | .box _ cs=>eT (l8 N x s) cs
  | .arr _ _ cs=>eT (l8 N x s) cs
  | .row .. =>true
  | .mp _=>true
  | .fam _ _ _ _ ov=>eT (λq:Nat×SV=>l8 N x s q.2) ov)
 |false=>false
open Classical in
def kG(N x a s:Nat):Rf:=λt=>if cls t<N then(if t=inn x (a+1)then some (some (aM s))else if t=aM s then none else some (some t))else none
def zq{N x s z:Nat}(h:x4 N x s z=true):ncl z<N/\z≠s/\z≠x:=by
 unfold x4 at h;split at h
 .rename_i h1 h2 h3;exact⟨(jn _ _).1 h1,lT h2,lT h3⟩
 .cases h
def LI{N x a s t:Nat}(h1:cls t<N)(h2:t≠inn x (a+1))(h3:t≠aM s):kG N x a s t=some (some t):=by unfold kG;grind
def zI{N x a s z:Nat}(h1:ncl z<N)(h2:z≠s):kG N x a s (aM z)=some (some (aM z)):=
 LI (by rw[show cls (aM z)=ncl z from fG z 0];exact h1) (λe=>by have:=(fD e).2;omega) (λe=>h2 (kn e))
def wi{N x a s z b:Nat}(h1:ncl z<N)(h2:z=x->b≠a):kG N x a s (inn z (b+1))=some (some (inn z (b+1))):=
 LI (by rw[fG];exact h1) (λe=>h2 (fD e).1 (by have:=(fD e).2;omega)) (λe=>by have:=(fD e).2;omega)
def Ug{N x a s z:Nat}(h:x4 N x s z=true):vE (kG N x a s) z:=by
 obtain⟨h1,h2,h3⟩:=zq h;intro b;cases b with
 |zero=>exact zI h1 h2
 |succ b=>exact wi h1 (by grind)
def Jg{N x a s:Nat}{v:SV}(h:xm N x s v=true):cN (kG N x a s) v.av v.av:=by
 unfold xm at h;split at h
 .rename_i y n;split at h
  .rename_i h1 h2;exact .inl ⟨_,zI ((jn _ _).1 h1) (lT h2),rfl⟩
  .cases h
 .exact zV v λz hz=>Ug (gR h z hz)
def I5{N x a s:Nat}:∀{cs:List SV},(∀v∈cs,xm N x s v=true)->eo (kG N x a s) (avs cs) (avs cs)
 |[],_=>by rfl
 |v::cs,h=>by
  exact⟨_,_,rfl,Jg (by grind),I5 (by grind)⟩
def zt{N x a s:Nat}{v:SV}(h:l8 N x s v=true):cN (kG N x a s) v.av v.av:=by
 unfold l8 at h;split at h
 .exact za (I5 (gR h))
 .exact Jg h
def DP{N x a s:Nat}:∀{cs:List SV},(∀v∈cs,l8 N x s v=true)->eo (kG N x a s) (avs cs) (avs cs)
 |[],_=>by rfl
 |v::cs,h=>by
  exact⟨_,_,rfl,zt (by grind),DP (by grind)⟩
def ON(F:Frm)(t:Nat):∀hav:List Nat,Frm.at ((hav.map λd=>(d,SV.any))++F) t=SV.any\/(t∉hav/\Frm.at ((hav.map λd=>(d,SV.any))++F) t=F.at t)
 |[] =>by grind
 |d::hav=>by
  rw[cT,j7,Frm.kz];by_cases h:t=d
  .grind
  .rw[if_neg h];rcases ON F t hav with h1|⟨h1,h2⟩
   .exact .inl h1
   grind
def yv{a i:Nat}(h:i≠a):∀ov:List (Nat×SV),(ov.filter λq=> !(bB q.1 a)).lookup i=ov.lookup i
 |[] =>rfl
 |q::ov=>by
  rw[List.filter_cons,dS];cases hq:bB q.1 a with
  |true=>
   have:=dM hq;rw[if_neg (by simp),yv h ov,beq_eq_false_iff_ne.2 (by omega)]
  |false=>
   rw[if_pos (by simp),dS,yv h ov]
def yp{a:Nat}:∀ov:List (Nat×SV),(ov.filter λq=> !(bB q.1 a)).lookup a=none
 |[] =>rfl
 |q::ov=>by
  rw[List.filter_cons];cases hq:bB q.1 a with
  |true=>exact yp ov
  |false=>rw[if_pos (by simp),dS,beq_eq_false_iff_ne.2 (λe=>lT hq e.symm)];exact yp ov
def VH{n N0 N x a s k:Nat}{F:Frm}{L:aP}{ty ity:TypeId}{lt:LT}{M:List (List lt.ty)}{l:List lt.ty}{ov:List (Nat×SV)}{hav:List Nat}
  (hx:L.at x=some (.fam ty ity lt M ((a,.own s lt k)::ov))) (hs:L.at s=some (.row ity lt l)) (ha:a<M.length) (hk:k=l.length) (hxN:ncl x<N)
  (hov:∀q∈ov,q.1≠a->l8 N x s q.2=true) (hF:∀t,t<n->t∈hav\/l8 N x s (F.at t)=true) (hL:∀y ob,L.at y=some ob->y=x\/y=s\/BJ N x s y ob=true):
  fV (F.av n) L.fn N0 (Frm.av n ((hav.map λd=>(d,SV.any))++F)) (aP.fn ((x,some (.fam ty ity lt (M.set a l) (ov.filter λq=> !(bB q.1 a))))::(s,none)::L)) N:=by
 have hxs:x≠s:=λe=>by grind
 refine Mo (kG N x a s) ?_ ?_ (by rw[Frm.jB,Frm.jB]) ?_ ?_
 .intro t y ht;unfold kG at ht;grind
 .intro t t' o ht ht';unfold kG at ht ht';grind
 .intro t ht;rw[Frm.jB]at ht;rw[Frm.lv ht,Frm.lv ht];rcases ON F t hav with h|⟨h1,h2⟩
  .rw[h];trivial
  .rw[h2];exact zt (by grind)
 .intro t ob' ht;have hat:∀y,aP.at ((x,some (.fam ty ity lt (M.set a l) (ov.filter λq=> !(bB q.1 a))))::(s,none)::L) y=if y=x then some (.fam ty ity lt (M.set a l) (ov.filter λq=> !(bB q.1 a)))else if y=s then none else L.at y:=by
   intro y;show(match bB y x with|true=>_|false=>(match bB y s with|true=>_|false=>_))=_;cases h1:bB y x with
   |true=>simp_all
   |false=>
    rw[if_neg (lT h1)];cases h2:bB y s with
    |true=>simp_all
    |false=>rw[if_neg (lT h2)]
  have hset:∀i,i≠a->(M.set a l).getD i [] =M.getD i [] :=by grind
  have hseta:(M.set a l).getD a [] =l:=by rw[de,List.getElem?_set_self ha];rfl
  have hcons:∀i,i≠a->gh i ((a,SV.own s lt k)::ov)=ov.lookup i:=by grind
  rcases j8 t with⟨y,rfl⟩|⟨y,b,rfl⟩|hno
  .change Sg.a _ (aM y)=some ob' at ht;rw[Sg.cH,hat y]at ht;by_cases hyx:y=x
   .subst hyx;rw[if_pos rfl]at ht;have ht:=mO ht;rw[zI hxN hxs];refine⟨_,by show Sg.a L.at (aM y)=_;rw[Sg.cH,hx];rfl,?_⟩;rw[<-ht];refine⟨rfl,rfl,?_⟩;show eo _ ((bP (M.set a l).length).map (iX y (M.set a l) (ov.filter λq=> !(bB q.1 a)))) ((bP M.length).map (iX y M ((a,.own s lt k)::ov)));rw[yh];refine ti _ _ _ λi _=> ?_;unfold iX;by_cases hi:i=a
    .subst hi;rw[yp,dS,beq_iff_eq.2 rfl,hseta];show cN _ (.own (inn y (i+1)) 0 l.length) (.own (aM s) 0 k);refine .inl ⟨aM s,?_,by rw[hk]⟩;unfold kG;rw[if_pos (by rw[fG];exact hxN),if_pos rfl]
    .rw[yv hi,hcons i hi,hset i hi];cases ho:ov.lookup i with
     |some v=>exact zt (hov (i,v) (Du ho) hi)
     |none=>
      exact .inl ⟨_,wi hxN λ_=>hi,rfl⟩
   .rw[if_neg hyx]at ht;by_cases hys:y=s
    .grind
    .rw[if_neg hys]at ht;cases ho:L.at y with
     |none=>grind
     |some ob=>
      rw[ho]at ht;have ht:=mO ht;have hk':=((hL y ob ho).resolve_left hyx).resolve_left hys;unfold BJ at hk';split at hk'
      case h_2=>cases hk'
      rename_i hz;rw[zI (zq hz).1 hys];refine⟨_,by show Sg.a L.at (aM y)=_;rw[Sg.cH,ho];rfl,?_⟩;rw[<-ht];split at hk'
      .exact⟨rfl,rfl,DP (gR hk')⟩
      .exact⟨rfl,rfl,DP (gR hk')⟩
      .exact⟨rfl,rfl,jk _ _⟩
      .refine⟨rfl,rfl,?_⟩;show eo _ (ft (gI _)) (ft (gI _));rw[re];exact jk _ _
      .refine⟨rfl,rfl,ti _ _ _ λi _=> ?_⟩;unfold iX;split
       .rename_i v hv;exact zt (gR hk' (i,v) (Du hv))
       .exact .inl ⟨_,wi (zq hz).1 (by grind),rfl⟩
  .change Sg.a _ (inn y (b+1))=some ob' at ht;rw[Sg.fQ,hat y]at ht;by_cases hyx:y=x
   .subst hyx;rw[if_pos rfl]at ht;change (match gh b (ov.filter λq=> !(bB q.1 a))with|some _=>none|none=>((M.set a l)[b]?).map λl=>(⟨ity,lt.w,(lt.enc l).map .p⟩:Ob))=some ob' at ht;by_cases hb:b=a
    .subst hb;rw[yp,List.getElem?_set_self ha]at ht;have ht:=mO ht;have hm:kG N y b s (inn y (b+1))=some (some (aM s)):=by unfold kG;rw[if_pos (by rw[fG];exact hxN),if_pos rfl]
     rw[hm];refine⟨_,by show Sg.a L.at (aM s)=_;rw[Sg.cH,hs];rfl,?_⟩;rw[<-ht];exact⟨rfl,rfl,jk _ _⟩
    .rw[yv hb,List.getElem?_set_ne (Ne.symm hb)]at ht;rw[wi hxN λ_=>hb];refine⟨ob',?_,?_⟩
     .show Sg.a L.at (inn y (b+1))=_;rw[Sg.fQ,hx];show(match gh b ((a,SV.own s lt k)::ov)with|some _=>none|none=>(M[b]?).map λl=>(⟨ity,lt.w,(lt.enc l).map .p⟩:Ob))=_;grind
     .split at ht
      .cases ht
      .cases hM:M[b]? with
       |none=>grind
       |some l'=>
        rw[hM]at ht;rw[<-mO ht];exact⟨rfl,rfl,jk _ _⟩
   .rw[if_neg hyx]at ht;by_cases hys:y=s
    .grind
    .rw[if_neg hys]at ht;cases ho:L.at y with
     |none=>grind
     |some ob=>
      have hk':=((hL y ob ho).resolve_left hyx).resolve_left hys;unfold BJ at hk';split at hk'
      case h_2=>cases hk'
      rename_i hz;rw[wi (zq hz).1 (by grind)];rw[ho]at ht;refine⟨ob',by show Sg.a L.at (inn y (b+1))=_;rw[Sg.fQ,ho];exact ht,?_⟩;change SOb.inner b ob=some ob' at ht;unfold SOb.inner at ht;split at ht
      .split at ht
       .cases ht
       .rename_i M' _ _ _;cases hM:M'[b]? with
        |none=>grind
        |some l'=>
         rw[hM]at ht;rw[<-mO ht];exact⟨rfl,rfl,jk _ _⟩
      .cases ht
  .change Sg.a _ t=some ob' at ht;rw[Sg.jc _ hno]at ht;cases ht
def I7{a:Nat}:∀{ov:List (Nat×SV)},(∀p∈mC ov a,p)->(ov.filter λq=> !(bB q.1 a))=ov
 |[],_=>rfl
 |q::ov,h=>by
  have h1:a≠q.1:=h _ cE;have h2:bB q.1 a=false:=by
   cases hb:bB q.1 a with
   |true=>simp_all
   |false=>rfl
  rw[List.filter_cons,if_pos (by rw[h2];rfl),I7 λp hp=>h p (cB _ hp)]
def vD(N x s:Nat)(F:Frm):Frm->List Nat
 |[] =>[]
 |(d,_)::r=>match l8 N x s (F.at d)with
  |true=>vD N x s F r
  |false=>d::vD N x s F r
def E4{N x s t:Nat}{F:Frm}:∀{G:Frm},t∈G.map (·.1)->t∈vD N x s F G\/l8 N x s (F.at t)=true
 |[],h=>by grind
 |(d,v)::G,h=>by
  unfold vD;cases hk:l8 N x s (F.at d)with
  |true=>
   rcases bO.1 h with h|h
   .grind
   .exact E4 h
  |false=>
   rcases bO.1 h with h|h
   .grind
   .rcases E4 (G:=G) h with h|h
    .exact .inl (cB _ h)
    grind
def PG{t:Nat}:∀{G:Frm},t∉G.map (·.1)->G.at t=Frm.at [] t
 |[],_=>rfl
 |(d,v)::G,h=>by
  rw[Frm.kz,if_neg (by grind),PG (by grind)]
def xK(N x:Nat)(F:Frm)(L:aP):Option (List Prop×Frm×aP):=match L.at x with
 |some (.fam ty ity lt M ((a,.own s lt' k)::ov))=>(match L.at s with
  |some (.row ity' lt2 l)=>(match decEq lt' lt,decEq lt2 lt,bB ity' ity,iM (ncl x) N,eT (λq:Nat×SV=>l8 N x s q.2) ov,eT (λq:Nat×Option SOb=>match bB q.1 x,bB q.1 s,L.at q.1 with|false,false,some ob=>BJ N x s q.1 ob|_,_,_=>true) L with
   | .isTrue _,.isTrue h,true,true,true,true=>some ((a<M.length)::(k=l.length)::mC ov a,((vD N x s F F).map λd=>(d,SV.any))++F,(x,some (.fam ty ity lt (M.set a (h▸l:List lt.ty)) ov))::(s,none)::L)
   |_,_,_,_,_,_=>none)
  |_=>none)
 |_=>none
def PH{y:Nat}{ob:SOb}:∀{L:aP},L.at y=some ob->∃q∈L,q.1=y
 |[],h=>by cases h
 |(k,o)::L,h=>by
  cases hb:bB y k with
  |true=>simp_all
  |false=>
   have:aP.at L y=some ob:=by change (match bB y k with|true=>o|false=>aP.at L y)=some ob at h;rw[hb]at h;exact h
   obtain⟨q,h1,h2⟩:=PH this;grind
def TC{n N0 N x:Nat}{F F':Frm}{L L':aP}{ps:List Prop}(h:xK N x F L=some (ps,F',L'))(hp:∀p∈ps,p):fV (F.av n) L.fn N0 (F'.av n) L'.fn N:=by
 unfold xK at h;split at h
 case h_2=>cases h
 rename_i ty ity lt M a s lt' k ov hx;split at h
 case h_2=>cases h
 rename_i ity' lt2 l hs;split at h
 case h_2=>cases h
 rename_i e1 e2 _ _ hi hN hov hL;subst e1;subst e2;cases h;have hi:=dM hi;subst hi;have hne:∀p∈mC ov a,p:=by grind
 have:=VH (n:=n) (N0:=N0) (N:=N) (F:=F) (hav:=vD N x s F F) hx hs (hp _ (by grind)) (hp _ (by grind)) ((jn _ _).1 hN) (λq hq _=>gR hov q hq) (λt _=> ?_) (λy ob ho=> ?_)
 .rw[I7 hne]at this;exact this
 .by_cases hm:t∈F.map (·.1)
  .exact E4 hm
  .right;rw[PG hm];rfl
 .obtain⟨q,hq,rfl⟩:=PH ho;have:=gR hL q hq;split at this
  .grind
  .by_cases hx':q.1=x
   .omega
   .by_cases hs':q.1=s
    .omega
    .have b1:bB q.1 x=false:=by
      cases hb:bB q.1 x with
      |true=>exact absurd (dM hb) hx'
      |false=>rfl
     have b2:bB q.1 s=false:=by
      cases hb:bB q.1 s with
      |true=>exact absurd (dM hb) hs'
      |false=>rfl
     grind
def sP(N:Nat):Nat->List Nat->Frm->aP->List Prop×Frm×aP
 |0,_,F,L=>([],F,L)
 |_+1,[],F,L=>([],F,L)
 |f+1,x::xs,F,L=>match xK N x F L with
  |some (ps,F',L')=>(match sP N f (x::xs) F' L' with|(qs,r)=>(ps++qs,r))
  |none=>sP N f xs F L
def DL{n N:Nat}:∀{f:Nat} {xs:List Nat} {F F':Frm} {L L':aP} {ps:List Prop},sP N f xs F L=(ps,F',L')->(∀p∈ps,p)->∀N0,(ps=[]/\F'=F/\L'=L)\/fV (F.av n) L.fn N0 (F'.av n) L'.fn N
 |0,xs,F,F',L,L',ps,h,_,_=>by cases h;grind
 |f+1,[],F,F',L,L',ps,h,_,_=>by cases h;grind
 |f+1,x::xs,F,F',L,L',ps,h,hp,N0=>by
  unfold sP at h;split at h
  .rename_i p1 F1 L1 h1;split at h;rename_i qs r h2;cases h;have w1:=TC (n:=n) (N0:=N0) h1 λp hq=>hp p (by grind);rcases DL (n:=n) h2 (λp hq=>hp p (by grind)) N with⟨_,rfl,rfl⟩|w2
   .exact .inr w1
   .exact .inr λC0 B wI a w hst=>w2 C0 B wI a w (w1 C0 B wI a w hst)
  .exact DL h hp N0
def TY{N x:Nat}{F F':Frm}{L L':aP}{ps:List Prop}(h:xK N x F L=some (ps,F',L')):(∃p,F'=p++F)/\∃q,L'=q++L:=by
 unfold xK at h;split at h
 case h_2=>cases h
 split at h
 case h_2=>cases h
 split at h
 case h_2=>cases h
 cases h;exact⟨⟨_,rfl⟩,⟨[(_,_),(_,_)],rfl⟩⟩
def Df{N:Nat}:∀{f:Nat} {xs:List Nat} {F F':Frm} {L L':aP} {ps:List Prop},sP N f xs F L=(ps,F',L')->(∃p,F'=p++F)/\∃q,L'=q++L
 |0,xs,F,F',L,L',ps,h=>by cases h;simp_all
 |f+1,[],F,F',L,L',ps,h=>by cases h;simp_all
 |f+1,x::xs,F,F',L,L',ps,h=>by
  unfold sP at h;split at h
  .rename_i p1 F1 L1 h1;split at h;rename_i qs r h2;obtain⟨⟨p,e1⟩,⟨q,e2⟩⟩:=TY h1;obtain⟨⟨p',e3⟩,⟨q',e4⟩⟩:=Df h2;grind
  .exact Df h
def GP:aP->List Nat
 |[] =>[]
 |(k,some (.fam ..))::L=>k::GP L
 |_::L=>GP L
end
end
def frS(s:Nat)(cells:List PV)(x' y:AV):Prop:=x'= .any\/x'=y\/∃n,y= .own s 0 n/\x'= .p (.sl n cells)
def frO(s:Nat)(cells:List PV)(o:Option Ob)(ob:Ob):Prop:=o=some ob\/∃ob0,o=some ob0/\ob.ty=ob0.ty/\ob.esz=ob0.esz/\¬(ob.esz=0/\(ob.ty=0\/ob.ty=1))/\ob.cells.length=ob0.cells.length/\
 ∀(i:Nat) x,ob.cells[i]? =some x->∃y,ob0.cells[i]? =some y/\frS s cells x y
def frO.get{s:Nat}{cells:List PV}{o:Option Ob}{ob:Ob}(h:frO s cells o ob):∃ob0,o=some ob0/\ob.ty=ob0.ty/\ob.esz=ob0.esz:=by
 rcases h with h|⟨ob0,h1,h2,h3,_⟩
 .grind
 grind
def C7{F F':List AV}{L L':Sto}{N:Nat}{ty esz:Nat}(s:Nat)(cells:List PV)(hs:L s=some ⟨ty,esz,cells.map .p⟩)(hz:esz≠0)(hl:F'.length=F.length)
  (hF:∀t,t<F.length->frS s cells (F'.getD t .any) (F.getD t .any)) (hL:∀k ob,L' k=some ob->k≠s/\frO s cells (L k) ob):fV F L N F' L' N:=by
 intro C0 B wI a w ⟨⟨ρ,s1,s2,s3⟩,s4,s5,s6,s7⟩;have hdead:∀k,L k=none->L' k=none:=by
  intro k hk;cases h:L' k with
  |none=>rfl
  |some ob=>obtain⟨ob0,h0,_⟩:=(hL k ob h).2.get;grind
 have hmono:∀b o v,bE C0 B w ρ L b o v->bE C0 B w ρ L' b o v:=λb o v ⟨e1,e2,e3⟩=>⟨e1,λk c h=>hdead k (e2 k c h),e3⟩;have hone:∀x' y v,frS s cells x' y->aR ρ (bE C0 B w ρ L) y v->aR ρ (bE C0 B w ρ L') x' v:=by
  rintro x' y v (rfl|rfl|⟨n,rfl,rfl⟩) hv
  .unfold aR;trivial
  .exact aR.mono (λ_ _ h=>h) hmono _ v hv
  .unfold aR at hv|-;obtain⟨q,c,hρ,hcase⟩:=hv;obtain⟨q2,c2,hρ2,hob⟩:=s1.ob s _ hs;rw[hρ]at hρ2;cases hρ2;unfold aU;rcases hcase with⟨h1,h4,h5,_⟩|⟨b,o',c',h1,h4,h5,h6,h7⟩
   .subst h5;rcases hob with⟨_,⟨_,h8,_⟩|⟨h8,_⟩⟩|⟨b,arr,h8,_⟩
    .exact⟨none,0,h4,bQ _,λ_=>⟨rfl,by simp_all⟩,λad e=>by cases e⟩
    .grind
    grind
   .obtain⟨rfl,rfl⟩:=h7 rfl;rcases hob with⟨h8,_⟩|⟨b2,arr,h8,h9,h10⟩
    .grind
    .rw[h1]at h8;cases h8;refine⟨_,c',h4,h5,(λe=>by cases e),λad e=> ?_⟩;cases e;refine⟨λ_=>rfl,cK.of _ _ _ λi x hi=> ?_⟩;obtain⟨u,k1,k2,k3⟩:=h10.cells i (.p x) (by grind);unfold aR at k3;refine⟨u,⟨by rw[jg,h10.cell];exact k1,λk c2 hk=> ?_,.inl h9⟩,k2,aU.mono hmono x u k3⟩;cases h:L' k with
     |none=>rfl
     |some ob=>
      obtain⟨hne,h2⟩:=hL k ob h;obtain⟨ob0,h2,_⟩:=h2.get;exact absurd (s1.inj k s ob0 _ b c2 c' h2 hs hk (by rw[hρ,h1])) hne
 refine⟨⟨ρ,⟨?_,?_,?_⟩,s2,?_⟩,s4,s5,by rw[s6,hl],s7⟩
 .intro k ob hk;obtain⟨hne,h2|⟨ob0,h2,g1,g2,g3,g4,g5⟩⟩:=hL k ob hk
  .obtain⟨q,c,hρ,hcase⟩:=s1.ob k ob h2;refine⟨q,c,hρ,?_⟩;rcases hcase with⟨g1,g2⟩|⟨b,arr,g1,g2,g3⟩
   .refine .inl ⟨g1,?_⟩;rcases g2 with g2|⟨g2,g3⟩
    .exact .inl g2
    .exact .inr ⟨g2,g3.mono (λ_ _ h=>h) hmono λ_ _ _ _=>rfl⟩
   .refine .inr ⟨b,arr,g1,g2,⟨g3.blk,g3.box,g3.row,λi x hi=> ?_⟩⟩;obtain⟨v,m1,m2,m3⟩:=g3.cells i x hi;exact⟨v,m1,m2,aR.mono (λ_ _ h=>h) hmono _ v m3⟩
  .obtain⟨q,c,hρ,hcase⟩:=s1.ob k ob0 h2;refine⟨q,c,hρ,?_⟩;rcases hcase with⟨k1,⟨k2,k3,k4⟩|⟨k2,k3⟩⟩|⟨b,arr,k1,k2,k3⟩
   .grind
   .exfalso;refine g3 ⟨by omega,?_⟩;rw[g1];rcases k3 with⟨k3,_⟩|⟨k3,_⟩
    .exact .inl k3
    grind
   .refine .inr ⟨b,arr,k1,k2,⟨by rw[g1];exact k3.blk,λh=>by rw[g4];exact k3.box (by omega),λh=>by rw[g4,g2];exact k3.row (by omega),λi x hi=> ?_⟩⟩;obtain⟨y,y1,y2⟩:=g5 i x hi;obtain⟨v,m1,m2,m3⟩:=k3.cells i y y1;grind
 .intro k k' o o' b c c' h1 h2 h3 h4;obtain⟨o1,e1,_⟩:=(hL k o h1).2.get;obtain⟨o2,e2,_⟩:=(hL k' o' h2).2.get;exact s1.inj k k' o1 o2 b c c' e1 e2 h3 h4
 .intro k k' o o' c c' h1 h2 h3 h4 h5 h6 h7;obtain⟨o1,e1,a1,a2⟩:=(hL k o h1).2.get;obtain⟨o2,e2,b1,b2⟩:=(hL k' o' h2).2.get;refine s1.mpi k k' o1 o2 c c' e1 e2 (by omega) (by omega) h5 h6 ?_;unfold rC at h7|-;grind
 .intro t;rcases nF t F.length with h|h
  .grind
  .rw[de,lS (by omega)];show aR _ _ .any _;unfold aR;trivial
end Go.Proofs.YtdaeofhdgabhjaaGreat
