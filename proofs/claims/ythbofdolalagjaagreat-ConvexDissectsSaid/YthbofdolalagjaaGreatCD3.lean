/- Part 3 of what the statement stands on -/
import Derived.Test.YthbofdolalagjaaGreatCD2
import Derived.Scope
import Derived.MapKept
import Derived.IntWalk
set_option linter.all false
set_option maxRecDepth 100000
set_option maxHeartbeats 8000000
open Option renaming none->aM,some->aD,bind_eq_some_iff->tV,map_eq_some_iff->oW,map_some->fk,getD_some->pf,some.injEq->iG,bind_some->tU
open List renaming map_cons->dU,mem_cons->bO,mem_append_left->iS,mem_append_right->iF,length->aA,getElem?_append_left->qU,getElem?_append_right->mg,lookup->jS,getElem?_map->ip,getElem?_eq_getElem->fQ,replicate->dO,mem_flatten->ml,mem_replicate->WD,length_map->dq,take_of_length_le->jB,lookup_cons->eZ,range->bT,getElem?_range->Ll,map_append->dV,all_eq_true->cC,mem_range->cP,any_eq_true->kX,getD_eq_getElem?_getD->fY,getElem?_set_ne->WF,mem_filterMap->Lm,not_mem_nil->cp,getElem?_eq_none->oZ,getElem?_set->Bm,range'->FZ,length_cons->iE,getElem?_replicate->Fb,cons.injEq->re,getElem_of_mem->jQ,mem_map->bn,pairwise_cons->jA,getElem?_eq_some_iff->Bs,ext_getElem?->FY,flatMap_cons->fw,length_take->mK,take_left->Fe,take_append_drop->vD,drop_eq_nil_of_le->WC,mem_singleton->cI,map_drop->Ff,map_take->Fg,map_map->du,mem_cons_self->cR,mem_cons_of_mem->cM,ext_getElem->wg,append_assoc->kw,map_congr_left->lg,replicate_succ->y9,take_length->ri,drop_zero->Fh,mem_append->bz,getElem_map->kz,map_nil->qV
open Nat renaming zero_add->ku,decEq->rb,le_mul_of_pos_right->WE,mul_eq_zero->Lh,le_refl->bR,zero_le->lh,lt_or_ge->pV,le_trans->cZ,add_mul->Bo,min_eq_left->Lo,mul_le_mul_right->Bp,sub_add_cancel->LO,beq->bZ,ne_of_beq_eq_false->oc,blt->jt,ble->ph,le_of_ble_eq_true->rh,eq_of_beq_eq_true->eL,add_assoc->u4
open Bool renaming false->aK,true->aE,and_eq_true->cD,false_eq_true->mf,or_eq_true->jd
open Go.Sem renaming run_bind->dY,run_pure->fD,run->iT
open Go.Result renaming andThen_ok->dr,andThen->Br
open Go.World renaming cell?_of_block->kc,block_lt_of_cell?->lj
open Array renaming map->wq,toList_inj->rY,length_toList->Bn,getD_eq_getD_getElem?->js,getElem?_setIfInBounds->Bk,replicate->rW,getElem?_append_left->Ln,getElem?_append_right->WG,getElem?_replicate->Ld,mapM_eq_mapM_toList->WH
open Go.Deferred renaming ofValue->wu
open Go.Op renaming operands->dM
open Go.Call renaming operands->k9
open Go.IntKind renaming i64->kJ
open Go.Region renaming binds->kH,wanted->kI
open Go.Code renaming region->FS,rounds->Fa
open Go.Act renaming put->tR
open Go.Value renaming int->dN
open Prod renaming mk.injEq->wo
open Go.Obj renaming map->y8
open Go.Proofs.Tryz renaming prog->bi
open Int renaming toNat_natCast->ju,le_refl->kY
open Go.RowKit
open Go.Proofs.YthbofdolalagjaaGreat.Geo
open Go.Proofs.YthbofdolalagjaaGreat.Geo renaming nth->aI7
namespace Go.Proofs.YthbofdolalagjaaGreat
def aFI(C0:bf)(B:Nat)(w:World):bf:=λb o v=>w.cell? ⟨b,o,aM⟩=aD v/\(B<=b\/C0 b o v)
def fM{α β:Type}(f:α->Option β):List α->Option (List β)
 |[] =>aD []
 |x::l=>match f x,fM f l with
  |some y,aD m=>aD (y::m)
  |_,_=>aM
def bl{α β:Type}(f:α->List β):List α->List β
 |[] =>[]
 |x::l=>f x++bl f l
def eK:Nat->(Nat->Option Ob)->AV->Option PV
 |_,_,.p x=>aD x
 |_,_,.nil=>aD (.sl 0 [])
 |d+1,σ,.own s o m=>(σ s).bind λob=>(fM (eK d σ) ob.cells).map λl=> .sl m ((l.drop o).take (m*ob.esz))
 |d+1,σ,.ptr s off=>(σ s).bind λob=>(fM (eK d σ) ob.cells).map λl=> .pro l off
 |d+1,σ,.agg l=>(fM (eK d σ) l).map .agg
 |d+1,σ,.fn f a b=>(fM (eK d σ) a).bind λx=>(fM (eK d σ) b).map λy=> .fn f x y
 |_,_,_=>aM
def cu:Nat->(Nat->Option Ob)->AV->List Nat
 |0,_,_=>[]
 |d+1,σ,.own s _ _=>s::(match σ s with|some ob=>bl (cu d σ) ob.cells|none=>[])
 |d+1,σ,.ptr s _=>s::(match σ s with|some ob=>bl (cu d σ) ob.cells|none=>[])
 |d+1,σ,.agg l=>bl (cu d σ) l
 |d+1,σ,.fn _ a b=>bl (cu d σ) a++bl (cu d σ) b
 |_,_,_=>[]
def Ja(d:Nat)(σ:Nat->Option Ob)(x:PV):eK d σ (.p x)=aD x:=by cases d<;>rfl
def vm(d:Nat)(σ:Nat->Option Ob):∀(l:List PV),fM (eK d σ) (l.map .p)=aD l
 |[] =>rfl
 |x::l=>by simp only[dU,fM,Ja,vm d σ l]
def aER(d:Nat)(σ:Nat->Option Ob)(x:PV):cu d σ (.p x)=[] :=by cases d<;>rfl
def sI(d:Nat)(σ:Nat->Option Ob):∀(l:List PV),bl (cu d σ) (l.map .p)=[]
 |[] =>rfl
 |x::l=>by simp only[dU,bl,aER,sI d σ l,List.append_nil]
def qf{α β:Type}{f:α->List β}{x:α}{y:β}:∀{l:List α},x∈l->y∈f x->y∈bl f l
 |a::l,h,hy=>by
  rcases bO.1 h with rfl|h
  .exact iS _ hy
  .exact iF _ (qf h hy)
def qj{α β:Type}{f:α->Option β}:∀{l:List α} {m:List β},fM f l=aD m->aA l=(aA m)/\∀(i:Nat) x,l[i]? =aD x->∃y,m[i]? =aD y/\f x=aD y
 |[],m,h=>by simp[fM]at h;grind
 |a::l,m,h=>by
  unfold fM at h;split at h
  .rename_i y r h1 h2;obtain⟨g1,g2⟩:=qj h2;grind
  .cases h
section
variable {P:Program}
def Hv{C0:bf}{ρ:Ren}{g σ:Nat->Option Ob}{w:World}{B:Nat}(hs:StR C0 ρ g w B)(T:bf)(S:Nat->Prop)(hfull:∀b o v,bV C0 B w ρ g b o v->T b o v)(hT:∀s ob b c,S s->g s=aD ob->ρ s=aD (aD b,c)->B<=b->∀o v,w.cell? ⟨b,o,aM⟩=aD v->T b o v):∀(d:Nat) (x:AV) (y:PV) (v:Value),eK d σ x=aD y->(∀s∈cu d σ x,S s/\g s=σ s)->ai ρ (bV C0 B w ρ g) x v->bE T y v:=by
 intro d;induction d with
 |zero=>
  intro x y v h hr hx;unfold eK at h;split at h<;>first|(cases h;done)|skip
  .cases h;exact bE.mono hfull _ v hx
  .cases h;unfold ai at hx;unfold bE;grind
  all_goals (rename_i e;cases e)
 |succ d ih=>
  have ihL:∀(l:List AV) (m:List PV) (vs:List Value),fM (eK d σ) l=aD m->(∀s∈bl (cu d σ) l,S s/\g s=σ s)->bY ρ (bV C0 B w ρ g) l vs->bk T m vs:=by
   intro l m vs h hr hv;obtain⟨h1,h2⟩:=qj h;refine bk.of _ _ (by rw[<-h1];exact hv.length) λi y hi=> ?_;have hlt:i<aA l:=by rw[h1];grind
   obtain⟨y',h3,h4⟩:=h2 i l[i] aH;rw[hi]at h3;cases h3;obtain⟨v,h5,h6⟩:=hv.get _ _ i l[i] aH;exact⟨v,h5,ih _ _ v h4 (λs hs'=>hr s (qf aH hs')) h6⟩
  have ihC:∀(s b c:Nat) (ob:Ob) (m:List PV),S s->g s=aD ob->ρ s=aD (aD b,c)->fM (eK d σ) ob.cells=aD m->(∀s∈bl (cu d σ) ob.cells,S s/\g s=σ s)->dp T m b 0:=by
   intro s b c ob m hS h1 h2 h3 h4;obtain⟨hBb,arr,hO⟩:=hs.at h1 h2;obtain⟨g1,g2⟩:=qj h3;refine dp.of _ _ _ λi y hi=> ?_;have hlt:i<aA ob.cells:=by rw[g1];grind
   obtain⟨y',h5,h6⟩:=g2 i ob.cells[i] aH;rw[hi]at h5;cases h5;obtain⟨v,k1,k2,k3⟩:=hO.cells i ob.cells[i] aH;refine⟨v,?_,k2,ih _ _ v h6 (λs hs'=>h4 s (qf aH hs')) k3⟩;refine hT s ob b c hS h1 h2 hBb _ _ ?_;rw[ku,hO.cell];exact k1
  intro x y v h hr hx;unfold eK at h;split at h
  .cases h;exact bE.mono hfull _ v hx
  .cases h;unfold ai at hx;unfold bE;grind
  .rename_i σ _ _ _ d' s o m e;cases e;simp only[tV,oW]at h;obtain⟨ob,h1,l,h2,rfl⟩:=h;have hg:g s=aD ob:=(hr s (by simp[cu])).2.trans h1;have hSs:=(hr s (by simp[cu])).1;have hr2:∀s'∈bl (cu d σ) ob.cells,S s'/\g s'=σ s':=λs' hs'=>hr s' (by simp only[cu,h1];grind);unfold bE;obtain⟨q,c,hq,⟨rfl,hv,rfl,rfl⟩|⟨b,o',c',rfl,hv,h5,h6,h7⟩⟩:=hx
   .grind
   .refine⟨_,c',hv,h5,aH,λad e=> ?_⟩;cases e;by_cases hm:m=0
    .subst hm;simp;trivial
    .have e:=h6 hm;have:=((ihC s b c ob l hSs hg hq h2 hr2).drop o').take (m*ob.esz);grind
  .rename_i σ _ _ _ d' s off e;simp only[tV,oW]at h;obtain⟨ob,h1,l,h2,rfl⟩:=h;have hg:g s=aD ob:=(hr s (by simp[cu])).2.trans h1;have hSs:=(hr s (by simp[cu])).1;have hr2:∀s'∈bl (cu d σ) ob.cells,S s'/\g s'=σ s':=λs' hs'=>hr s' (by simp only[cu,h1];grind);unfold ai at hx;unfold bE;grind
  .rename_i d' l e;cases e;simp only[oW]at h;obtain⟨m,h2,rfl⟩:=h;obtain⟨vs,h3,h4,h5⟩:=hx;exact⟨vs,h3,ihL l m vs h2 (λs hs'=>hr s hs') h4,h5⟩
  .rename_i d' f a b e;cases e;simp only[tV,oW]at h;obtain⟨x1,h1,x2,h2,rfl⟩:=h;obtain⟨vs1,vs2,h3,h4,h5⟩:=hx;exact⟨vs1,vs2,h3,ihL a x1 vs1 h1 (λs hs'=>hr s (iS _ hs')) h4,ihL b x2 vs2 h2 (λs hs'=>hr s (iF _ hs')) h5⟩
  .cases h
def lT(P:Program)(f:FuncId):Bool:=((P.funcs[f]?).map λfn=> !(fn.name== "runtime.NumGoroutine")&& !fn.body.isNone).getD aK
def Sat(P:Program)(fr:Bool)(f:FuncId)(A:List PV)(r:PV):Prop:=lT P f=aE/\
 ∀(C:bf) (w:World) (vs:List Value),(∀b o v,C b o v->w.cell? ⟨b,o,aM⟩=aD v)->bk C A vs->
  Calls P f vs.toArray w λe w'=>∃v,e= .returned v/\bE (λb o x=>(fr=aK/\C b o x)\/(w.heap.size<=b/\w'.cell? ⟨b,o,aM⟩=aD x)) r v/\Below w.heap.size w w'
def nP{f:FuncId}(h:lT P f=aE)(args:Array Value)(w:World):(callFunc f args).run P w= .ok (.enter f args) w:=by
 unfold lT at h;cases hf:P.funcs[f]? with
 |none=>grind
 |some fn=>
  rw[hf]at h;simp only[fk,pf,cD,Bool.not_eq_true']at h;simp only[callFunc,dY,run_program,dr,hf,h.1,h.2,mf,if_false,fD]
structure Lent(C:bf)(w:World)(b c:Nat)(ty:TypeId)(esz:Nat)(cells:List PV)(arr:Array Value):Prop where
 blk:w.heap[b]? =aD (.cells arr ty (0,0))
 box:esz=0->arr.size=aA cells
 row:esz≠0->arr.size=c*esz/\(aA cells)<=arr.size/\c<=maxLen
 cells:∀(i:Nat) x,cells[i]? =aD x->∃v,arr[i]? =aD v/\v.oneCell'=aE/\bE C x v
def Te(n:Option Nat)(b c:Nat):Value:=match n with
 |none=> .pointer (aD ⟨b,0,aM⟩)
 |some n=> .slice (aD ⟨b,0,aM⟩) n c
def pS(P:Program)(f:FuncId)(n:Option Nat)(A:List PV)(ty:TypeId)(esz:Nat)(cells cells':List PV):Prop:=lT P f=aE/\(aA cells')=(aA cells)/\
 (∀(C:bf) (w:World) (b c:Nat) (arr:Array Value) (vs:List Value),(∀b' o v,C b' o v->w.cell? ⟨b',o,aM⟩=aD v/\b'≠b)->Lent C w b c ty esz cells arr->(∀m,n=aD m->m<=c)->bk C A vs->
   Calls P f (Te n b c::vs).toArray w λe w'=>∃arr',e= .returned Go.undef/\Lent C w' b c ty esz cells' arr'/\w.grownBy w' (aD b))/\
 (n=aD 0->∀(C:bf) (w:World) (vs:List Value),(∀b' o v,C b' o v->w.cell? ⟨b',o,aM⟩=aD v)->bk C A vs->
   Calls P f (.slice aM 0 0::vs).toArray w λe w'=>e= .returned Go.undef/\Below w.heap.size w w')
def JG(P:Program)(σ:Nat->Option Ob)(f:FuncId)(avs:List AV)(K:Res):Prop:=match avs with
 | .ptr s 0::rest=>∃ty cells,σ s=aD ⟨ty,0,cells.map .p⟩/\∃A cells',bm rest=aD A/\pS P f aM A ty 0 cells cells'/\K .undef [s] [(s,aD ⟨ty,0,cells'.map .p⟩)]
 | .own s 0 n::rest=>∃ty esz cells,σ s=aD ⟨ty,esz,cells.map .p⟩/\esz≠0/\∃A cells',bm rest=aD A/\pS P f (aD n) A ty esz cells cells'/\K .undef [s] [(s,aD ⟨ty,esz,cells'.map .p⟩)]
 |_=>False
def aD0(P:Program)(σ:Nat->Option Ob)(f:FuncId)(avs:List AV)(K:Res):Prop:=
 ∃A,fM (eK 3 σ) avs=aD A/\∃fr r,Sat P fr f A r/\(((fr=aE\/bm avs=aD A)/\K (.p r) (bl (cu 3 σ) avs) [])\/K (.p r) (bl (cu 3 σ) avs) ((bl (cu 3 σ) avs).map (·,aM)))
def sP(P:Program)(σ:Nat->Option Ob)(f:FuncId)(avs:List AV)(K:Res):Prop:=aD0 P σ f avs K\/JG P σ f avs K
def El(P:Program)(σ:Nat->Option Ob)(fv:AV)(args:List AV)(K:Res):Prop:=match fv with
 | .fn (.func f) first caps=>sP P σ f (first++args++caps) K
 | .p (.fn (.func f) first caps)=>sP P σ f (first.map .p++args++caps.map .p) K
 |_=>False
variable {o:Oper} {E:Operand->AV} {σ:Nat->Option Ob} {n:Nat}
def bY.append{ρ:Ren}{C:bf}{l m:List AV}{vs us:List Value}(h:bY ρ C l vs)(k:bY ρ C m us):bY ρ C (l++m) (vs++us):=
 bY.of _ _ (by simp[h.length,k.length]) λi x hi=>by
  have hl:=h.length;by_cases hlt:i<aA l
  .rw[qU hlt]at hi;rw[qU aC];exact h.get _ _ i x hi
  .rw[mg aC]at hi;rw[mg aC,hl];exact k.get _ _ _ x hi
def O8{s n0:Nat}{nn:Option Nat}{f:FuncId}{A:List PV}{ty esz:Nat}{cells cells':List PV}(hob:σ s=aD ⟨ty,esz,cells.map .p⟩)(hS:pS P f nn A ty esz cells cells')
  (hkind:(nn=aM/\esz=0)\/(nn=aD n0/\esz≠0))
  (hrun:∀(ρ:Ren) (C:bf) (V:Nat->Value) (w:World),(∀x∈o.op.operands.toList,ai ρ C (E x) (bj V x))->∃v us,(execOp (bj V) o).run P w= .ok (.enter f (v::us).toArray) w/\bk C A us/\
    ai ρ C (match nn with|none=> .ptr s 0|some n0=> .own s 0 n0) v):bq P o E σ n .undef [s] [(s,aD ⟨ty,esz,cells'.map .p⟩)] :=by
 obtain⟨_,hlen,hcall,hnil⟩:=hS;intro C0 ρ g V w B hs hB hR hn hgn hE;obtain⟨v,us,hr,hA,hv⟩:=hrun ρ _ V w hE;have hgs:g s=aD ⟨ty,esz,cells.map .p⟩:=aH;unfold cv;rw[hr];dsimp only;have hlk:∀s',s'≠s->[(s,aD (⟨ty,esz,cells'.map .p⟩:Ob))].lookup s'=aM:=by intro s' hs';simp[jS,beq_eq_false_iff_ne.2 hs']
 have hup:∀s',s'≠s->bM g [(s,aD ⟨ty,esz,cells'.map .p⟩)] s'=g s':=by intro s' hs';unfold bM;rw[hlk s' hs']
 have hat:∀s' o',[(s,aD (⟨ty,esz,cells'.map .p⟩:Ob))].lookup s'=aD (aD o')->s'=s/\o'=⟨ty,esz,cells'.map .p⟩:=by
  intro s' o' e;have e1:s'=s:=by
   rcases rb s' s with h|h
   .grind
   .exact h
  subst e1;simp[jS]at e;exact⟨rfl,e.symm⟩
 have hlt:∀s ob b c,g s=aD ob->ρ s=aD (aD b,c)->b<w.heap.size:=by intro s ob b c e1 e2;obtain⟨_,arr,e3⟩:=hs.at e1 e2;exact e3.lt
 have real:∀b c,ρ s=aD (aD b,c)->v=Te nn b c->(∀m,nn=aD m->m<=c)->
   Calls P f (v::us).toArray w λe w''=>∃v,e= .returned v/\∃ρ':Ren,(∀s,cls s≠n->ρ' s=ρ s)/\(∀b o' x,bV C0 B w ρ g b o' x->bV C0 B w'' ρ' (bM g [(s,aD ⟨ty,esz,cells'.map .p⟩)]) b o' x)/\
    StR C0 ρ' (bM g [(s,aD ⟨ty,esz,cells'.map .p⟩)]) w'' B/\ai ρ' (bV C0 B w'' ρ' (bM g [(s,aD ⟨ty,esz,cells'.map .p⟩)])) .undef v/\Below B w w'':=by
  intro b c hρ hv hnc;obtain⟨hBb,arr,hO⟩:=hs.at hgs hρ;subst hv;have hL:Lent (bV C0 B w ρ g) w b c ty esz cells arr:=by refine⟨hO.blk,λh=>by simpa using hO.box h,λh=>by simpa using hO.row h,λi x hi=> ?_⟩;obtain⟨u,h1,h2,h3⟩:=hO.cells i (.p x) aH;unfold ai at h3;grind
  refine(hcall _ w b c arr us (λb' o' x hx=>⟨hx.1,λe=>by subst e;have:=hx.2.1 s c hρ;grind⟩) hL hnc hA).mono ?_;rintro e w' ⟨arr',rfl,hL',hG⟩;have hold:∀k,k<w.heap.size->k≠b->w'.heap[k]? =w.heap[k]? :=λk h1 h2=>hG.block k h1 aH;have hmono:∀b' o' x,bV C0 B w ρ g b' o' x->bV C0 B w' ρ (bM g [(s,aD ⟨ty,esz,cells'.map .p⟩)]) b' o' x:=by
   intro b' o' x ⟨e1,e2,e0⟩;have hne:b'≠b:=λe=>aH;refine⟨(kc (hold b' (lj w ⟨b',o',aM⟩ e1) hne)).trans e1,?_,e0⟩;intro s' c' e3;by_cases e:s'=s
   .grind
   .grind
  refine⟨_,rfl,ρ,λ_ _=>rfl,hmono,?_,by rfl,⟨hG.os,hG.tape,hG.output,hG.size,aH⟩⟩;refine hs.step aH (λ_ _ h=>h) hmono ?_ ?_ λk es clock hk=>hold k (vp hk) (x8 hk hO.blk)
  .intro s' o' b' c' e1 e2 e3;refine hold b' aH λe=> ?_;subst e;have:=hs.inj s s' _ o' b' c c' hgs e2 hρ e3;grind
  .intro s' o' e;obtain⟨rfl,rfl⟩:=hat s' o' e;refine⟨aD b,c,hρ,.inr ⟨b,arr',rfl,hBb,⟨hL'.blk,λh=>by simpa using hL'.box h,λh=>by simpa using hL'.row h,?_⟩,?_⟩⟩
   .intro i x hi;rw[ip]at hi;cases hc:cells'[i]? with
    |none=>grind
    |some y=>
     rw[hc]at hi;simp only[fk,iG]at hi;subst hi;obtain⟨u,h1,h2,h3⟩:=hL'.cells i y hc;exact⟨u,h1,h2,by exact bE.mono hmono y u h3⟩
   .intro s2 o' c' hne e3 e4;rw[hup s2 hne]at e3;exact hne (hs.inj s' s2 _ o' b c c' hgs e3 hρ e4).symm
 rcases hkind with⟨rfl,he⟩|⟨rfl,he⟩
 .obtain⟨b,c,hρ,hv⟩:=hv;exact real b c hρ hv aH
 .obtain⟨q,c,hρ,⟨rfl,hv,rfl,_⟩|⟨b,o',c',rfl,hv,h5,h6,h7⟩⟩:=hv
  .subst hv;have hcn:cells'=[] :=by
    obtain⟨q,c2,h1,⟨_,h2|h2⟩|⟨b,arr,h2,_⟩⟩:=hs.ob s _ hgs
    rotate_left
    .grind
    rotate_left
    .have:(cells.map AV.p)=[] :=h2.2.1;have:aA cells=0:=by simpa using congrArg aA this
     grind
    .grind
   refine(hnil rfl _ w us (λb' o' x hx=>hx.1) hA).mono ?_;rintro e w' ⟨rfl,hb⟩;have hold:∀k,k<w.heap.size->w'.heap[k]? =w.heap[k]? :=λk hk=>hb.block k hk;have hmono:∀b' o' x,bV C0 B w ρ g b' o' x->bV C0 B w' ρ (bM g [(s,aD ⟨ty,esz,cells'.map .p⟩)]) b' o' x:=by
    intro b' o' x ⟨e1,e2,e0⟩;refine⟨(kc (hold b' (lj w ⟨b',o',aM⟩ e1))).trans e1,?_,e0⟩;intro s' c' e3;by_cases e:s'=s
    .grind
    .grind
   refine⟨_,rfl,ρ,λ_ _=>rfl,hmono,?_,by rfl,hb.mono hB⟩;refine hs.step aH (λ_ _ h=>h) hmono aH ?_ aH;intro s' o' e;obtain⟨rfl,rfl⟩:=hat s' o' e;obtain⟨q,c2,h1,⟨_,h2|h2⟩|⟨b,arr,h2,_⟩⟩:=hs.ob s' _ hgs
   .grind
   .grind
   grind
  .obtain⟨rfl,rfl⟩:=h7 rfl;exact real b c' hρ hv aH
def aAS{c:Call}{f:Operand}{fid:FuncId}{first caps:List AV}(hfm:f∈o.op.operands.toList)(ham:∀x∈c.args.toList,x∈o.op.operands.toList)(ho:o.op= .call c)(hc:c.callee= .value f)
  (hfv:∀ρ C v,ai ρ C (E f) v->∃vs1 vs2:List Value,v= .func (.func fid) vs1.toArray vs2.toArray/\bY ρ C first vs1/\bY ρ C caps vs2) {K:Res}
  (h:JG P σ fid (first++c.args.toList.map E++caps) K):∃r R W,bq P o E σ n r R W/\K r R W:=by
 have hrun:lT P fid=aE->∀(ρ:Ren) (C:bf) (V:Nat->Value) (w:World),(∀x∈o.op.operands.toList,ai ρ C (E x) (bj V x))->∃us,(execOp (bj V) o).run P w= .ok (.enter fid us.toArray) w/\bY ρ C (first++c.args.toList.map E++caps) us:=by
  intro hok ρ C V w hE;obtain⟨vs1,vs2,hv,q1,q2⟩:=hfv _ _ _ (hE f hfm);have hargs:∀l:List Operand,(∀x∈l,x∈o.op.operands.toList)->bY ρ C (l.map E) (l.map (bj V)):=by
   intro l;induction l with
   |nil=>intro _;rfl
   |cons x l ih=>
    unfold bY;grind
  refine⟨vs1++c.args.toList.map (bj V)++vs2,?_,(q1.append (hargs _ ham)).append q2⟩;unfold execOp;rw[ho];have e2:vs1.toArray++wq (bj V) c.args++vs2.toArray=(vs1++c.args.toList.map (bj V)++vs2).toArray:=by apply rY.1;simp
  simp only[resolve,hc,hv,wu,dY,fD,dr,invoke,nP hok,e2]
 generalize first++c.args.toList.map E++caps=avs at h hrun
 unfold JG at h;split at h
 .obtain⟨ty,cells,hob,A,cells',hA,hS,hK⟩:=h;refine⟨_,_,_,O8 (n0:=0) hob hS aH ?_,hK⟩;intro ρ C V w hE;obtain⟨us,h1,h2⟩:=hrun hS.1 ρ C V w hE;obtain⟨v,r,rfl,h3,h4⟩:=h2;exact⟨v,r,h1,uJ hA h4,h3⟩
 .rename_i s k rest;obtain⟨ty,esz,cells,hob,he,A,cells',hA,hS,hK⟩:=h;refine⟨_,_,_,O8 (n0:=k) hob hS aH ?_,hK⟩;intro ρ C V w hE;obtain⟨us,h1,h2⟩:=hrun hS.1 ρ C V w hE;obtain⟨v,r,rfl,h3,h4⟩:=h2;exact⟨v,r,h1,uJ hA h4,h3⟩
 grind
def aCI{c:Call}{f:Operand}(ho:o.op= .call c)(hc:c.callee= .value f){K:Res}(h:El P σ (E f) (c.args.toList.map E) K):∃r R W,bq P o E σ n r R W/\K r R W:=by
 have hfm:f∈o.op.operands.toList:=by rw[ho];simp[dM,k9,hc]
 have ham:∀x∈c.args.toList,x∈o.op.operands.toList:=by intro x hx;rw[ho];simp[dM,k9];exact .inr aH
 have key:∀(fid:FuncId) (first caps:List AV),(∀ρ C v,ai ρ C (E f) v->∃vs1 vs2:List Value,v= .func (.func fid) vs1.toArray vs2.toArray/\bY ρ C first vs1/\bY ρ C caps vs2)->
   sP P σ fid (first++c.args.toList.map E++caps) K->∃r R W,bq P o E σ n r R W/\K r R W:=by
  intro fid first caps hfv hgo
  refine Or.elim hgo ?_ (λhgo=>aAS hfm ham ho hc hfv hgo);rintro⟨A,hA,fr,r,hsat,hcase⟩;have sim:∀W:List (Nat×Option Ob),(W=[]/\(fr=aE\/bm (first++c.args.toList.map E++caps)=aD A))\/W=(bl (cu 3 σ) (first++c.args.toList.map E++caps)).map (·,aM)->bq P o E σ n (.p r) (bl (cu 3 σ) (first++c.args.toList.map E++caps)) W:= ?_
  .grind
  intro W hW;intro C0 ρ g V w B hs hB hR hn hgn hE;obtain⟨vs1,vs2,hv,q1,q2⟩:=hfv _ _ _ (hE f hfm);have hargs:∀l:List Operand,(∀x∈l,x∈o.op.operands.toList)->bY ρ (bV C0 B w ρ g) (l.map E) (l.map (bj V)):=by
   intro l;induction l with
   |nil=>intro _;rfl
   |cons x l ih=>
    unfold bY;grind
  have hall:=(q1.append (hargs _ ham)).append q2;obtain⟨hok,hcalls⟩:=hsat;have hrun:(execOp (bj V) o).run P w= .ok (.enter fid (vs1++c.args.toList.map (bj V)++vs2).toArray) w:=by
   unfold execOp;rw[ho];have e2:vs1.toArray++wq (bj V) c.args++vs2.toArray=(vs1++c.args.toList.map (bj V)++vs2).toArray:=by apply rY.1;simp
   simp only[resolve,hc,hv,wu,dY,fD,dr,invoke,nP hok,e2]
  have hlive:∀s ob b c,g s=aD ob->ρ s=aD (aD b,c)->b<w.heap.size:=by intro s ob b c e1 e2;obtain⟨_,arr,e3⟩:=hs.at e1 e2;exact e3.lt
  have hnone:∀s x,W.lookup s=aD x->W.lookup s=aD aM:=by
   intro s x h;rcases hW with⟨rfl,_⟩|rfl
   .simp at h
   .have key:∀l:List Nat,(l.map (·,(aM:Option Ob))).lookup s=aD x->x=aM:=by
     intro l;induction l with
     |nil=>grind
     |cons k l ih=>
      grind
    grind
  have hdrop:∀b o' x,bV C0 B w ρ g b o' x->bV C0 B w ρ (bM g W) b o' x:=by
   intro b o' x ⟨e1,e2,e0⟩;refine⟨e1,λs c' e3=> ?_,e0⟩;unfold bM;split
   .grind
   .grind
  unfold cv;rw[hrun];dsimp only;have fin:∀(C:bf),(∀b o v,C b o v->w.cell? ⟨b,o,aM⟩=aD v)->bk C A (vs1++c.args.toList.map (bj V)++vs2)->(fr=aK->∀b o v,C b o v->bV C0 B w ρ (bM g W) b o v)->
    Calls P fid (vs1++c.args.toList.map (bj V)++vs2).toArray w λe w''=>∃v,e= .returned v/\∃ρ':Ren,(∀s,cls s≠n->ρ' s=ρ s)/\(∀b o' x,bV C0 B w ρ g b o' x->bV C0 B w'' ρ' (bM g W) b o' x)/\StR C0 ρ' (bM g W) w'' B/\ai ρ' (bV C0 B w'' ρ' (bM g W)) (.p r) v/\Below B w w'':=by
   intro C hC hrep hCC;refine(hcalls C w _ hC hrep).mono ?_;rintro e w' ⟨v,rfl,hr,hbel⟩;have hold:∀b,b<w.heap.size->w'.heap[b]? =w.heap[b]? :=λb hb=>hbel.block b hb;have hmono:∀b o' x,bV C0 B w ρ (bM g W) b o' x->bV C0 B w' ρ (bM g W) b o' x:=by intro b o' x ⟨e1,e2,e0⟩;exact⟨(kc (hold b (lj w ⟨b,o',aM⟩ e1))).trans e1,e2,e0⟩
   refine⟨v,rfl,ρ,λ_ _=>rfl,aH,?_,?_,hbel.mono hB⟩
   .refine hs.step aH (λ_ _ h=>h) aH ?_ aH aH;grind
   .refine bE.mono ?_ r v hr;rintro b o' x (⟨h1,h2⟩|⟨h1,h2⟩)
    .grind
    .refine⟨h2,?_,aH⟩;intro s c' e3;unfold bM;split
     .grind
     .cases hgs:g s with
      |none=>rfl
      |some ob=>grind
  have hsnap:∀(T:bf),(∀b o v,bV C0 B w ρ g b o v->T b o v)->(∀s ob b c2,s∈bl (cu 3 σ) (first++c.args.toList.map E++caps)->g s=aD ob->ρ s=aD (aD b,c2)->B<=b->∀o v,w.cell? ⟨b,o,aM⟩=aD v->T b o v)->
    bk T A (vs1++c.args.toList.map (bj V)++vs2):=by
   intro T hT1 hT2;obtain⟨g1,g2⟩:=qj hA;refine bk.of _ _ (by rw[<-g1];exact hall.length) λi y hi=> ?_;have hlt:i<aA (first++c.args.toList.map E++caps):=by rw[g1];grind
   obtain⟨y',h5,h6⟩:=g2 i _ (fQ hlt);rw[hi]at h5;cases h5;obtain⟨v,k1,k2⟩:=hall.get _ _ i _ (fQ hlt);exact⟨v,k1,Hv hs T (λs=>s∈bl (cu 3 σ) (first++c.args.toList.map E++caps)) hT1 hT2 3 _ _ v h6 (λs hs'=>⟨qf aH hs',hR s (qf aH hs')⟩) k2⟩
  rcases hW with⟨rfl,h⟩|rfl
  .cases fr with
   |true=>exact fin (aFI C0 B w) (λb o v h=>h.1) (hsnap _ (λb o v h=>⟨h.1,h.2.2⟩) (λs ob b c _ _ _ hb o v h=>⟨h,.inl hb⟩)) aH
   |false=>
    rcases h with h|h
    .cases h
    .exact fin (bV C0 B w ρ g) (λb o v h=>h.1) (uJ h hall) aH
  .refine fin (bV C0 B w ρ (bM g ((bl (cu 3 σ) (first++c.args.toList.map E++caps)).map (·,aM)))) (λb o v h=>h.1) (hsnap _ hdrop ?_) aH;intro s ob b c' hsm e1 e2 hb o' v e3;have hmem:∀l:List Nat,s∈l->(l.map (·,(aM:Option Ob))).lookup s=aD aM:=by
    intro l;induction l with
    |nil=>grind
    |cons k l ih=>
     grind
   refine⟨e3,λs' c2 e4=> ?_,.inl hb⟩;unfold bM;split
   .grind
   .cases hg':g s' with
    |none=>rfl
    |some ob'=>
     have:=hs.inj s s' ob ob' b c' c2 e1 hg' e2 e4;grind
 unfold El at h;split at h
 .rename_i fid first caps e
  refine key fid first caps (λρ C v hv=> ?_) h
  rw[e]at hv;exact hv
 .rename_i fid first caps e
  refine key fid _ _ (λρ C v hv=> ?_) h;rw[e]at hv;obtain⟨vs1,vs2,h1,h2,h3⟩:=hv;exact⟨vs1,vs2,h1,h2.toA,h3.toA⟩
 grind
end
def BS(v:Value)(us:List Value):Value:=match us with
 |[] =>v
 |us=> .tuple (v::us).toArray
def rC(C:bf)(N:Nat)(q:Option Nat)(w':World):bf:=λb o x=>C b o x\/(N<=b/\q≠aD b/\w'.cell? ⟨b,o,aM⟩=aD x)
def yo(P:Program)(f:FuncId)(A:List PV)(ty esz:Nat)(cells:List PV)(m:Nat)(ys:List PV):Prop:=lT P f=aE/\esz≠0/\
 ∀(C:bf) (w:World) (vs:List Value),(∀b o v,C b o v->w.cell? ⟨b,o,aM⟩=aD v)->bk C A vs->
  Calls P f vs.toArray w λe w'=>∃v us q c,e= .returned (BS v us)/\Below w.heap.size w w'/\bk (rC C w.heap.size q w') ys us/\
   ((q=aM/\v= .slice aM 0 0/\m=0/\cells=[]/\c=0)\/∃b arr,q=aD b/\v= .slice (aD ⟨b,0,aM⟩) m c/\m<=c/\w.heap.size<=b/\w'.heap[b]? =aD (.cells arr ty (0,0))/\
     arr.size=c*esz/\(aA cells)<=arr.size/\c<=maxLen/\∀(i:Nat) x,cells[i]? =aD x->∃u,arr[i]? =aD u/\u.oneCell'=aE/\bE (rC C w.heap.size q w') x u)
def Ew(n m:Nat)(ys:List PV):AV:=match ys with
 |[] => .own (sit n 0) 0 m
 |ys=> .tup (.own (sit n 0) 0 m::ys.map .p)
def LF(P:Program)(f:FuncId)(A:List PV)(ty esz:Nat)(cells:List PV)(m:Nat)(ys:List PV):Prop:=lT P f=aE/\esz≠0/\
 ∀(C:bf) (w:World) (vs:List Value),(∀b o v,C b o v->w.cell? ⟨b,o,aM⟩=aD v)->bk C A vs->
  Calls P f (Value.slice aM 0 0::vs).toArray w λe w'=>∃v us q c,e= .returned (BS v us)/\Below w.heap.size w w'/\bk (rC C w.heap.size q w') ys us/\
   ((q=aM/\v= .slice aM 0 0/\m=0/\cells=[]/\c=0)\/∃b arr,q=aD b/\v= .slice (aD ⟨b,0,aM⟩) m c/\m<=c/\w.heap.size<=b/\w'.heap[b]? =aD (.cells arr ty (0,0))/\
     arr.size=c*esz/\(aA cells)<=arr.size/\c<=maxLen/\∀(i:Nat) x,cells[i]? =aD x->∃u,arr[i]? =aD u/\u.oneCell'=aE/\bE (rC C w.heap.size q w') x u)
def De(P:Program)(n:Nat)(f:FuncId)(avs:List AV)(K:Res):Prop:=
 ∃A ty esz cells m ys,((bm avs=aD A/\yo P f A ty esz cells m ys)\/∃r,avs= .nil::r/\bm r=aD A/\LF P f A ty esz cells m ys)/\K (Ew n m ys) [] [(sit n 0,aD ⟨ty,esz,cells.map .p⟩)]
def Ek(P:Program)(n:Nat)(fv:AV)(args:List AV)(K:Res):Prop:=match fv with
 | .fn (.func f) first caps=>De P n f (first++args++caps) K
 | .p (.fn (.func f) first caps)=>De P n f (first.map .p++args++caps.map .p) K
 |_=>False
section
variable {P:Program} {o:Oper} {E:Operand->AV} {σ:Nat->Option Ob} {n:Nat}
def bk.Tb{ρ:Ren}{C:bf}:∀{l:List PV} {vs:List Value},bk C l vs->bY ρ C (l.map .p) vs
 |[],vs,h=>by exact h
 |x::l,vs,h=>by
  obtain⟨v,r,rfl,h2,h3⟩:=h;exact⟨v,r,rfl,by exact h2,bk.Tb h3⟩
def aAR{c:Call}{f:Operand}(ho:o.op= .call c)(hc:c.callee= .value f){K:Res}(h:Ek P n (E f) (c.args.toList.map E) K):∃r R W,bq P o E σ n r R W/\K r R W:=by
 have hfm:f∈o.op.operands.toList:=by rw[ho];simp[dM,k9,hc]
 have ham:∀x∈c.args.toList,x∈o.op.operands.toList:=by intro x hx;rw[ho];simp[dM,k9];exact .inr aH
 have key:∀(fid:FuncId) (first caps:List AV),(∀ρ C v,ai ρ C (E f) v->∃vs1 vs2:List Value,v= .func (.func fid) vs1.toArray vs2.toArray/\bY ρ C first vs1/\bY ρ C caps vs2)->
   De P n fid (first++c.args.toList.map E++caps) K->∃r R W,bq P o E σ n r R W/\K r R W:=by
  intro fid first caps hfv ⟨A,ty,esz,cells,m,ys,hA,hK⟩
  obtain⟨hok,he,hcalls⟩:lT P fid=aE/\esz≠0/\∀(ρ:Ren) (C:bf) (w:World) (vs:List Value),(∀b o v,C b o v->w.cell? ⟨b,o,aM⟩=aD v)->bY ρ C (first++c.args.toList.map E++caps) vs->
   Calls P fid vs.toArray w λe w'=>∃v us q c,e= .returned (BS v us)/\Below w.heap.size w w'/\bk (rC C w.heap.size q w') ys us/\
    ((q=aM/\v= .slice aM 0 0/\m=0/\cells=[]/\c=0)\/∃b arr,q=aD b/\v= .slice (aD ⟨b,0,aM⟩) m c/\m<=c/\w.heap.size<=b/\w'.heap[b]? =aD (.cells arr ty (0,0))/\
      arr.size=c*esz/\(aA cells)<=arr.size/\c<=maxLen/\∀(i:Nat) x,cells[i]? =aD x->∃u,arr[i]? =aD u/\u.oneCell'=aE/\bE (rC C w.heap.size q w') x u):=by
   rcases hA with⟨hA,h1,h2,h3⟩|⟨r,hr,hA,h1,h2,h3⟩
   .exact⟨h1,h2,λρ C w vs hC h=>h3 C w vs hC (uJ hA h)⟩
   .refine⟨h1,h2,λρ C w vs hC h=> ?_⟩;rw[hr]at h;obtain⟨v,vs',rfl,h4,h5⟩:=h;subst h4;exact h3 C w vs' hC (uJ hA h5)
  refine⟨_,_,_,?_,hK⟩;intro C0 ρ g V w B hs hB hR hn hgn hE;have hn:=hn _ (jV n 0);have hgn:=hgn _ (jV n 0);have hcl:∀s,cls s≠n->s≠sit n 0:=λs h e=>h (by rw[e];exact jV n 0);obtain⟨vs1,vs2,hv,q1,q2⟩:=hfv _ _ _ (hE f hfm);have hargs:∀l:List Operand,(∀x∈l,x∈o.op.operands.toList)->bY ρ (bV C0 B w ρ g) (l.map E) (l.map (bj V)):=by
   intro l;induction l with
   |nil=>intro _;rfl
   |cons x l ih=>
    unfold bY;grind
  have hall:=(q1.append (hargs _ ham)).append q2;have hrun:(execOp (bj V) o).run P w= .ok (.enter fid (vs1++c.args.toList.map (bj V)++vs2).toArray) w:=by
   unfold execOp;rw[ho];have e2:vs1.toArray++wq (bj V) c.args++vs2.toArray=(vs1++c.args.toList.map (bj V)++vs2).toArray:=by apply rY.1;simp
   simp only[resolve,hc,hv,wu,dY,fD,dr,invoke,nP hok,e2]
  have hlive:∀s ob b c,g s=aD ob->ρ s=aD (aD b,c)->b<w.heap.size:=by intro s ob b c e1 e2;obtain⟨_,arr,e3⟩:=hs.at e1 e2;exact e3.lt
  unfold cv;rw[hrun];dsimp only;refine(hcalls ρ (bV C0 B w ρ g) w _ (λb o v h=>h.1) hall).mono ?_;rintro e w' ⟨v,us,q,c,rfl,hbel,hys,hrow⟩;have hqb:∀b,q=aD b->w.heap.size<=b:=by
   intro b hb;rcases hrow with⟨h1,_⟩|⟨b',arr,h1,_,_,h4,_⟩
   .grind
   .grind
  have hold:∀b,b<w.heap.size->w'.heap[b]? =w.heap[b]? :=λb hb=>hbel.block b hb;unfold Ew;generalize hnS:sit n 0=nS at*
  let ρ':Ren:=λs=>if s=nS then aD (q,c)else ρ s
  have hρn:ρ' nS=aD (q,c):=if_pos rfl;have hρs:∀s,s≠nS->ρ' s=ρ s:=aH;have hup:∀s,s≠nS->bM g [(nS,aD ⟨ty,esz,cells.map .p⟩)] s=g s:=by intro s h;unfold bM;simp[jS,beq_eq_false_iff_ne.2 h]
  have hmono:∀b o' x,bV C0 B w ρ g b o' x->bV C0 B w' ρ' (bM g [(nS,aD ⟨ty,esz,cells.map .p⟩)]) b o' x:=by
   intro b o' x ⟨e1,e2,e0⟩;have hlt:=lj w ⟨b,o',aM⟩ e1;refine⟨(kc (hold b hlt)).trans e1,λs c' e3=> ?_,e0⟩;by_cases hsn:s=nS
   .grind
   .grind
  have hkeep:∀b o' x,rC (bV C0 B w ρ g) w.heap.size q w' b o' x->bV C0 B w' ρ' (bM g [(nS,aD ⟨ty,esz,cells.map .p⟩)]) b o' x:=by
   rintro b o' x (h1|⟨h1,h2,h3⟩)
   .grind
   .refine⟨h3,λs c' e3=> ?_,aH⟩;by_cases hsn:s=nS
    .grind
    .rw[hup s hsn];cases hgs:g s with
     |none=>rfl
     |some ob=>grind
  refine⟨_,rfl,ρ',aH,hmono,?_,?_,hbel.mono hB⟩
  .refine hs.step aH aH hmono ?_ ?_ aH
   .grind
   .intro s o' hso;have hsn:s=nS:=by
     rcases rb s nS with h|h
     .grind
     .exact h
    subst hsn;simp[jS]at hso;subst hso;refine⟨q,c,hρn,?_⟩;rcases hrow with⟨h1,h2,h3,h4,h5⟩|⟨b,arr,h1,h2,h3,h4,h5,h6,h7,h8,h9⟩
    .grind
    .refine .inr ⟨b,arr,h1,aH,⟨h5,aH,aH,λi x hi=> ?_⟩,λs' o2 c' hne hg' hr'=> ?_⟩
     .rw[ip]at hi;cases hci:cells[i]? with
      |none=>grind
      |some y=>
       rw[hci]at hi;simp only[fk,iG]at hi;subst hi;obtain⟨u,k1,k2,k3⟩:=h9 i y hci;exact⟨u,k1,k2,by exact bE.mono hkeep y u k3⟩
     grind
  .have hown:ai ρ' (bV C0 B w' ρ' (bM g [(nS,aD ⟨ty,esz,cells.map .p⟩)])) (.own nS 0 m) v:=by
    unfold ai;refine⟨q,c,hρn,?_⟩;rcases hrow with⟨h1,h2,h3,_⟩|⟨b,arr,h1,h2,h3,_⟩
    .grind
    .grind
   have hys2:bY ρ' (bV C0 B w' ρ' (bM g [(nS,aD ⟨ty,esz,cells.map .p⟩)])) (ys.map .p) us:=(bk.mono hkeep ys us hys).Tb;cases ys with
   |nil=>
    have:us=[] :=by have:=hys.length;simpa using this
    subst this;exact hown
   |cons y ys=>
    have hne:us≠[] :=λh=>by have:=hys.length;grind
    cases us with
    |nil=>grind
    |cons u us=>
     refine⟨v::u::us,rfl,?_⟩;unfold bY;grind
 unfold Ek at h;split at h
 .rename_i fid first caps e
  refine key fid first caps (λρ C v hv=> ?_) h
  rw[e]at hv;exact hv
 .rename_i fid first caps e
  refine key fid _ _ (λρ C v hv=> ?_) h;rw[e]at hv;obtain⟨vs1,vs2,h1,h2,h3⟩:=hv;exact⟨vs1,vs2,h1,h2.toA,h3.toA⟩
 grind
end
section
variable {P:Program} {o:Oper} {E:Operand->AV} {σ:Nat->Option Ob} {n:Nat}
def Tc(P:Program)(n:Nat)(t:TypeId)(x y:AV)(K:Res):Prop:=∃(k1 k2:IntKind) (m:Nat) (e:TypeId) (z:List AV) (i:TypeInfo),x= .p (.int k1 m)/\y= .p (.int k2 m)/\eC P t=aD e/\P.info? e=aD i/\
 sX P e=aD z/\sW P e=aE/\z≠[]/\m*bH P e<=1000000/\m*i.bytes<=1000000000/\K (.own (sit n 0) 0 m) [] [(sit n 0,aD ⟨e,bH P e,pN m z⟩)]
def Pb{t e:TypeId}{i:TypeInfo}{zv:Value}{m:Nat}{k1 k2:IntKind}(he:eC P t=aD e)(hi:P.info? e=aD i)(hiz:i.zero=aD zv)(hsz:bH P e=zv.cells.size)(hpos:0<zv.cells.size)(h1:m*bH P e<=1000000)(h2:m*i.bytes<=1000000000)(w:World):
  (Instr.makeSlice t (.int k1 m) (.int k2 m)).run P w= .ok (.slice (aD ⟨w.heap.size,0,aM⟩) m m) (w.alloc (.cells (dO m zv.cells.toList).flatten.toArray e)):=by
 have hm:m<=1000000:=by have:m<=m*bH P e:=WE _ aC;omega
 have wl:kJ.wrap (m:Int)=m:=by rw[IntKind.wrap_i64];omega
 have n1:¬(m:Int)<0:=aC;have n2:¬(281474976710656<(i.bytes:Int)*m):=by have h3:((m*i.bytes:Nat):Int)<=((1000000000:Nat):Int):=Int.ofNat_le.2 h2;rw[Nat.mul_comm,Int.natCast_mul]at h3;omega
 have n4:¬(m:Int)<m:=aC;have e3:∀w:World,(sizeOf e).run P w= .ok (bH P e) w:=λw=>by simp[sizeOf,typeInfo,hi,bH]
 have e4:∀w:World,(zeroValue e).run P w= .ok zv w:=λw=>by simp[zeroValue,typeInfo,hi,hiz]
 have e5:(if m*bH P e=0 then #[]else(Array.range (m*bH P e)).map (λj=>zv.cells[j % zv.cells.size]!))=(dO m zv.cells.toList).flatten.toArray:=by
  split
  .rename_i h0;have:m=0:=by
    rcases Lh.1 h0 with h|h
    .exact h
    .omega
   grind
  .rw[hsz];apply rY.1;rw[Pi zv.cells hpos m]
 rw[<-e5];by_cases h0:m*bH P e=0
 .have:m=0:=by
   rcases Lh.1 h0 with h|h
   .exact h
   .omega
  subst this;have w0:kJ.wrap 0=0:=by simpa using wl
  simp[w0,Instr.makeSlice,asInt,asIntOf,run_underlying (ni he),typeInfo,hi,askRoom,newRow,sizeOf];grind
 .simp[Instr.makeSlice,asInt,asIntOf,run_underlying (ni he),typeInfo,hi,wl,n1,n2,n4,askRoom,e3,e4,h0,newRow]
def aB2{t:TypeId}{a b:Operand}(ho:o.op= .makeSlice t a b){K:Res}(h:Tc P n t (E a) (E b) K):∃r R W,bq P o E σ n r R W/\K r R W:=by
 obtain⟨k1,k2,m,e,z,i0,ha,hb,he,hi0,hz,hz1,hne,h1,h2,hK⟩:=h;refine⟨_,_,_,bq.alloc ?_,hK⟩;intro ρ C V w hE;obtain⟨i,zv,hi,hiz,hsz,hone,rfl⟩:=zl hz hz1;rw[hi0]at hi;cases hi;have hsize:bH P e=zv.cells.size:=by simp[bH,hi0,hsz]
 have hpos:0<zv.cells.size:=by
  rcases Nat.eq_zero_or_pos zv.cells.size with h|h
  .grind
  .exact h
 have hones:i9 (dO m zv.cells.toList).flatten:=by intro u hu;simp only[ml,WD]at hu;obtain⟨l',⟨_,rfl⟩,hu⟩:=hu;exact hone u hu
 have va:bj V a= .int k1 m:=by have:=hE a (by rw[ho];simp[dM]);rw[ha]at this;unfold ai at this;unfold bE at this;exact this
 have vb:bj V b= .int k2 m:=by have:=hE b (by rw[ho];simp[dM]);rw[hb]at this;unfold ai at this;unfold bE at this;exact this
 have hlen:aA (dO m zv.cells.toList).flatten=m*bH P e:=by rw[hsize];simp
 have hl2:aA (pN m (zv.cells.toList.map mR))=m*bH P e:=by rw[GC,dq,Bn,hsize]
 refine⟨.slice (aD ⟨w.heap.size,0,aM⟩) m m,(dO m zv.cells.toList).flatten.toArray,m,?_,λh=>aH,λ_=> ?_,?_,hones,λρ' C' h=> ?_⟩
 .unfold execOp;rw[ho];dsimp only;rw[va,vb];have:=Pb (k1:=k1) (k2:=k2) he hi0 hiz hsize hpos h1 h2 w;simp[this]
 .refine⟨?_,?_,?_⟩
  .omega
  .grind
  .have:m<=m*bH P e:=WE _ aC;unfold maxLen;omega
 .rw[jB aH];exact Gx _ m
 .unfold ai;grind
def F5{α:Type}(g0:Nat->Nat)(x:α)(s:Nat):∀l:List Nat,(l.map λi=>(g0 i,x)).lookup s=if s∈l.map g0 then aD x else aM
 |[] =>rfl
 |i::l=>by
  rw[dU,eZ,F5 g0 x s l,dU];grind
def bq.fam{r:AV}{ob iob:Ob}{g0:Nat->Nat}{m0:Nat}(hi1:iob.esz≠0)(hi2:iob.cells=[])(hg0:∀i,cls (g0 i)=n)(hg1:∀i,g0 i≠sit n 0)
  (h:∀(ρ:Ren) (C:bf) (V:Nat->Value) (w:World),(∀x∈o.op.operands.toList,ai ρ C (E x) (bj V x))->
  ∃v arr c,(execOp (bj V) o).run P w= .ok (.value v) (w.alloc (.cells arr ob.ty))/\(ob.esz=0->arr.size=aA ob.cells)/\(ob.esz≠0->arr.size=c*ob.esz/\(aA ob.cells)<=arr.size/\c<=maxLen)/\
   i9 arr.toList/\∀(ρ':Ren) (C':bf),ρ' (sit n 0)=aD (aD w.heap.size,c)->(∀i,i<m0->ρ' (g0 i)=aD (aM,0))->bY ρ' C' ob.cells (arr.toList.take (aA ob.cells))/\ai ρ' C' r v):
  bq P o E σ n r [] ((sit n 0,aD ob)::(bT m0).map λi=>(g0 i,aD iob)):=by
 intro C0 ρ g V w B hs hB _ hn hgn hE;have hcl:∀s,cls s≠n->s≠sit n 0:=λs h e=>h (by rw[e];exact jV n 0);have hcl2:∀s,s∈(bT m0).map g0->cls s=n:=aH;have hmem:∀i,i<m0->g0 i∈(bT m0).map g0:=aH;have hm:cls (sit n 0)=n:=jV n 0;generalize sit n 0=m at*;obtain⟨v,arr,c,hrun,h1,h2,h4,h5⟩:=h ρ _ V w hE;unfold cv;rw[hrun];dsimp only;have hblk:(w.alloc (.cells arr ob.ty)).heap[w.heap.size]? =aD (.cells arr ob.ty (0,0)):=heap_alloc_new w _;generalize hM:(bT m0).map g0=M at*
 let ρ':Ren:=λs=>if s=m then aD (aD w.heap.size,c)else if s∈M then aD (aM,0)else ρ s
 have hext:∀s q,ρ s=aD q->ρ' s=aD q:=by intro s q hq;show(if s=m then _ else _)=_;rw[if_neg aH,if_neg aH];exact hq
 have hlt:∀s ob b c,g s=aD ob->ρ s=aD (aD b,c)->b<w.heap.size:=by intro s ob b c e1 e2;obtain⟨_,arr,e3⟩:=hs.at e1 e2;exact e3.lt
 have hold:∀b,b<w.heap.size->(w.alloc (.cells arr ob.ty)).heap[b]? =w.heap[b]? :=λb hb=>Below.heap_alloc w _ b hb;generalize hW:((m,aD ob)::(bT m0).map λi=>(g0 i,aD iob))=W;have hlk:∀s,W.lookup s=if s=m then aD (aD ob)else if s∈M then aD (aD iob)else aM:=by
  intro s;rw[<-hW,eZ,F5,hM];by_cases e:s=m
  .grind
  .grind
 have hup:∀s,s≠m->s∉M->bM g W s=g s:=by intro s h1 h2;unfold bM;rw[hlk,if_neg h1,if_neg h2]
 have hmono:∀b o' x,bV C0 B w ρ g b o' x->bV C0 B (w.alloc (.cells arr ob.ty)) ρ' (bM g W) b o' x:=by
  intro b o' x ⟨e1,e2,e0⟩;have hb:b<w.heap.size:=lj w ⟨b,o',aM⟩ e1;refine⟨(kc (hold b hb)).trans e1,?_,e0⟩;intro s c' e3;by_cases e:s=m
  .grind
  .grind
 have k5:=λC'=>h5 ρ' C' (by simp[ρ']) (λi hi=>by grind)
 refine⟨ρ',λs hs=> ?_,hmono,?_,(k5 _).2,(Below.refl B w).alloc hB _⟩
 .grind
 refine hs.step ?_ hext hmono ?_ ?_ aH
 .grind
 .grind
 .intro s ob' e;rw[hlk]at e;by_cases e1:s=m
  .rw[if_pos e1]at e;subst e1;have e2:ob'=ob:=by cases e;rfl
   subst e2;refine⟨aD w.heap.size,c,by simp[ρ'],.inr ⟨w.heap.size,arr,rfl,hB,⟨hblk,h1,h2,?_⟩,?_⟩⟩
   .intro i x hi;obtain⟨u,g1,g2⟩:=(k5 _).1.get _ _ i x hi;rw[List.getElem?_take]at g1;split at g1
    .exact⟨u,aH,h4 u aH,g2⟩
    .cases g1
   grind
  .rw[if_neg e1]at e;by_cases e':s∈M
   .rw[if_pos e']at e;cases e;exact⟨aM,0,aH,aH⟩
   grind
def Sn(P:Program)(n:Nat)(t:TypeId)(x y:AV)(K:Res):Prop:=∃(g0:Nat->Nat) (ity:TypeId) (wd:Nat) (k1 k2:IntKind) (m:Nat) (e:TypeId) (i:TypeInfo),x= .p (.int k1 m)/\y= .p (.int k2 m)/\eC P t=aD e/\P.info? e=aD i/\
 sX P e=aD [.nil]/\sW P e=aE/\wd≠0/\(∀i,cls (g0 i)=n)/\(∀i,g0 i≠sit n 0)/\m<=1000000/\m*i.bytes<=1000000000/\
 K (.own (sit n 0) 0 m) [] ((sit n 0,aD ⟨e,1,(bT m).map λj=> .own (g0 j) 0 0⟩)::(bT m).map λj=>(g0 j,aD ⟨ity,wd,[]⟩))
def Xn{α:Type}(v:α):∀m,(dO m [v]).flatten=dO m v
 |0=>rfl
 |m+1=>jc
def aAe{t:TypeId}{a b:Operand}(ho:o.op= .makeSlice t a b){K:Res}(h:Sn P n t (E a) (E b) K):∃r R W,bq P o E σ n r R W/\K r R W:=by
 obtain⟨g0,ity,wd,k1,k2,m,e,i0,ha,hb,he,hi0,hz,hz1,hwd,hg0,hg1,h1,h2,hK⟩:=h;refine⟨_,_,_,bq.fam (iob:=⟨ity,wd,[]⟩) hwd rfl hg0 hg1 ?_,hK⟩;intro ρ C V w hE;obtain⟨i,zv,hi,hiz,hsz,hone,hzv⟩:=zl hz hz1;rw[hi0]at hi;cases hi;have hnil:zv.cells.toList=[.slice aM 0 0] :=by have h3:bY ρ C (zv.cells.toList.map mR) zv.cells.toList:=xE _;rw[show zv.cells.toList.map mR=[.nil]from hzv.symm]at h3;unfold bY at h3;obtain⟨v,r,h4,h5,h6⟩:=h3;unfold bY at h6;unfold ai at h5;rw[h4,h5,h6]
 have hsize:bH P e=zv.cells.size:=by simp[bH,hi0,hsz]
 have hs1:zv.cells.size=1:=by rw[<-Bn,hnil];rfl
 have va:bj V a= .int k1 m:=by have:=hE a (by rw[ho];simp[dM]);rw[ha]at this;unfold ai at this;unfold bE at this;exact this
 have vb:bj V b= .int k2 m:=by have:=hE b (by rw[ho];simp[dM]);rw[hb]at this;unfold ai at this;unfold bE at this;exact this
 have hlist:(dO m zv.cells.toList).flatten=dO m (.slice aM 0 0):=by rw[hnil,Xn]
 refine⟨.slice (aD ⟨w.heap.size,0,aM⟩) m m,(dO m zv.cells.toList).flatten.toArray,m,?_,aH,λ_=> ?_,?_,λρ' C' h h'=>⟨?_,?_⟩⟩
 .unfold execOp;rw[ho];dsimp only;rw[va,vb];have:=Pb (k1:=k1) (k2:=k2) he hi0 hiz hsize aC aH h2 w;simp[this]
 .rw[hlist];refine⟨af,af,?_⟩;unfold maxLen;omega
 .intro u hu;simp only[ml,WD]at hu;obtain⟨l',⟨_,rfl⟩,hu⟩:=hu;exact hone u hu
 .rw[hlist];refine bY.of _ _ af λj x hj=> ?_;rw[ip]at hj;by_cases hjm:j<m
  .rw[Ll hjm]at hj;unfold ai;grind
  grind
 .unfold ai;grind
end
section
abbrev Sto:=Nat->Option Ob
def AOp(P:Program)(n:Nat)(o:Oper)(E:Operand->AV)(σ:Nat->Option Ob)(K:Res):Prop:=match o.op with
 | .move x=>K (E x) [] []
 | .assign x=>K (E x) [] []\/(E x= .nil/\K (.p (.sl 0 [])) [] [])
 | .pick c a b=>yM (E c) (E a) (E b) λr=>K r [] []
 | .alloc t=>TF P n t K
 | .box t x=>Vq n t (E x) K
 | .build t parts=>S7 P t (parts.toList.map λq=>(q.1,E q.2)) λr=>K r [] []
 | .buildSlice t len parts=>SM P n t len (parts.toList.map λq=>(q.1,E q.2)) K
 | .load t x=>(match E x with
   | .p (.pro cs off)=>KV P t cs off λr=>K (.p r) [] []
   | .ptr s off=>∃ob,σ s=aD ob/\ud P t ob.cells off λr=>K r [s] []
   |_=>False)
 | .store t a x=>x4 P t σ (E a) (E x) K
 | .nilCheck x=>E2 (E x)=aE/\K (E x) [] []
 | .binOp op t x y _=>yl P op t (E x) (E y) λr=>K r [] []
 | .unOp op _ x=>unA op (E x) λr=>K r [] []
 | .convert s d x=>Eh P s d (E x) λr=>K r [] []
 | .makeFunc f first caps=>K (.fn f (first.toList.map E) (caps.toList.map E)) [] []
 | .slice t x lo hi aM=>x5 P t (E x) (loA E lo 0) (loA E hi (ED (E x))) λr=>K r [] []
 | .fieldAddr t x f=>Jw P t f (E x) λr=>K r [] []
 | .field t x f=>Ju P t f (E x) λr=>K r [] []
 | .indexAddr t x i=>EH P t (E x) (E i) λr=>K r [] []
 | .extract x i=>BM (E x) i λr=>K r [] []
 | .call {callee:= .value f,args, .. }=>El P σ (E f) (args.toList.map E) K\/Ek P n (E f) (args.toList.map E) K
 | .call {callee:= .builtin .len,args:=⟨[x]⟩,argTypes:=⟨[t]⟩}=>E4 P t (E x) λr=>K r [] []
 | .call {callee:= .builtin .append,args:=⟨[x,y]⟩,argTypes:=⟨[t,t']⟩}=>(eC P t').isSome=aE/\BY P n t σ (E x) (E y) K
 | .call {callee:= .builtin .min,args:=⟨[x,y]⟩, .. }=>mmA min (E x) (E y) λr=>K r [] []
 | .call {callee:= .builtin .max,args:=⟨[x,y]⟩, .. }=>mmA max (E x) (E y) λr=>K r [] []
 | .makeSlice t a b=>Tc P n t (E a) (E b) K\/Sn P n t (E a) (E b) K
 |_=>False
variable{P:Program}
def aA0{n:Nat}{o:Oper}{E:Operand->AV}{σ:Nat->Option Ob}{K:Res}(h:AOp P n o E σ K):∃r R W,bq P o E σ n r R W/\K r R W:=by
 have lift:∀{K':AV->Prop} {R:List Nat},(∃r,bq P o E σ n r R []/\K' r)->(∀r,K' r->K r R [])->∃r R W,bq P o E σ n r R W/\K r R W:=aH;unfold AOp at h;split at h
 .rename_i x ho;exact⟨_,_,_,P2 (.inl ho),h⟩
 .rename_i x ho;exact Or.elim h (λh=>⟨_,_,_,P2 (.inr ho),h⟩) (λh=>⟨_,_,_,aAx (.inr ho) h.1,h.2⟩)
 .rename_i ho;exact lift (aBJ ho h) λ_ h=>h
 .rename_i ho;exact aA2 ho h
 .rename_i ho;exact aEm ho h
 .rename_i ho;exact lift (aAU ho h) λ_ h=>h
 .rename_i ho;exact ZB ho h
 .rename_i ho;split at h
  .rename_i e;obtain⟨r,h1,h2⟩:=aAf (o:=o) (σ:=σ) (n:=n) ho e h;grind
  .rename_i e;obtain⟨ob,h1,h2⟩:=h;obtain⟨r,h3,h4⟩:=aAg (o:=o) (n:=n) ho e h1 h2;grind
  grind
 .rename_i ho;exact ZT ho h
 .rename_i ho;exact⟨_,_,_,aDF ho h.1,h.2⟩
 .rename_i ho;exact lift (aEn ho h) λ_ h=>h
 .rename_i ho;exact lift (aEv ho h) λ_ h=>h
 .rename_i ho;exact lift (aCF ho h) λ_ h=>h
 .rename_i ho;exact⟨_,_,_,aBZ ho,h⟩
 .rename_i ho;exact lift (ZZ ho h) λ_ h=>h
 .rename_i ho;exact lift (aAs ho h) λ_ h=>h
 .rename_i ho;exact lift (aAr ho h) λ_ h=>h
 .rename_i ho;exact lift (aAm ho h) λ_ h=>h
 .rename_i ho;exact lift (aCu ho h) λ_ h=>h
 .rename_i ho;exact Or.elim h (aCI ho rfl) (aAR ho rfl)
 .rename_i ho;exact lift (aDR ho h) λ_ h=>h
 .rename_i ho;exact aEq h.1 ho h.2
 .rename_i ho;exact lift (aDL ho h) λ_ h=>h
 .rename_i ho;exact lift (aDN ho h) λ_ h=>h
 .rename_i ho;exact Or.elim h (aB2 ho) (aAe ho)
 grind
structure St(C0:bf)(B:Nat)(wI:World)(F:List AV)(σ:Nat->Option Ob)(N:Nat)(a:Act)(w:World):Prop where
 ex:∃ρ:Ren,StR C0 ρ σ w B/\(∀s,N<=cls s->ρ s=aM)/\∀t,ai ρ (bV C0 B w ρ σ) (F.getD t .any) (a.tmps.getD t Go.undef)
 le:B<=w.heap.size
 defers:a.defers=[]
 size:a.tmps.size=aA F
 below:Below B wI w
def Sz(ops:List Oper)(j:Nat):((ops.map (·.dst))[j]?).join=(ops[j]?).bind (·.dst):=aH
def gdA(ds:List (Option Nat))(F:List AV)(j:Nat):Option (Option Bool):=match(ds[j]?).join with
 |some d=>(match F.getD d .any with| .p (.bool b)=>aD (aD b)| .undef=>aD aM|_=>aM)
 |none=>aM
def fh(F:List AV)(d:Option Nat)(r:AV):List AV:=match d with|some d=>F.set d r|none=>F
abbrev kU:=List (List Nat×List Nat)
def inC(R Rc:List Nat):Prop:=∀s∈R,cls s∈Rc
def fu(P:Program)(N:Nat)(ds:List (Option Nat)):List Oper->Nat->List AV->Sto->kU->(List AV->Sto->kU->Prop)->Prop
 |[],_,F,L,log,K=>K F L log
 |o::rest,i,F,L,log,K=>match o.guard with
  |none=>∃r R W Rc Wc,bq P o (l9 F) L (N+i) r R W/\inC R Rc/\inC (W.map (·.1)) Wc/\fu P N ds rest (i+1) (fh F o.dst r) (bM L W) (log++[(Rc,Wc)]) K
  |some (j,want)=>(match gdA ds F j with
   |some (aD b)=>if b=want then∃r R W Rc Wc,bq P o (l9 F) L (N+i) r R W/\inC R Rc/\inC (W.map (·.1)) Wc/\fu P N ds rest (i+1) (fh F o.dst r) (bM L W) (log++[(Rc,Wc)]) K
    else fu P N ds rest (i+1) (fh F o.dst .undef) L (log++[([],[])]) K
   |some aM=>fu P N ds rest (i+1) (fh F o.dst .undef) L (log++[([],[])]) K
   |none=>False)
structure Tr where
 r:AV
 R:List Nat
 W:List (Nat×Option Ob)
 Rc:List Nat
 Wc:List Nat
instance:Inhabited Tr:=⟨⟨.any,[],[],[],[]⟩⟩
def kF(ops:List Oper)(tr:Nat->Tr)(F0:List AV):Nat->List AV
 |0=>F0
 |k+1=>fh (kF ops tr F0 k) ((ops[k]?).bind (·.dst)) (tr k).r
def sgD(tr:Nat->Tr)(σ0:Nat->Option Ob)(D:Nat->Bool):Nat->Nat->Option Ob
 |0=>σ0
 |k+1=>if D k=aE then bM (sgD tr σ0 D k) (tr k).W else sgD tr σ0 D k
def sT(tr:Nat->Tr)(n:Nat):kU:=(bT n).map λk=>((tr k).Rc,(tr k).Wc)
def sV(P:Program)(N:Nat)(ops:List Oper)(F0:List AV)(σ0:Nat->Option Ob)(tr:Nat->Tr)(k:Nat):Prop:=
 ∀o,ops[k]? =aD o->(((o.guard=aM\/∃j b,o.guard=aD (j,b)/\gdA (ops.map (·.dst)) (kF ops tr F0 k) j=aD (aD b))/\
   bq P o (l9 (kF ops tr F0 k)) (sgD tr σ0 (λ_=>aE) k) (N+k) (tr k).r (tr k).R (tr k).W/\inC (tr k).R (tr k).Rc/\inC ((tr k).W.map (·.1)) (tr k).Wc)\/
  (∃j want q,o.guard=aD (j,want)/\gdA (ops.map (·.dst)) (kF ops tr F0 k) j=aD q/\q≠aD want/\tr k=⟨.undef,[],[],[],[]⟩))
def zh(ops:List Oper)(F0:List AV){tr tr':Nat->Tr}:∀k,(∀j,j<k->tr j=tr' j)->kF ops tr F0 k=kF ops tr' F0 k
 |0,_=>rfl
 |k+1,h=>by simp only[kF];rw[zh ops F0 k (λj hj=>h j aC),h k aC]
def xO(σ0:Nat->Option Ob){tr tr':Nat->Tr}{D D':Nat->Bool}:∀k,(∀j,j<k->tr j=tr' j)->(∀j,j<k->D j=D' j)->sgD tr σ0 D k=sgD tr' σ0 D' k
 |0,_,_=>rfl
 |k+1,h,h2=>by simp only[sgD];rw[xO σ0 k (λj hj=>h j aC) (λj hj=>h2 j aC),h k aC,h2 k aC]
variable{ops:List Oper}
def XK{N:Nat}{F0:List AV}{σ0:Nat->Option Ob}{tr tr':Nat->Tr}{k:Nat}(h:∀j,j<=k->tr j=tr' j)(hg:sV P N ops F0 σ0 tr k):sV P N ops F0 σ0 tr' k:=by unfold sV at*;rw[zh ops F0 k (λj hj=>(h j aC).symm),xO (D':=λ_=>aE) σ0 k (λj hj=>(h j aC).symm) (λ_ _=>rfl),<-h k (bR _)];exact hg
def qG(tr:Nat->Tr)(i:Nat)(x:Tr):Nat->Tr:=λk=>if k=i then x else tr k
def PH{tr:Nat->Tr}{i:Nat}{x:Tr}{k:Nat}(h:k<i):tr k=qG tr i x k:=by unfold qG;grind
def Nr{P:Program}{N:Nat}{ops:List Oper}{F0:List AV}{L0:Sto}{K:List AV->Sto->kU->Prop}:
  ∀(rest:List Oper) (i:Nat) (F:List AV) (L:Sto) (log:kU) (tr:Nat->Tr),i<=aA ops->ops.drop i=rest->F=kF ops tr F0 i->L=sgD tr L0 (λ_=>aE) i->log=sT tr i->
   (∀k,k<i->sV P N ops F0 L0 tr k)->fu P N (ops.map (·.dst)) rest i F L log K->
   ∃(tr':Nat->Tr) (L':Sto),(∀k,k<aA ops->sV P N ops F0 L0 tr' k)/\L'=sgD tr' L0 (λ_=>aE) (aA ops)/\K (kF ops tr' F0 (aA ops)) L' (sT tr' (aA ops))
 |[],i,F,L,log,tr,hil,hd,hF,hL,hlog,hg,h=>by
  have hi:i=aA ops:=by have:=congrArg aA hd;simp at this;omega
  subst hi;unfold fu at h;grind
 |o::rest,i,F,L,log,tr,hil,hd,hF,hL,hlog,hg,h=>by
  have hlt:i<aA ops:=by have:=congrArg aA hd;simp at this;omega
  have ho:ops[i]? =aD o:=by have:=congrArg (λl=>l[0]?) hd;simpa using this
  have hd':ops.drop (i+1)=rest:=by have:=congrArg List.tail hd;simpa using this
  have step:∀(x:Tr),sV P N ops F0 L0 (qG tr i x) i->fu P N (ops.map (·.dst)) rest (i+1) (fh F o.dst x.r) (bM L x.W) (log++[(x.Rc,x.Wc)]) K->
    ∃(tr':Nat->Tr) (L':Sto),(∀k,k<aA ops->sV P N ops F0 L0 tr' k)/\L'=sgD tr' L0 (λ_=>aE) (aA ops)/\K (kF ops tr' F0 (aA ops)) L' (sT tr' (aA ops)):=by
   intro x hgx hx;have hc:∀j,j<i->tr j=qG tr i x j:=λj hj=>PH hj;have hxi:qG tr i x i=x:=by unfold qG;rw[if_pos rfl]
   refine Nr rest (i+1) _ _ _ (qG tr i x) hlt hd' ?_ ?_ ?_ ?_ hx
   .simp only[kF,ho,tU,hxi];rw[hF,zh ops F0 i hc]
   .simp only[sgD,if_true,hxi];rw[hL,xO (D':=λ_=>aE) L0 i hc (λ_ _=>rfl)]
   .unfold sT at hlog|-;rw[List.range_succ,dV,List.map_singleton,hxi,hlog];simp_all
   .intro k hk;by_cases e:k=i
    .grind
    .exact XK aH (hg k aC)
  have hc:∀x:Tr,∀j,j<i->qG tr i x j=tr j:=λx j hj=>(PH hj).symm;have hxi:∀x:Tr,qG tr i x i=x:=λx=>by unfold qG;grind
  have mkG:∀x:Tr,(o.guard=aM\/∃j b,o.guard=aD (j,b)/\gdA (ops.map (·.dst)) F j=aD (aD b))->bq P o (l9 F) L (N+i) x.r x.R x.W->inC x.R x.Rc->inC (x.W.map (·.1)) x.Wc->sV P N ops F0 L0 (qG tr i x) i:=by intro x h1 h2 h3 h4 o' ho';rw[ho]at ho';cases ho';rw[zh ops F0 i (hc x),xO (D':=λ_=>aE) L0 i (hc x) (λ_ _=>rfl),<-hF,<-hL,hxi];grind
  unfold fu at h;split at h
  .rename_i hgd;obtain⟨r,R,W,Rc,Wc,h1,i1,i2,h2⟩:=h;exact step ⟨r,R,W,Rc,Wc⟩ aH h2
  .rename_i j want hgd;have skip:∀q,gdA (ops.map (·.dst)) F j=aD q->q≠aD want->fu P N (ops.map (·.dst)) rest (i+1) (fh F o.dst .undef) L (log++[([],[])]) K->
     ∃(tr':Nat->Tr) (L':Sto),(∀k,k<aA ops->sV P N ops F0 L0 tr' k)/\L'=sgD tr' L0 (λ_=>aE) (aA ops)/\K (kF ops tr' F0 (aA ops)) L' (sT tr' (aA ops)):=by
    intro q hq hne hx;refine step ⟨.undef,[],[],[],[]⟩ ?_ hx;intro o' ho';rw[ho]at ho';cases ho';rw[zh ops F0 i (hc _),<-hF,hxi];grind
   split at h
   .rename_i b hb;split at h
    .rename_i e;subst e;obtain⟨r,R,W,Rc,Wc,h1,i1,i2,h2⟩:=h;exact step ⟨r,R,W,Rc,Wc⟩ aH h2
    simp_all
   .grind
   grind
def J6(ops:List Oper):List (List Nat):=
 ops.foldl (λacc o=>acc++[(o.after.toList.filter (kH .any)).foldl (λs e=>s++(e.on::acc.getD e.on []).filter λx=> !s.contains x) []]) []
def JV(o:Oper):List Nat:=o.op.operands.toList.filterMap λx=>match x with| .tmp t=>aD t|_=>aM
def okE(l:List Oper)(anc:List (List Nat)):Bool:=
 (bT (aA l)).all λi=>
  (((l[i]?).map λo=>(o.after.toList.all λe=> !kH .any e||(decide (e.on<i)&&(iP anc i).contains e.on))&&o.dst !=aD 1000000).getD aK)&&
  ((iP anc i).all λj=>decide (j<i)&&(((l[i]?).map λo=>o.after.toList.any λe=>kH .any e&&(e.on==j||(iP anc e.on).contains j)).getD aK))&&
  ((bT (aA l)).all λj=>j==i||fF l j !=fF l i||fF l i==1000000)
def Eb(ops:List Oper)(anc:List (List Nat)):Bool:=
 okE ops anc&&
 ((bT (aA ops)).all λi=>((ops[i]?).map λo=>
   ((JV o).all λt=>(bT (aA ops)).all λj=>j==i||fF ops j !=t||(iP anc i).contains j||(iP anc j).contains i)&&
   (match o.guard with|none=>aE|some (j,_)=>(iP anc i).contains j&&((ops[j]?).bind (·.dst)).isSome)).getD aK)
def Ej(a b:List Nat×List Nat):Bool:=a.2.any (λs=>b.1.contains s||b.2.contains s)||a.1.any (λs=>b.2.contains s)
def Aq(anc:List (List Nat))(log:kU):Bool:=(bT (aA log)).all λi=>(bT i).all λj=> !Ej (log.getD i ([],[])) (log.getD j ([],[]))||(iP anc i).contains j
def Z7{anc:List (List Nat)}(h:okE ops anc=aE):
  (∀(i:Nat) o,ops[i]? =aD o->(∀e∈o.after.toList,kH .any e=aE->e.on<i/\(iP anc i).contains e.on=aE)/\
    (∀j,(iP anc i).contains j=aE->j<i/\∃e∈o.after.toList,kH .any e=aE/\(e.on=j\/(iP anc e.on).contains j=aE))/\(∀d,o.dst=aD d->fF ops i=d/\d≠1000000)/\(o.dst=aM->fF ops i=1000000))/\
  ∀i j,i<aA ops->j<aA ops->j≠i->fF ops j=fF ops i->fF ops i=1000000:=by
 unfold okE at h;rw[cC]at h;have hget:∀(i:Nat) o,ops[i]? =aD o->i<aA ops:=aH;refine⟨?_,?_⟩
 .intro i o ho;have h1:=h i (cP.2 (hget i o ho));simp only[cD]at h1;obtain⟨⟨h2,h3⟩,_⟩:=h1;rw[ho]at h2;refine⟨?_,?_,?_,?_⟩
  .grind
  .intro j hj;rw[cC]at h3;have:=h3 j aH;simp only[cD,decide_eq_true_eq]at this;obtain⟨h4,h5⟩:=this;refine⟨h4,?_⟩;rw[ho]at h5;simp only[fk,pf,kX,cD,jd,beq_iff_eq]at h5;exact h5
  .intro d hd;refine⟨by unfold fF;grind,?_⟩;grind
  .unfold fF;grind
 .intro i j hi hj hne he;have h1:=h i (cP.2 hi);grind
def aEL{tr:Nat->Tr}{σ0:Nat->Option Ob}{D:Nat->Bool}{s i n:Nat}(hin:i<=n)
  (hlo:∀k,k<i->(tr k).W.lookup s≠aM->D k=aE) (hhi:∀k,i<=k->k<n->(tr k).W.lookup s≠aM->D k=aK):
  sgD tr σ0 D n s=sgD tr σ0 (λ_=>aE) i s:=by
 have h1:∀m,m<=i->sgD tr σ0 D m s=sgD tr σ0 (λ_=>aE) m s:=by
  intro m;induction m with
  |zero=>intro _;rfl
  |succ m ih=>
   intro hm;simp only[sgD,if_true];cases hD:D m with
   |true=>unfold bM;grind
   |false=>
    unfold bM;grind
 have h2:∀m,i<=m->m<=n->sgD tr σ0 D m s=sgD tr σ0 D i s:=by
  intro m;induction m with
  |zero=>grind
  |succ m ih=>
   intro hi hm;by_cases e:i=m+1
   .rw[e]
   .simp only[sgD];cases hD:D m with
    |false=>grind
    |true=>
     unfold bM;grind
 grind
variable{W:List (Nat×Option Ob)}
def NO{s:Nat}(h:W.lookup s≠aM):s∈W.map (·.1):=aH
def Ij{g:Nat->Option Ob}{s:Nat}(h:W.lookup s=aM):bM g W s=g s:=by unfold bM;rw[h]
def GD(F:List AV)(d:Option Nat)(r:AV):aA (fh F d r)=aA F:=by cases d<;>simp[fh]
def zW(ops:List Oper)(tr:Nat->Tr)(F0:List AV):∀k,aA (kF ops tr F0 k)=aA F0
 |0=>rfl
 |k+1=>by simp only[kF];rw[GD,zW ops tr F0 k]
def F7{ops:List Oper}{tr:Nat->Tr}{F0:List AV}{t j:Nat}(hj:(ops[j]?).bind (·.dst)=aD t)(ht:t<aA F0)(hu:∀k,k≠j->(ops[k]?).bind (·.dst)≠aD t):∀m,j<m->(kF ops tr F0 m).getD t .any=(tr j).r
 |0,h=>aC
 |m+1,h=>by
  simp only[kF];by_cases e:m=j
  .subst e;rw[hj];have:=zW ops tr F0 m;simp[fh,fY,this,ht]
  .have ih:=F7 (tr:=tr) hj ht hu m aC;cases hd:(ops[m]?).bind (·.dst)with
   |none=>simpa[fh]using ih
   |some d=>
    have:d≠t:=aH;simp only[fh,fY,WF this]at ih|-;exact ih
def Ft{ops:List Oper}{tr:Nat->Tr}{F0:List AV}{t:Nat}:∀m,(∀k,k<m->(ops[k]?).bind (·.dst)≠aD t)->(kF ops tr F0 m).getD t .any=F0.getD t .any
 |0,_=>rfl
 |m+1,h=>by
  simp only[kF];have ih:=Ft (tr:=tr) (F0:=F0) m λk hk=>h k aC;cases hd:(ops[m]?).bind (·.dst)with
  |none=>simpa[fh]using ih
  |some d=>
   have:d≠t:=aH;simp only[fh,fY,WF this]at ih|-;exact ih
def Cz{ρ:Ren}{C:bf}{F:List AV}{V:Nat->Value}{x:Operand}(h:∀t,x= .tmp t->ai ρ C (F.getD t .any) (V t)):ai ρ C (l9 F x) (bj V x):=by
 cases x with
 |tmp t=>exact h t rfl
 |const v=>exact XY v
 |global g=>trivial
 |func f=>
  exact⟨[],[],rfl,by rfl,by rfl⟩
def CV{o:Oper}{V:Nat->Value}{w:World}{K K':Value->World->Prop}(h:cv P o V w K)(hk:∀v w,K v w->K' v w):cv P o V w K':=by
 unfold cv at h|-;split at h
 .grind
 .grind
 .exact h.mono aH
 omega
def YB{o:Oper}{t:Nat}(h: .tmp t∈o.op.operands.toList):t∈JV o:=Lm.2 aH
def StR.drew{C0:bf}{ρ:Ren}{g:Nat->Option Ob}{w:World}{B:Nat}(h:StR C0 ρ g w B):StR C0 ρ g w.drew B:=by
 refine⟨λs o hg=> ?_,h.inj,h.mpi⟩;obtain⟨q,c,h1,h2|⟨b,arr,h2,h3,h4⟩⟩:=h.ob s o hg
 .exact⟨q,c,h1,.inl h2⟩
 .exact⟨q,c,h1,.inr ⟨b,arr,h2,h3,⟨h4.blk,h4.box,h4.row,h4.cells⟩⟩⟩
def W8{id N:Nat}{Q:Exit->Act->World->Prop}{a0:Act}{w0:World}{C0:bf}{B:Nat}{wI:World}{F0:List AV}{L0:Sto}{K:List AV->Sto->Prop}
  (hm:P.follows .mixedOrders=aE) (anc:List (List Nat)) (hok:Eb ops anc=aE) (hds:((bT (aA ops)).all λi=>match(ops[i]?).bind (·.dst)with|some d=>decide (d<aA F0)|none=>aE)=aE)
  (hS:St C0 B wI F0 L0 N a0 w0) (h:fu P N (ops.map (·.dst)) ops 0 F0 L0 [] λF L log=>Aq anc log=aE/\K F L)
  (hK:∀F L a w,K F L->aA F=aA F0->St C0 B wI F L (N+aA ops) a w->Q .normal a w):(FS id ops.toArray aE).wp P Q a0 w0:=by
 obtain⟨tr,L',hgood,hL',hfeet,hKK⟩:=Nr ops 0 F0 L0 [] default (lh _) rfl rfl rfl rfl aH h;unfold Eb at hok;rw[cD,cC]at hok;obtain⟨hokE,hokT⟩:=hok;obtain⟨hop,huq⟩:=Z7 hokE;obtain⟨⟨ρ0,hs0,hn0,hf0⟩,hle0,hdf0,hsz0,hbl0⟩:=hS;have hget:∀(i:Nat) o,ops[i]? =aD o->i<aA ops:=aH;have hat:∀(i:Nat),i<aA ops->∃o,ops[i]? =aD o:=λi hi=>⟨_,fQ hi⟩;have hdst:∀(j t:Nat),(ops[j]?).bind (·.dst)=aD t->fF ops j=t/\t≠1000000/\j<(aA ops)/\t<aA F0:=by intro j t hj;obtain⟨o,ho,hd⟩:=tV.1 hj;have:=(hop j o ho).2.2.1 t hd;refine⟨this.1,this.2,hget j o ho,?_⟩;rw[cC]at hds;have h2:=hds j (cP.2 (hget j o ho));rw[hj]at h2;simpa using h2
 have huniq:∀(j t:Nat),(ops[j]?).bind (·.dst)=aD t->∀(k:Nat),k≠j->(ops[k]?).bind (·.dst)≠aD t:=by intro j t hj k hk e;obtain⟨h1,h2,h3,_⟩:=hdst j t hj;obtain⟨h4,_,h5,_⟩:=hdst k t e;exact h2 (h1▸huq j k h3 h5 hk aH)
 have hclash:∀i k,i<aA ops->k<aA ops->k≠i->∀s,s∈(tr i).R\/s∈(tr i).W.map (·.1)->(tr k).W.lookup s≠aM->(k<i->(iP anc i).contains k=aE)/\(i<k->(iP anc k).contains i=aE):=by
  intro i k hi hk hne s hs hw;have hws:=NO hw;have hin:∀j,j<aA ops->inC (tr j).R (tr j).Rc/\inC ((tr j).W.map (·.1)) (tr j).Wc:=λj hj=>by
   obtain⟨o,ho⟩:=hat j hj;rcases hgood j hj o ho with⟨_,_,h1,h2⟩|⟨_,_,_,_,_,_,h⟩
   .exact⟨h1,h2⟩
   .rw[h];exact⟨λs h=>(cp h).elim,λs h=>(cp h).elim⟩
  have hwc:=(hin k hk).2 s hws;have hsc:cls s∈(tr i).Rc\/cls s∈(tr i).Wc:=hs.imp ((hin i hi).1 s) ((hin i hi).2 s);have hfl:aA (sT tr (aA ops))=aA ops:=by simp[sT]
  have hfg:∀j,j<aA ops->(sT tr (aA ops)).getD j ([],[])=((tr j).Rc,(tr j).Wc):=by intro j hj;simp[sT,fY,hj]
  unfold Aq at hfeet;rw[cC]at hfeet;have hsym:∀a b:List Nat×List Nat,cls s∈b.2->(cls s∈a.1\/cls s∈a.2)->Ej a b=aE/\Ej b a=aE:=by
   intro a b hb ha;unfold Ej;refine⟨?_,?_⟩
   .rw[jd];rcases ha with ha|ha
    .exact .inr (kX.2 ⟨cls s,ha,by simpa using hb⟩)
    .exact .inl (kX.2 ⟨cls s,ha,by rw[jd];exact .inr (by simpa using hb)⟩)
   .rw[jd];refine .inl (kX.2 ⟨cls s,hb,?_⟩);rw[jd];rcases ha with ha|ha
    .exact .inl (by simpa using ha)
    .exact .inr (by simpa using ha)
  obtain⟨c1,c2⟩:=hsym ((tr i).Rc,(tr i).Wc) ((tr k).Rc,(tr k).Wc) hwc hsc;refine⟨λhlt=> ?_,λhlt=> ?_⟩
  .have:=hfeet i (cP.2 (by rw[hfl];exact hi));rw[cC]at this;have:=this k (cP.2 hlt);rw[hfg i hi,hfg k hk,c1]at this;simpa using this
  .have:=hfeet k (cP.2 (by rw[hfl];exact hk));rw[cC]at this;have:=this i (cP.2 hlt);rw[hfg i hi,hfg k hk,c2]at this;simpa using this
 let dsts:List Nat:=(bT (aA ops)).filterMap λi=>(ops[i]?).bind (·.dst)
 have hdm:∀(t:Nat),t∈dsts↔∃(j:Nat),(ops[j]?).bind (·.dst)=aD t:=by intro t;simp only[dsts,Lm,cP];exact⟨λ⟨j,_,h⟩=>⟨j,h⟩,λ⟨j,h⟩=>⟨j,(hdst j t h).2.2.1,h⟩⟩
 let G:(Nat->Bool)->(Nat->Value)->World->Prop:=λD V w=>∃ρ:Ren,
  (∀i j,D i=aE->(iP anc i).contains j=aE->D j=aE)/\(∀i,D i=aE->i<aA ops)/\
  StR C0 ρ (sgD tr L0 D (aA ops)) w B/\B<=w.heap.size/\Below B wI w/\
  (∀(j t:Nat),D j=aE->(ops[j]?).bind (·.dst)=aD t->ai ρ (bV C0 B w ρ (sgD tr L0 D (aA ops))) (tr j).r (V t))/\
  (∀(t:Nat),(∀(j:Nat),D j=aE->(ops[j]?).bind (·.dst)≠aD t)->V t=a0.tmps.getD t Go.undef)/\
  (∀t,ai ρ (bV C0 B w ρ (sgD tr L0 D (aA ops))) (F0.getD t .any) (a0.tmps.getD t Go.undef))/\
  (∀k s,D k=aK->cls s=N+k->ρ s=aM)
 refine XL hm dsts ?_ ?_ G ?_ ?_ ?_
 .rw[cC];intro i hi;have hi':=cP.1 hi;obtain⟨o,ho⟩:=hat i hi';obtain⟨q1,q3,q4,q5⟩:=hop i o ho;simp only[List.getElem?_toArray,ho,fk,pf,cD];refine⟨?_,?_⟩
  .rw[cC];intro e he;cases hb:kH .any e with
   |false=>simp
   |true=>simpa using(q1 e he hb).1
  .cases hd:o.dst with
   |none=>rfl
   |some d=>simpa using(hdm d).2 ⟨i,by rw[ho];exact hd⟩
 .intro s hs;obtain⟨j,hj⟩:=(hdm s).1 hs;rw[hsz0];exact(hdst j s hj).2.2.2
 .have e0:sgD tr L0 (λ_=>aK) (aA ops)=L0:=by
   have:∀m,sgD tr L0 (λ_=>aK) m=L0:=by
    intro m;induction m with
    |zero=>rfl
    |succ m ih=>exact ih
   exact this _
  refine⟨ρ0,aH,aH,?_,hle0,hbl0.drew,aH,(λt _=>rfl),?_,λk s _ hs=>hn0 s aC⟩
  .rw[e0];exact hs0.drew
  .rw[e0];exact hf0
 .intro i o D V w ho ⟨ρ,g1,g2,g3,g4,g5,g6,g7,g8,g9⟩ hD hpre _;have ho':ops[i]? =aD o:=by simpa using ho
  have hi:=hget i o ho';obtain⟨q1,q3,q4,q5⟩:=hop i o ho';have hanc:∀j,(iP anc i).contains j=aE->D j=aE:=by
   intro j hj;obtain⟨_,e,he,hb,h⟩:=q3 j hj;have:=hpre e he hb;rcases h with rfl|h
   .exact this
   .exact g1 _ _ this h
  have hdesc:∀j,(iP anc j).contains i=aE->D j=aK:=by
   intro j hj;cases hx:D j with
   |false=>rfl
   |true=>rw[g1 _ _ hx hj]at hD;cases hD
  have hT:=hokT i (cP.2 hi);rw[ho']at hT;simp only[fk,pf,cD]at hT;obtain⟨hT1,hT2⟩:=hT
  let Fi:=kF ops tr F0 i
  have hslot:∀t,t∈JV o\/(∃(j:Nat) (b:Bool),o.guard=aD (j,b)/\(ops[j]?).bind (·.dst)=aD t)->ai ρ (bV C0 B w ρ (sgD tr L0 D (aA ops))) (Fi.getD t .any) (V t):=by
   intro t ht;have hdone:∀(j:Nat),j<i->(ops[j]?).bind (·.dst)=aD t->D j=aE:=by
    intro j hji hj;rcases ht with ht|⟨j',b,hg,hj'⟩
    .rw[cC]at hT1;have:=hT1 t ht;rw[cC]at this;have:=this j (cP.2 aC);simp only[jd,beq_iff_eq,bne_iff_ne,ne_eq]at this;rcases this with((h|h)|h)|h
     .omega
     .exact absurd (hdst j t hj).1 h
     .exact hanc j h
     .have h1:=(hop j _ (fQ aC)).2.1 i h;omega
    .have:j=j':=by
      rcases rb j j' with h|h
      .exact absurd hj (huniq j' t hj' j h)
      .exact h
     subst this;rw[hg]at hT2;simp only[cD]at hT2;exact hanc j hT2.1
   have hnot:∀(j:Nat),i<=j->(ops[j]?).bind (·.dst)=aD t->D j=aK:=by
    intro j hij hj;by_cases e:j=i
    .rw[e];exact hD
    rcases ht with ht|⟨j',b,hg,hj'⟩
    .rw[cC]at hT1;have:=hT1 t ht;rw[cC]at this;have:=this j (cP.2 (hdst j t hj).2.2.1);simp only[jd,beq_iff_eq,bne_iff_ne,ne_eq]at this;rcases this with((h|h)|h)|h
     .omega
     .exact absurd (hdst j t hj).1 h
     .have:=(q3 j h).1;omega
     .exact hdesc j h
    .have:j=j':=by
      rcases rb j j' with h|h
      .exact absurd hj (huniq j' t hj' j h)
      .exact h
     subst this;rw[hg]at hT2;simp only[cD]at hT2;have:=(q3 j hT2.1).1;omega
   by_cases hw:∃(j:Nat),j<i/\(ops[j]?).bind (·.dst)=aD t
   .obtain⟨j,hji,hj⟩:=hw;have:=F7 (tr:=tr) hj (hdst j t hj).2.2.2 (huniq j t hj) i hji;rw[this];exact g6 j t (hdone j hji hj) hj
   .have:=Ft (ops:=ops) (tr:=tr) (F0:=F0) (t:=t) i λk hk e=>hw ⟨k,hk,e⟩;rw[this,g7 t λj hDj e=> ?_]
    .exact g8 t
    .rcases pV j i with h|h
     .exact hw ⟨j,h,e⟩
     .rw[hnot j h e]at hDj;cases hDj
  have hgi:=hgood i hi o ho';have hDset:∀s,sgD tr L0 (λj=>if j=i then aE else D j) (aA ops) s=bM (sgD tr L0 D (aA ops)) (tr i).W s:=by
   intro s;have hlt:∀m,m<=i->sgD tr L0 (λj=>if j=i then aE else D j) m=sgD tr L0 D m:=λm hm=>xO _ m (λ_ _=>rfl) (λj hj=>by rw[if_neg aC]);cases hl:(tr i).W.lookup s with
   |none=>
    rw[Ij hl];have:∀m,i<m->sgD tr L0 (λj=>if j=i then aE else D j) m s=sgD tr L0 D m s:=by
     intro m;induction m with
     |zero=>omega
     |succ m ih=>
      intro hm;by_cases e:m=i
      .subst e;simp only[sgD,if_true,hD,mf,if_false];rw[Ij hl,hlt m (bR _)]
      .simp only[sgD,if_neg e];cases hDm:D m with
       |false=>exact ih aC
       |true=>simp only[if_true];unfold bM;rw[ih aC]
    exact this _ hi
   |some x=>
    have:∀m,i<m->m<=aA ops->sgD tr L0 (λj=>if j=i then aE else D j) m s=x:=by
     intro m;induction m with
     |zero=>omega
     |succ m ih=>
      intro hm hmn;by_cases e:m=i
      .subst e;simp only[sgD,if_true];unfold bM;rw[hl]
      .simp only[sgD,if_neg e];have hlm:D m=aE->(tr m).W.lookup s=aM:=by
        intro hDm;cases hl2:(tr m).W.lookup s with
        |none=>rfl
        |some y=>
         have:=(hclash i m hi aC e s (.inr (NO (by rw[hl];simp))) (by rw[hl2];simp)).2 aC;rw[hdesc m this]at hDm;cases hDm
       cases hDm:D m with
       |false=>exact ih aC aC
       |true=>simp only[if_true];rw[Ij (hlm hDm)];exact ih aC aC
    rw[this _ hi (bR _)];unfold bM;rw[hl]
  have key:∀(ρ':Ren) (v:Value) (w':World),(∀s,cls s≠N+i->ρ' s=ρ s)->
    (∀b o' x,bV C0 B w ρ (sgD tr L0 D (aA ops)) b o' x->bV C0 B w' ρ' (bM (sgD tr L0 D (aA ops)) (tr i).W) b o' x)->
    StR C0 ρ' (bM (sgD tr L0 D (aA ops)) (tr i).W) w' B->ai ρ' (bV C0 B w' ρ' (bM (sgD tr L0 D (aA ops)) (tr i).W)) (tr i).r v->Below B w w'->
    G (λj=>if j=i then aE else D j) (match o.dst with|some d=>λs=>if s=d then v else V s|none=>V) w':=by
   intro ρ' v w' k1 k2 k3 k4 k5;have hsg:sgD tr L0 (λj=>if j=i then aE else D j) (aA ops)=bM (sgD tr L0 D (aA ops)) (tr i).W:=funext hDset;have hext:∀s q,ρ s=aD q->ρ' s=aD q:=by intro s q hq;rw[k1 s (λe=>by rw[g9 i s hD e]at hq;cases hq)];exact hq
   have hVd:∀(t:Nat),(ops[i]?).bind (·.dst)=aD t->(match o.dst with|some d=>λs=>if s=d then v else V s|none=>V) t=v:=by intro t ht;rw[ho']at ht;have:o.dst=aD t:=ht;rw[this];simp
   have hVn:∀(t:Nat),(ops[i]?).bind (·.dst)≠aD t->(match o.dst with|some d=>λs=>if s=d then v else V s|none=>V) t=V t:=by
    intro t ht;rw[ho']at ht;cases hd:o.dst with
    |none=>rfl
    |some d=>
     have:t≠d:=λe=>ht (by rw[e];exact hd);simp[this]
   show G _ _ _;refine⟨ρ',?_,?_,by rw[hsg];exact k3,cZ g4 k5.size,g5.trans k5,?_,?_,?_,?_⟩
   .intro i' j h1 h2;dsimp only at h1|-;by_cases e:j=i
    .rw[if_pos e]
    .rw[if_neg e];by_cases e':i'=i
     .subst e';exact hanc j h2
     .rw[if_neg e']at h1;exact g1 _ _ h1 h2
   .intro i' h1;dsimp only at h1;by_cases e':i'=i
    .rw[e'];exact hi
    .rw[if_neg e']at h1;exact g2 _ h1
   .intro j t h1 h2;dsimp only at h1;rw[hsg];by_cases e:j=i
    .subst e;rw[hVd t h2];exact k4
    .rw[if_neg e]at h1;rw[hVn t (huniq j t h2 i (λh=>e h.symm))];exact ai.mono hext k2 _ _ (g6 j t h1 h2)
   .intro t ht;rw[hVn t (ht i af)];refine g7 t λj hj=>ht j ?_;dsimp only;by_cases e:j=i
    .rw[if_pos e]
    .rw[if_neg e];exact hj
   .intro t;rw[hsg];exact ai.mono hext k2 _ _ (g8 t)
   .intro k s hk hs;dsimp only at hk;by_cases e:k=i
    .rw[if_pos e]at hk;cases hk
    .rw[if_neg e]at hk;rw[k1 _ aC];exact g9 k s hk hs
  have hgv:∀j b q,o.guard=aD (j,b)->gdA (ops.map (·.dst)) Fi j=aD q->gdV ops.toArray V j=q:=by
   intro j b q hg hq;unfold gdA at hq;rw[Sz]at hq;cases hd:(ops[j]?).bind (·.dst)with
   |none=>rw[hd]at hq;cases hq
   |some d=>
    rw[hd]at hq;have hrep:=hslot d (.inr ⟨j,b,hg,hd⟩);unfold gdV;rw[show(ops.toArray[j]?).bind (·.dst)=aD d by simpa using hd];dsimp only at hq|-;split at hq
    .rename_i bb e;rw[e]at hrep;cases hq;rw[hrep]
    .rename_i e;rw[e]at hrep;cases hq;rw[hrep];rfl
    .cases hq
  rcases hgi with⟨hgd,hsim,_,_⟩|⟨j,want,q,hgd,hq,hne,htr⟩
  .have hwant:kI o (gdV ops.toArray V)=aE:=by
    unfold kI;rcases hgd with h|⟨j,b,h,hq⟩
    .rw[h]
    .rw[h];dsimp only;rw[hgv j b _ h hq];simp
   rw[if_pos hwant];have hsg:∀s,s∈(tr i).R\/s∈(tr i).W.map (·.1)->sgD tr L0 D (aA ops) s=sgD tr L0 (λ_=>aE) i s:=by
    intro s hs;refine aEL (Nat.le_of_lt hi) ?_ ?_
    .intro k hk hw;exact hanc k ((hclash i k hi aC aC s hs hw).1 hk)
    .intro k hk1 hk2 hw;by_cases e:k=i
     .rw[e];exact hD
     .exact hdesc k ((hclash i k hi hk2 e s hs hw).2 aC)
   have hgn:∀s,cls s=N+i->sgD tr L0 D (aA ops) s=aM:=by
    intro s hs;cases hx:sgD tr L0 D (aA ops) s with
    |none=>rfl
    |some ob=>obtain⟨q,c,h1,_⟩:=g3.ob _ _ hx;rw[g9 i s hD hs]at h1;cases h1
   refine CV (hsim C0 ρ _ V w B g3 g4 (λs hs=>hsg s (.inl hs)) (λs hs=>g9 i s hD hs) hgn ?_) ?_
   .intro x hx;refine Cz λt e=> ?_;subst e;exact hslot t (.inl (YB hx))
   .rintro v w' ⟨ρ',k1,k2,k3,k4,k5⟩;exact key ρ' v w' k1 k2 k3 k4 k5
  .have hwant:kI o (gdV ops.toArray V)=aK:=by unfold kI;rw[hgd];dsimp only;rw[hgv j want _ hgd hq];simpa using hne
   rw[hwant,if_neg af];have e1:(tr i).W=[] :=by rw[htr]
   have e2:(tr i).r= .undef:=by rw[htr]
   refine key ρ Go.undef w (λ_ _=>rfl) ?_ ?_ ?_ (Below.refl _ _)
   .rw[e1];exact λ_ _ _ h=>h
   .rw[e1];exact g3
   .rw[e2];rfl
 .intro D V w ⟨ρ,g1,g2,g3,g4,g5,g6,g7,g8,g9⟩ hall;simp only[List.size_toArray]at hall;have hsg:sgD tr L0 D (aA ops)=L':=by rw[hL'];exact xO _ _ (λ_ _=>rfl) (λj hj=>hall j hj)
  obtain⟨p1,p2,p3⟩:=F4 V dsts a0 (λs hs=>by obtain⟨j,hj⟩:=(hdm s).1 hs;rw[hsz0];exact(hdst j s hj).2.2.2)
  refine hK _ L' _ w hKK (zW _ _ _ _) ⟨⟨ρ,by rw[<-hsg];exact g3,?_,?_⟩,g4,p1.trans hdf0,by rw[p2,hsz0,zW],g5⟩
  .intro s hs;have:D (cls s-N)=aK:=by
    cases hx:D (cls s-N)with
    |false=>rfl
    |true=>have:=g2 _ hx;omega
   exact g9 _ s this aC
  .intro t;rw[<-hsg];by_cases ht:t<a0.tmps.size
   .rw[p3 t ht];by_cases hm:t∈dsts
    .rw[if_pos hm];obtain⟨j,hj⟩:=(hdm t).1 hm;obtain⟨_,_,h3,h4⟩:=hdst j t hj;rw[F7 hj h4 (huniq j t hj) _ h3];exact g6 j t (hall j h3) hj
    .rw[if_neg hm,Ft _ λk _ e=>hm ((hdm t).2 ⟨k,e⟩)];exact g8 t
   .have:(kF ops tr F0 (aA ops)).getD t .any= .any:=by rw[fY,oZ (by rw[zW];omega)];rfl
    rw[this];trivial
attribute [irreducible] fu
end
section
abbrev rF:=Exit->List AV->Sto->Nat->Prop
variable{P:Program}{Q:Exit->Act->World->Prop}
def MC{ops:Array Oper}{i:Nat}{o:Oper}{a:Act}{w:World}{next:Act->World->Prop}(ho:ops[i]? =aD o)
  (h:if kI o (gdV ops λs=>a.tmps.getD s Go.undef)=aE then cv P o (λs=>a.tmps.getD s Go.undef) w λv w'=>next (a.put o.dst v) w' else next (a.put o.dst Go.undef) w):wpOp P ops Q i next a w:=by
 unfold wpOp;rw[ho];simp only[];rw[MW];by_cases hw:kI o (gdV ops λs=>a.tmps.getD s undef)=aE
 .rw[if_pos hw]at h|-;refine .inl ?_;unfold Oper.wp;rw[Act.eval_evalV];unfold cv at h;cases hr:(execOp (bj λs=>a.tmps.getD s undef) o).run P w with
  |halt x w'=>grind
  |ok n w'=>
   rw[hr]at h;cases n<;>simp only[]at h<;>first|exact h.elim|skip
   .exact h
   .exact h
   .rename_i f args;refine h.mono ?_;grind
 grind
def Pm(a:Act)(d:Option Nat)(v:Value)(t:Nat):(a.put d v).tmps.getD t Go.undef=if d=aD t/\t<a.tmps.size then v else a.tmps.getD t Go.undef:=by
 cases d with
 |none=>simp[tR]
 |some d=>
  simp only[tR,js,Bk,iG];grind
def OI(F:List AV)(d:Option Nat)(r:AV)(t:Nat):(fh F d r).getD t .any=if d=aD t/\t<(aA F) then r else F.getD t .any:=by
 cases d with
 |none=>simp[fh]
 |some d=>
  simp only[fh,fY,Bm,iG];grind
section
variable {P:Program} {C0:bf} {B:Nat} {wI:World}
def Cq{ops tail:List Oper}{m N:Nat}{Q:Exit->Act->World->Prop}{K:List AV->Sto->kU->Prop}(hm:m+aA tail=aA ops)(hK:∀F L log a w,K F L log->St C0 B wI F L (N+m) a w->wpOps P ops.toArray Q (FZ m (aA tail)) a w):
  ∀(rest:List Oper) (i:Nat) (F:List AV) (L:Sto) (log:kU) (a:Act) (w:World),i<=aA ops->ops.drop i=rest++tail->fu P N (ops.map (·.dst)) rest i F L log K->St C0 B wI F L (N+i) a w->wpOps P ops.toArray Q (FZ i (aA rest+aA tail)) a w
 |[],i,F,L,log,a,w,hil,hd,h,hS=>by
  have hi:i=m:=by have:=congrArg aA hd;simp at this;omega
  subst hi;unfold fu at h;grind
 |o::rest,i,F,L,log,a,w,hil,hd,h,hS=>by
  have hlt:i<aA ops:=by have:=congrArg aA hd;simp at this;omega
  have ho:ops[i]? =aD o:=by have:=congrArg (λl=>l[0]?) hd;simpa using this
  have hd':ops.drop (i+1)=rest++tail:=by have:=congrArg List.tail hd;simpa using this
  rw[iE,(aC:aA rest+1+aA tail=(aA rest+aA tail)+1)];refine MC (by simpa using ho) ?_;obtain⟨⟨ρ,s1,s2,s3⟩,s4,s5,s6,s7⟩:=hS;have fin:∀(ρ':Ren) (W:List (Nat×Option Ob)) (r:AV) (v:Value) (w':World) (K':Prop),(∀s,cls s≠N+i->ρ' s=ρ s)->(∀b o' x,bV C0 B w ρ L b o' x->bV C0 B w' ρ' (bM L W) b o' x)->StR C0 ρ' (bM L W) w' B->
    ai ρ' (bV C0 B w' ρ' (bM L W)) r v->Below B w w'->St C0 B wI (fh F o.dst r) (bM L W) (N+(i+1)) (a.put o.dst v) w':=by
   intro ρ' W r v w' _ k1 k2 k3 k4 k5;have hext:∀s q,ρ s=aD q->ρ' s=aD q:=by intro s q hq;rw[k1 s aH];exact hq
   refine⟨⟨ρ',k3,aH,λt=> ?_⟩,cZ s4 k5.size,by cases hd2:o.dst<;>exact s5,by rw[GD];cases hd2:o.dst<;>simpa[tR]using s6,s7.trans k5⟩;rw[OI,Pm,s6];by_cases e:o.dst=aD t/\t<aA F
   .grind
   .rw[if_neg e,if_neg e];exact ai.mono hext k2 _ _ (s3 t)
  have run:(∃r R W Rc Wc,bq P o (l9 F) L (N+i) r R W/\inC R Rc/\inC (W.map (·.1)) Wc/\fu P N (ops.map (·.dst)) rest (i+1) (fh F o.dst r) (bM L W) (log++[(Rc,Wc)]) K)->
    cv P o (λs=>a.tmps.getD s Go.undef) w λv w'=>wpOps P ops.toArray Q (FZ (i+1) (aA rest+aA tail)) (a.put o.dst v) w':=by
   rintro⟨r,R,W,Rc,Wc,hsim,_,_,hk⟩;have hgn:∀s,cls s=N+i->L s=aM:=by
    intro s hs;cases hx:L s with
    |none=>rfl
    |some ob=>obtain⟨q,c,h1,_⟩:=s1.ob _ _ hx;grind
   refine CV (hsim C0 ρ L _ w B s1 s4 (λ_ _=>rfl) aH hgn (λx _=>Cz λt _=>s3 t)) ?_;rintro v w' ⟨ρ',k1,k2,k3,k4,k5⟩;exact Cq hm hK rest (i+1) _ _ _ _ w' hlt hd' hk (fin ρ' W r v w' True k1 k2 k3 k4 k5)
  have skip:fu P N (ops.map (·.dst)) rest (i+1) (fh F o.dst .undef) L (log++[([],[])]) K->wpOps P ops.toArray Q (FZ (i+1) (aA rest+aA tail)) (a.put o.dst Go.undef) w:=by intro h;exact Cq hm hK rest (i+1) _ _ _ _ w hlt hd' h (fin ρ [] .undef Go.undef w True (λ_ _=>rfl) (λ_ _ _ h=>h) s1 (by rfl) (Below.refl _ _))
  have hgv:∀j b q,o.guard=aD (j,b)->gdA (ops.map (·.dst)) F j=aD q->gdV ops.toArray (λs=>a.tmps.getD s Go.undef) j=q:=by
   intro j b q hgd hq;unfold gdA at hq;rw[Sz]at hq;cases hd:(ops[j]?).bind (·.dst)with
   |none=>grind
   |some d=>
    rw[hd]at hq;have hrep:=s3 d;unfold gdV;rw[(aH:(ops.toArray[j]?).bind (·.dst)=aD d)];dsimp only at hq|-;split at hq
    .rename_i bb e;unfold ai bE at hrep;grind
    .rename_i e;rw[e]at hrep;cases hq;rw[hrep];rfl
    .cases hq
  unfold fu at h;split at h
  .rename_i hgd;have hw:kI o (gdV ops.toArray λs=>a.tmps.getD s Go.undef)=aE:=by unfold kI;rw[hgd]
   grind
  .rename_i j want hgd;split at h
   .rename_i b hb;split at h
    .rename_i e;subst e;have hw:kI o (gdV ops.toArray λs=>a.tmps.getD s Go.undef)=aE:=by unfold kI;rw[hgd];dsimp only;rw[hgv j b _ hgd hb];simp
     grind
    .rename_i e;have hw:kI o (gdV ops.toArray λs=>a.tmps.getD s Go.undef)=aK:=by unfold kI;rw[hgd];dsimp only;rw[hgv j want _ hgd hb];simpa using e
     grind
   .rename_i hb;have hw:kI o (gdV ops.toArray λs=>a.tmps.getD s Go.undef)=aK:=by unfold kI;rw[hgd];dsimp only;rw[hgv j want _ hgd hb];rfl
    grind
   grind
variable{Q:Exit->Act->World->Prop}
def W7{id N:Nat}{ops:List Oper}{a:Act}{w:World}{F:List AV}{L:Sto}{K:List AV->Sto->Prop}
  (hS:St C0 B wI F L N a w) (h:fu P N (ops.map (·.dst)) ops 0 F L [] λF L _=>K F L)
  (hK:∀F L a w,K F L->St C0 B wI F L (N+aA ops) a w->Q .normal a w):(FS id ops.toArray aK).wp P Q a w:=by
 refine wp_region ?_;have:=Cq (P:=P) (C0:=C0) (B:=B) (wI:=wI) (Q:=Q) (tail:=[]) (m:=aA ops) rfl (λF L _ a w h hS=>hK F L a w h hS) ops 0 F L [] a w (lh _) af h aC;rw[List.range_eq_range'];omega
def wR(P:Program)(o:Oper)(F:List AV)(L:Sto)(N:Nat)(K:List AV->Sto->Nat->Prop):Prop:=∀(C0:bf) (B:Nat) (wI:World) (a:Act) (w:World),St C0 B wI F L N a w->
 cv P o (λs=>a.tmps.getD s Go.undef) w λv w'=>∃F' L' N',K F' L' N'/\St C0 B wI F' L' N' (a.put o.dst v) w'
def XW{id N:Nat}{pre:List Oper}{o:Oper}{a:Act}{w:World}{F:List AV}{L:Sto}{K:List AV->Sto->Nat->Prop}(hgd:o.guard=aM)
  (hS:St C0 B wI F L N a w) (h:fu P N ((pre++[o]).map (·.dst)) pre 0 F L [] λF L _=>wR P o F L (N+aA pre) K)
  (hK:∀F L N a w,K F L N->St C0 B wI F L N a w->Q .normal a w):(FS id (pre++[o]).toArray aK).wp P Q a w:=by
 refine wp_region ?_;have:=Cq (P:=P) (C0:=C0) (B:=B) (wI:=wI) (Q:=Q) (ops:=pre++[o]) (tail:=[o]) (m:=aA pre) af (λF L _ a w h hS=>by
  refine MC (o:=o) af ?_;have hw:kI o (gdV (pre++[o]).toArray λs=>a.tmps.getD s Go.undef)=aE:=by unfold kI;rw[hgd]
  rw[if_pos hw];refine CV (h C0 B wI a w hS) ?_;rintro v w' ⟨F',L',N',h1,h2⟩;exact hK F' L' N' _ _ h1 h2) pre 0 F L [] a w (lh _) af h aC
 rw[List.range_eq_range'];grind
end
def iD(F:List AV)(L:Sto)(N:Nat)(F':List AV)(L':Sto)(N':Nat):Prop:=∀(C0:bf) (B:Nat) (wI:World) (a:Act) (w:World),St C0 B wI F L N a w->St C0 B wI F' L' N' a w
def iD.rfl{F:List AV}{L:Sto}{N:Nat}:iD F L N F L N:=λ_ _ _ _ _ h=>h
def Vu(P:Program)(draw:Bool)(ops:List Oper)(F:List AV)(L:Sto)(N:Nat)(K:List AV->Sto->Prop):Prop:=match draw with
 |true=>∃anc:List (List Nat),P.follows .mixedOrders=aE/\Eb ops anc=aE/\((bT (aA ops)).all λi=>match(ops[i]?).bind (·.dst)with|some d=>decide (d<aA F)|none=>aE)=aE/\fu P N (ops.map (·.dst)) ops 0 F L [] λF L log=>Aq anc log=aE/\K F L
 |false=>(ops.all (λo=>match o.guard with|none=>aE|some (j,_)=>((ops[j]?).bind (·.dst)).isSome)=aE)/\fu P N (ops.map (·.dst)) ops 0 F L [] λF L _=>K F L
def awp(P:Program):Code->rF->List AV->Sto->Nat->Prop
 | .skip,Q,F,L,N=>Q .normal F L N
 | .region _ ops draw,Q,F,L,N=>(Vu P draw ops.toList F L N λF L=>Q .normal F L (N+ops.size))\/(draw=aK/\∃pre o,ops.toList=pre++[o]/\o.guard=aM/\fu P N (ops.toList.map (·.dst)) pre 0 F L [] λF L _=>wR P o F L (N+aA pre) λF L N=>Q .normal F L N)
 | .seq a b,Q,F,L,N=>∃M:List AV->Sto->Nat->Prop,awp P a (λe F L N=>match e with| .normal=>M F L N|e=>Q e F L N) F L N/\∀F L N,M F L N->∃F' L' N',iD F L N F' L' N'/\awp P b Q F' L' N'
 | .cond c t e,Q,F,L,N=>∃b,l9 F c= .p (.bool b)/\(b=aE->awp P t Q F L N)/\(b=aK->awp P e Q F L N)
 | .block id c,Q,F,L,N=>awp P c (λe F L N=>match e with| .exit id'=>if id'=id then Q .normal F L N else Q (.exit id') F L N|e=>Q e F L N) F L N
 | .loop c,Q,F,L,N=>∃(Inv:List AV->Sto->Nat->Prop) (μ:List AV->Sto->Nat->Nat),(∃F' L' N',iD F L N F' L' N'/\Inv F' L' N')/\
    ∀F L N,Inv F L N->awp P c (λe F1 L1 N1=>match e with| .normal=>∃F' L' N',iD F1 L1 N1 F' L' N'/\Inv F' L' N'/\μ F' L' N'<μ F L N|e=>Q e F1 L1 N1) F L N
 | .exit id,Q,F,L,N=>Q (.exit id) F L N
 | .ret,Q,F,L,N=>Q .ret F L N
 | .scope c,Q,F,L,N=>awp P c (λe F L N=>match e with| .goto _=>False|e=>Q e F L N) F L N
 | .label _,Q,F,L,N=>Q .normal F L N
 |_,_,_,_,_=>False
def Md{P:Program}{c:Code}{Q:Exit->Act->World->Prop}:∀{n:Nat} {a:Act} {w:World},Fa P c Q n a w->Fa P c Q (n+1) a w
 |0,_,_,h=>h.elim
 |n+1,a,w,h=>by
  refine wp_mono h ?_;intro e a w h;cases e<;>first|exact h|exact Md h
def Zk{c:Code}{n m:Nat}(h:n<=m){a:Act}{w:World}(hr:Fa P c Q n a w):Fa P c Q m a w:=by
 induction h with
 |refl=>exact hr
 |step _ ih=>exact Md ih
def ZH{c:Code}{a:Act}{w:World}(I:Nat->Act->World->Prop){n:Nat}(h0:I n a w)
  (hr:∀n a w,I n a w->c.wp P (Exit.then (λa' w'=>∃m,m<n/\I m a' w') Q) a w):(Code.loop c).wp P Q a w:=by
 have key:∀n a w,I n a w->Fa P c Q (n+1) a w:=by
  intro n;induction n using Nat.strongRecOn with
  |ind n ih=>
   intro a w h;refine wp_mono (hr n a w h) ?_;intro e a' w' h';cases e<;>first|exact h'|skip
   obtain⟨m,hm,hI⟩:=h';exact Zk aH (ih m hm a' w' hI)
 exact wp_loop_rounds (n+1) (key n a w h0)
def Hh{C0:bf}{B:Nat}{wI:World}:∀(c:Code) (Q:rF) (F:List AV) (L:Sto) (N:Nat) (a:Act) (w:World),awp P c Q F L N->St C0 B wI F L N a w->
  c.wp P (λe a' w'=>∃F' L' N',Q e F' L' N'/\St C0 B wI F' L' N' a' w') a w:=by
 intro c;induction c with
 |skip=>intro Q F L N a w h hS;exact wp_skip ⟨F,L,N,h,hS⟩
 |region id ops draw=>
  intro Q F L N a w h hS;rcases h with h|⟨rfl,pre,o,h1,h2,h3⟩
  rotate_left
  .have e:ops=(pre++[o]).toArray:=by rw[<-h1]
   subst e;exact XW h2 hS h3 aH
  cases draw with
  |true=>
   obtain⟨anc,h1,h2,h3,h4⟩:=h;have:=W8 (id:=id) (P:=P) (Q:=λe a' w'=>∃F' L' N',Q e F' L' N'/\St C0 B wI F' L' N' a' w') h1 anc h2 h3 hS h4 aH;omega
  |false=>
   obtain⟨h1,h4⟩:=h;have:=W7 (id:=id) (P:=P) (Q:=λe a' w'=>∃F' L' N',Q e F' L' N'/\St C0 B wI F' L' N' a' w') hS h4 aH;omega
 |seq x y ihx ihy=>
  intro Q F L N a w h hS;obtain⟨M,h1,h2⟩:=h;refine wp_seq (wp_mono (ihx _ F L N a w h1 hS) ?_);rintro e a' w' ⟨F',L',N',hq,hs⟩;cases e<;>first|exact⟨F',L',N',hq,hs⟩|(obtain⟨F2,L2,N2,hw,hy⟩:=h2 _ _ _ hq;exact ihy Q F2 L2 N2 a' w' hy (hw C0 B wI a' w' hs))
 |cond c t e iht ihe=>
  intro Q F L N a w h hS;obtain⟨b,hb,h1,h2⟩:=h;obtain⟨⟨ρ,s1,s2,s3⟩,_⟩:=id hS;have hc:a.eval c= .bool b:=by rw[Act.eval_evalV];have:=Cz (x:=c) (F:=F) (V:=λs=>a.tmps.getD s undef) (ρ:=ρ) (C:=bV C0 B w ρ L) (λt _=>s3 t);rw[hb]at this;unfold ai bE at this;exact this
  exact wp_cond_split hc aH aH
 |block id c ih=>
  intro Q F L N a w h hS;refine wp_block (wp_mono (ih _ F L N a w h hS) ?_);rintro e a' w' ⟨F',L',N',hq,hs⟩;cases e<;>first|exact⟨F',L',N',hq,hs⟩|skip
  rename_i id';unfold Exit.inBlock;grind
 |loop c ih=>
  intro Q F L N a w h hS;obtain⟨Inv,μ,⟨F0,L0,N0,hw0,hI0⟩,hround⟩:=h;refine ZH (λn a w=>∃F L N,Inv F L N/\St C0 B wI F L N a w/\μ F L N=n) ⟨F0,L0,N0,hI0,hw0 C0 B wI a w hS,rfl⟩ ?_;rintro n a' w' ⟨F1,L1,N1,hI1,hS1,rfl⟩;refine wp_mono (ih _ F1 L1 N1 a' w' (hround F1 L1 N1 hI1) hS1) ?_;rintro e a2 w2 ⟨F2,L2,N2,hq,hs⟩;cases e<;>first|exact⟨F2,L2,N2,hq,hs⟩|skip
  obtain⟨F3,L3,N3,hw,hI3,hlt⟩:=hq;exact⟨_,hlt,F3,L3,N3,hI3,hw C0 B wI a2 w2 hs,rfl⟩
 |exit id=>intro Q F L N a w h hS;exact wp_exit ⟨F,L,N,h,hS⟩
 |ret=>intro Q F L N a w h hS;exact wp_ret ⟨F,L,N,h,hS⟩
 |rangeFunc f params x y _ _=>intro Q F L N a w h;exact h.elim
 |scope c ih=>
  intro Q F L N a w h hS;refine wp_scope_straight (wp_mono (ih _ F L N a w h hS) ?_);rintro e a' w' ⟨F',L',N',hq,hs⟩;cases e<;>first|exact hq.elim|exact⟨F',L',N',hq,hs⟩
 |label l=>intro Q F L N a w h hS;exact wp_label ⟨F,L,N,h,hS⟩
 |goto l=>intro Q F L N a w h;exact h.elim
 |refuse s=>intro Q F L N a w h;exact h.elim
section
variable {P:Program} {y:Code} {Q:rF} {F:List AV} {L:Sto} {N:Nat}
def gOk(l:List Oper):Bool:=l.all λo=>match o.guard with|none=>aE|some (j,_)=>((l[j]?).bind (·.dst)).isSome
def dOk(l:List Oper)(n:Nat):Bool:=(bT (aA l)).all λi=>match(l[i]?).bind (·.dst)with|some d=>decide (d<n)|none=>aE
def XH{x:Code}(J:List AV->Sto->Nat->Prop)(h1:awp P x (λe F L N=>match e with| .normal=>∃F' L' N',iD F L N F' L' N'/\J F' L' N'|e=>Q e F L N) F L N)(h2:∀F L N,J F L N->awp P y Q F L N):awp P (.seq x y) Q F L N:=
 ⟨λF L N=>∃F' L' N',iD F L N F' L' N'/\J F' L' N',h1,aH⟩
def aCO{c:Code}(Inv:List AV->Sto->Nat->Prop)(μ:List AV->Sto->Nat)(h0:∃F' L' N',iD F L N F' L' N'/\Inv F' L' N')
 (hr:∀F L N,Inv F L N->awp P c (λe F1 L1 N1=>match e with| .normal=>∃F' L' N',iD F1 L1 N1 F' L' N'/\Inv F' L' N'/\μ F' L'<μ F L|e=>Q e F1 L1 N1) F L N):awp P (.loop c) Q F L N:=⟨Inv,λF L _=>μ F L,h0,hr⟩
def aAW{c:Code}(Inv:List AV->Sto->Nat->Prop)(μ:List AV->Sto->Nat->Nat)(h0:∃F' L' N',iD F L N F' L' N'/\Inv F' L' N')
 (hr:∀F L N,Inv F L N->awp P c (λe F1 L1 N1=>match e with| .normal=>∃F' L' N',iD F1 L1 N1 F' L' N'/\Inv F' L' N'/\μ F' L' N'<μ F L N|e=>Q e F1 L1 N1) F L N):awp P (.loop c) Q F L N:=⟨Inv,μ,h0,hr⟩
end
section
variable {P:Program} {N:Nat} {ds:List (Option Nat)} {K:List AV->Sto->kU->Prop}
end
end
def j9(P:Program):List ResultVar->List AV->(Nat->Option Ob)->(List AV->Prop)->Prop
 |[],_,_,K=>K []
 | .tmp t::rs,F,σ,K=>j9 P rs F σ λl=>K (F.getD t .any::l)
 | .cell a t::rs,F,σ,K=>(match F.getD a .any with
   | .ptr s off=>∃ob,σ s=aD ob/\ud P t ob.cells off λr=>j9 P rs F σ λl=>K (r::l)
   |_=>False)
def yd:List PV->PV
 |[x] =>x
 |m=> .tup m
def Ey(tmps:Array Value):ResultVar->Sem Value
 | .tmp t=>pure (tmps.getD t Go.undef)
 | .cell a t=>do loadVar t (<-asAddr (tmps.getD a Go.undef))
def Fz(fn:Func)(tmps:Array Value):results fn tmps=(do let vs<-fn.results.mapM (Ey tmps);pure (if h:vs.size=1 then vs[0]else .tuple vs)):=by
 congr 1
def Kr(P:Program)(rs:List ResultVar)(r:PV):rF:=λe F L _=>match e with
 | .normal| .ret=>j9 P rs F L λl=>∃m,fM (eK 3 L) l=aD m/\yd m=r
 |_=>False
section
variable {P:Program} {C0:bf} {B:Nat} {wI:World}
def AF{ρ:Ren}{σ:Nat->Option Ob}{a:Act}{w:World}{F:List AV}(hs:StR C0 ρ σ w B)(hf:∀t,ai ρ (bV C0 B w ρ σ) (F.getD t .any) (a.tmps.getD t Go.undef)):
  ∀(rs:List ResultVar) (K:List AV->Prop),j9 P rs F σ K->∃l vs,K l/\(rs.mapM (Ey a.tmps)).run P w= .ok vs w/\bY ρ (bV C0 B w ρ σ) l vs
 |[],K,h=>⟨[],[],h,af,by rfl⟩
 | .tmp t::rs,K,h=>by
   obtain⟨l,vs,h1,h2,h3⟩:=AF hs hf rs _ h;refine⟨_,_::vs,h1,?_,by exact⟨_,vs,rfl,hf t,h3⟩⟩;simp[List.mapM_cons,h2,Ey]
 | .cell x t::rs,K,h=>by
   unfold j9 at h;split at h
   .rename_i s off e;obtain⟨ob,hob,hl⟩:=h;obtain⟨r,hr,hv⟩:=OY hl;obtain⟨l,vs,h1,h2,h3⟩:=AF hs hf rs _ hr;have hx:=hf x;rw[e]at hx;obtain⟨b,c,hq,hpt⟩:=hx;obtain⟨_,arr,hO⟩:=hs.at hob hq;obtain⟨v,hrun,hrep⟩:=hv _ _ w b c arr hO;have hrun':(loadVar t ⟨b,off,aM⟩).run P w= .ok v w:=by simpa[Instr.loadAt,Instr.sureAddr]using hrun
    refine⟨_,v::vs,h1,?_,by unfold bY;grind⟩;simp[List.mapM_cons,h2,Ey,hpt,asAddr,hrun']
   grind
def BQ:Sto:=λs=>if s=sit 0 0 then aD ⟨0,0,[.undef]⟩else aM
def vw(L:Sto)(N:Nat):Prop:=(L=(λ_=>aM)/\N=0)\/(L=BQ/\N=1)
def vw.st{L:Sto}{N:Nat}(h:vw L N){C:bf}{w:World}(hC:∀b o v,C b o v->w.cell? ⟨b,o,aM⟩=aD v):
  ∃ρ:Ren,StR C ρ L w w.heap.size/\(∀s,N<=cls s->ρ s=aM)/\∀s b c,ρ s≠aD (aD b,c):=by
 rcases h with⟨rfl,rfl⟩|⟨rfl,rfl⟩
 .exact⟨λ_=>aM,⟨aH,aH,aH⟩,λ_ _=>rfl,aH⟩
 .have hat:∀s o,BQ s=aD o->s=sit 0 0/\o=⟨0,0,[.undef]⟩:=by
   intro s o h;unfold BQ at h;split at h
   .grind
   .cases h
  refine⟨λs=>if s=sit 0 0 then aD (aM,0)else aM,⟨?_,?_,?_⟩,?_,?_⟩
  .intro s o h;obtain⟨rfl,rfl⟩:=hat s o h;have hno:∀i v,¬C w.heap.size i v:=λi v hv=>absurd (lj w ⟨w.heap.size,i,aM⟩ (hC _ _ _ hv)) (Nat.lt_irrefl _);exact⟨aM,0,af,.inl ⟨rfl,.inr ⟨rfl,.inl aH⟩⟩⟩
  .grind
  .grind
  .intro s hs;try dsimp only
   split
   .rename_i e;rw[e,jV]at hs;omega
   .rfl
  grind
def YK{f:FuncId}{fn:Func}{c:Code}{A:List PV}{r:PV}(hok:lT P f=aE)(hf:P.funcs[f]? =aD fn)(hb:fn.body=aD c)
  {L0:Sto} {N0:Nat} (h0:vw L0 N0) (h:awp P c (Kr P fn.results.toList r) (A.map .p++dO (fn.ntmps-aA A) .undef) L0 N0):Sat P aK f A r:=by
 refine⟨hok,λC w vs hC hrep=> ?_⟩;obtain⟨ρ0,z1,z2,z3⟩:=h0.st hC;have hlen:=hrep.length;refine calls_of_wp hf hb (wp_mono (Hh (C0:=C) (B:=w.heap.size) (wI:=w) c _ _ _ _ _ _ h ?_) ?_)
 .refine⟨⟨ρ0,z1,z2,λt=> ?_⟩,bR _,rfl,by simp[hlen],Below.refl _ _⟩;by_cases ht:t<aA A
  .have e1:(A.map AV.p++dO (fn.ntmps-aA A) AV.undef).getD t .any= .p A[t] :=by rw[fY,qU aH];simp[ht]
   obtain⟨v,h1,h2⟩:=hrep.get _ _ t A[t] aH;have e2:(vs.toArray++rW (fn.ntmps-vs.toArray.size) undef).getD t undef=v:=by rw[js,Ln eO];simp[h1]
   rw[e1];rw[e2];refine bE.mono (λb o x hx=>⟨hC b o x hx,aH,.inr hx⟩) _ v h2
  .by_cases ht2:t<aA A+(fn.ntmps-aA A)
   .have e1:(A.map AV.p++dO (fn.ntmps-aA A) AV.undef).getD t .any= .undef:=by rw[fY,mg eO,Fb,if_pos eO];rfl
    have e2:(vs.toArray++rW (fn.ntmps-vs.toArray.size) undef).getD t undef=undef:=by rw[js,WG eO,Ld];split<;>rfl
    rw[e1];rw[e2];rfl
   .have e1:(A.map AV.p++dO (fn.ntmps-aA A) AV.undef).getD t .any= .any:=by rw[fY,oZ eO];rfl
    rw[e1];trivial
 .rintro e a w' ⟨F,L,N,hq,⟨ρ,s1,s2,s3⟩,s4,s5,s6,s7⟩;have fin:j9 P fn.results.toList F L (λl=>∃m,fM (eK 3 L) l=aD m/\yd m=r)->a.defers=[]/\∃v,(results fn a.tmps).run P w'= .ok v w'/\∃v',Ending.returned v= .returned v'/\bE (λb o x=>((aK:Bool)=aK/\C b o x)\/(w.heap.size<=b/\w'.cell? ⟨b,o,aM⟩=aD x)) r v'/\Below w.heap.size w w':=by
   intro h;refine⟨s5,?_⟩;obtain⟨l,us,⟨m,hm,hr⟩,h2,h3⟩:=AF s1 s3 _ _ h;have hres:(results fn a.tmps).run P w'= .ok (if h:us.toArray.size=1 then us.toArray[0]else .tuple us.toArray) w':=by rw[Fz,WH];simp only[dY,Sem.run_map,h2,dr,fD]
   refine⟨_,hres,_,rfl,?_,s7⟩;obtain⟨g1,g2⟩:=qj hm;have hrl:bk (λb o x=>((aK:Bool)=aK/\C b o x)\/(w.heap.size<=b/\w'.cell? ⟨b,o,aM⟩=aD x)) m us:=by
    refine bk.of _ _ (by rw[<-g1];exact h3.length) λi y hi=> ?_;have hlt:i<aA l:=by rw[g1];grind
    obtain⟨y',h5,h6⟩:=g2 i _ (fQ hlt);rw[hi]at h5;cases h5;obtain⟨v,k1,k2⟩:=h3.get _ _ i _ (fQ hlt);refine⟨v,k1,Hv s1 _ (λ_=>True) ?_ ?_ 3 _ _ v h6 aH k2⟩
    .rintro b o x ⟨e1,e2,e3⟩;grind
    .grind
   rw[<-hr];cases m with
   |nil=>
    subst hrl;exact⟨[],rfl,by rfl⟩
   |cons x m=>
    cases m with
    |nil=>
     obtain⟨v,r',rfl,h7,h8⟩:=hrl;subst h8;unfold yd;grind
    |cons y m=>
     have hl:¬us.toArray.size=1:=by have:=hrl.length;simp at this;simp;omega
     unfold yd bE;grind
  cases e<;>first|exact fin hq|exact hq.elim
end
def kN:∀{l:List AV} {A:List PV},bm l=aD A->l=A.map .p
 |[],A,h=>by simp[bm]at h;subst h;rfl
 |x::l,A,h=>by
  unfold bm at h;split at h
  .grind
  .rename_i y l' e;cases e;simp only[oW]at h;obtain⟨r,h1,rfl⟩:=h;rw[kN h1];rfl
  .cases h
section
variable {P:Program} {σ:Nat->Option Ob} {f:FuncId} {fr:Bool} {A:List PV} {r:PV} {avs:List AV} {K:Res}
def GK(hs:Sat P fr f A r)(hA:bm avs=aD A)(hK:K (.p r) [] []):sP P σ f avs K:=by have:=kN hA;subst this;refine .inl ⟨A,vm 3 σ A,fr,r,hs,.inl ⟨.inr hA,?_⟩⟩;rw[sI];exact hK
def MQ{R:List Nat}(hs:Sat P aE f A r)(hA:fM (eK 3 σ) avs=aD A)(hR:bl (cu 3 σ) avs=R)(hK:K (.p r) R []):sP P σ f avs K:=by subst hR;exact .inl ⟨A,hA,aE,r,hs,aH⟩
def Xh{R:List Nat}(hs:Sat P fr f A r)(hA:fM (eK 3 σ) avs=aD A)(hR:bl (cu 3 σ) avs=R)(hK:K (.p r) R (R.map (·,aM))):sP P σ f avs K:=by subst hR;exact .inl ⟨A,hA,fr,r,hs,.inr hK⟩
def PV.flat:PV->Bool
 | .int .. | .bool _| .str _=>aE
 | .agg l| .tup l=>l.all λx=>match x with| .int .. | .bool _| .str _=>aE|_=>aK
 |_=>aK
def bE.flat1{C C':bf}{x:PV}{v:Value}(hf:(match x with| .int .. | .bool _| .str _=>aE|_=>aK)=aE)(h:bE C x v):bE C' x v:=by cases x<;>first|(cases hf;done)|(unfold bE at*;exact h)
def bk.flat{C C':bf}:∀{l:List PV} {vs:List Value},l.all (λx=>match x with| .int .. | .bool _| .str _=>aE|_=>aK)=aE->bk C l vs->bk C' l vs
 |[],vs,_,h=>by exact h
 |x::l,vs,hf,h=>by
  obtain⟨v,r,rfl,h1,h2⟩:=h;simp only[List.all_cons,cD]at hf;exact⟨v,r,rfl,bE.flat1 hf.1 h1,bk.flat hf.2 h2⟩
def bE.flat{C C':bf}{x:PV}{v:Value}(hf:x.flat=aE)(h:bE C x v):bE C' x v:=by
 cases x<;>first|(cases hf;done)|(unfold bE at*;exact h)|skip
 .obtain⟨vs,h1,h2,h3⟩:=h;exact⟨vs,h1,bk.flat hf h2,h3⟩
 .obtain⟨vs,h1,h2⟩:=h;exact⟨vs,h1,bk.flat hf h2⟩
def Sat.fresh(hs:Sat P fr f A r)(hf:r.flat=aE):Sat P aE f A r:=
 ⟨hs.1,λC w vs hC hr=>(hs.2 C w vs hC hr).mono λ_e _w' ⟨v,h1,h2,h3⟩=>⟨v,h1,bE.flat hf h2,h3⟩⟩
end
def Ks(P:Program)(rs:List ResultVar)(ty esz:Nat)(cells:List PV)(m:Nat)(ys:List PV):rF:=λe F L _=>match e with
 | .normal| .ret=>j9 P rs F L λl=>(∃s,l= .own s 0 m::ys.map .p/\L s=aD ⟨ty,esz,cells.map .p⟩)\/(l= .nil::ys.map .p/\m=0/\cells=[])
 |_=>False
section
variable {P:Program} {C0:bf} {B:Nat} {wI:World}
def bY.IB{ρ:Ren}{C:bf}:∀{l:List PV} {vs:List Value},bY ρ C (l.map .p) vs->bk C l vs
 |[],vs,h=>by exact h
 |x::l,vs,h=>by
  obtain⟨v,r,rfl,h2,h3⟩:=h;exact⟨v,r,rfl,h2,bY.IB h3⟩
def N5{f:FuncId}{fn:Func}{c:Code}{A:List PV}{Q:rF}{C:bf}{w:World}{vs:List Value}{R:Ending->World->Prop}(hf:P.funcs[f]? =aD fn)(hb:fn.body=aD c)(hC:∀b o v,C b o v->w.cell? ⟨b,o,aM⟩=aD v)(hrep:bk C A vs)
  {L0:Sto} {N0:Nat} (h0:vw L0 N0) (h:awp P c Q (A.map .p++dO (fn.ntmps-aA A) .undef) L0 N0)
  (hR:∀e a w' F L N,Q e F L N->St C w.heap.size w F L N a w'->(match e with| .normal| .ret=>a.defers=[]/\∃v,(results fn a.tmps).run P w'= .ok v w'/\R (.returned v) w'|_=>False)):Calls P f vs.toArray w R:=by
 obtain⟨ρ0,z1,z2,z3⟩:=h0.st hC;have hlen:=hrep.length;refine calls_of_wp hf hb (wp_mono (Hh (C0:=C) (B:=w.heap.size) (wI:=w) c _ _ _ _ _ _ h ?_) ?_)
 .refine⟨⟨ρ0,z1,z2,λt=> ?_⟩,bR _,rfl,by simp[hlen],Below.refl _ _⟩;by_cases ht:t<aA A
  .have e1:(A.map AV.p++dO (fn.ntmps-aA A) AV.undef).getD t .any= .p A[t] :=by rw[fY,qU aH];simp[ht]
   obtain⟨v,h1,h2⟩:=hrep.get _ _ t A[t] aH;have e2:(vs.toArray++rW (fn.ntmps-vs.toArray.size) undef).getD t undef=v:=by rw[js,Ln eO];simp[h1]
   rw[e1];rw[e2];refine bE.mono (λb o x hx=>⟨hC b o x hx,aH,.inr hx⟩) _ v h2
  .by_cases ht2:t<aA A+(fn.ntmps-aA A)
   .have e1:(A.map AV.p++dO (fn.ntmps-aA A) AV.undef).getD t .any= .undef:=by rw[fY,mg eO,Fb,if_pos eO];rfl
    have e2:(vs.toArray++rW (fn.ntmps-vs.toArray.size) undef).getD t undef=undef:=by rw[js,WG eO,Ld];split<;>rfl
    rw[e1];rw[e2];rfl
   .have e1:(A.map AV.p++dO (fn.ntmps-aA A) AV.undef).getD t .any= .any:=by rw[fY,oZ eO];rfl
    rw[e1];trivial
 .rintro e a w' ⟨F,L,N,hq,hS⟩;have:=hR e a w' F L N hq hS;cases e<;>first|exact this|exact this.elim
def XU{f:FuncId}{fn:Func}{c:Code}{A:List PV}{ty esz:Nat}{cells:List PV}{m:Nat}{ys:List PV}(hok:lT P f=aE)(he:esz≠0)(hf:P.funcs[f]? =aD fn)(hb:fn.body=aD c)
  {L0:Sto} {N0:Nat} (h0:vw L0 N0) (h:awp P c (Ks P fn.results.toList ty esz cells m ys) (A.map .p++dO (fn.ntmps-aA A) .undef) L0 N0):yo P f A ty esz cells m ys:=by
 refine⟨hok,he,λC w vs hC hrep=>N5 hf hb hC hrep h0 h ?_⟩;rintro e a w' F L N hq ⟨⟨ρ,s1,s2,s3⟩,s4,s5,s6,s7⟩;have fin:j9 P fn.results.toList F L (λl=>(∃s,l= .own s 0 m::ys.map .p/\L s=aD ⟨ty,esz,cells.map .p⟩)\/(l= .nil::ys.map .p/\m=0/\cells=[]))->a.defers=[]/\∃v,(results fn a.tmps).run P w'= .ok v w'/\∃v' us q c,Ending.returned v= .returned (BS v' us)/\Below w.heap.size w w'/\bk (rC C w.heap.size q w') ys us/\
   ((q=aM/\v'= .slice aM 0 0/\m=0/\cells=[]/\c=0)\/∃b arr,q=aD b/\v'= .slice (aD ⟨b,0,aM⟩) m c/\m<=c/\w.heap.size<=b/\w'.heap[b]? =aD (.cells arr ty (0,0))/\
     arr.size=c*esz/\(aA cells)<=arr.size/\c<=maxLen/\∀(i:Nat) x,cells[i]? =aD x->∃u,arr[i]? =aD u/\u.oneCell'=aE/\bE (rC C w.heap.size q w') x u):=by
  intro h;refine⟨s5,?_⟩;obtain⟨l,us,hl,h2,h3⟩:=AF s1 s3 _ _ h;have hres:(results fn a.tmps).run P w'= .ok (if h:us.toArray.size=1 then us.toArray[0]else .tuple us.toArray) w':=by rw[Fz,WH];simp only[dY,Sem.run_map,h2,dr,fD]
  refine⟨_,hres,?_⟩;have hout:∀v us',us=v::us'->(if h:us.toArray.size=1 then us.toArray[0]else Value.tuple us.toArray)=BS v us':=by
   rintro v us' rfl;cases us' with
   |nil=>rfl
   |cons u us'=>rfl
  rcases hl with⟨s,rfl,hs⟩|⟨rfl,hm,hc⟩
  .obtain⟨v,us',rfl,hv,hys⟩:=h3;obtain⟨q,c,hρ,hcase⟩:=hv;have hkeep:∀b o x,bV C w.heap.size w' ρ L b o x->rC C w.heap.size q w' b o x:=by
    rintro b o x ⟨e1,e2,e3|e3⟩
    .refine .inr ⟨e3,λhq=> ?_,e1⟩;grind
    .exact .inl e3
   refine⟨v,us',q,c,aH,s7,bk.mono hkeep _ _ (bY.IB hys),?_⟩;obtain⟨q2,c2,hρ2,hob⟩:=s1.ob s _ hs;rw[hρ]at hρ2;cases hρ2;rcases hcase with⟨h1,h4,h5,_⟩|⟨b,o',c',h1,h4,h5,h6,h7⟩
   .simp_all
   .obtain⟨rfl,rfl⟩:=h7 rfl;rcases hob with⟨h8,_⟩|⟨b2,arr,h8,h9,h10⟩
    .grind
    .rw[h1]at h8;cases h8;obtain⟨r1,r2,r3⟩:=h10.row he;refine .inr ⟨b,arr,h1,h4,h5,h9,h10.blk,r1,aH,r3,λi x hi=> ?_⟩;obtain⟨u,k1,k2,k3⟩:=h10.cells i (.p x) aH;exact⟨u,k1,k2,bE.mono hkeep x u k3⟩
  .obtain⟨v,us',rfl,hv,hys⟩:=h3;refine⟨v,us',aM,0,aH,s7,bk.mono ?_ _ _ (bY.IB hys),.inl ⟨rfl,hv,hm,hc,rfl⟩⟩;rintro b o x ⟨e1,e2,e3|e3⟩
   .exact .inr aH
   .exact .inl e3
 cases e<;>first|exact fin hq|exact hq.elim
end
section
def aCR{ρ:Ren}{C:bf}{A:List AV}{vs:List Value}{n:Nat}(h:bY ρ C A vs)(t:Nat):ai ρ C ((A++dO (n-aA A) AV.undef).getD t .any) ((vs.toArray++rW (n-vs.toArray.size) Go.undef).getD t Go.undef):=by
 have hlen:=h.length;by_cases ht:t<aA A
 .obtain⟨v,h1,h2⟩:=h.get _ _ t A[t] aH;have e2:(vs.toArray++rW (n-vs.toArray.size) Go.undef).getD t Go.undef=v:=by rw[js,Ln eO];simp[h1]
  grind
 .by_cases ht2:t<aA A+(n-aA A)
  .have e1:(A++dO (n-aA A) AV.undef).getD t .any= .undef:=by rw[fY,mg aC,Fb,if_pos aC];rfl
   have e2:(vs.toArray++rW (n-vs.toArray.size) Go.undef).getD t Go.undef=Go.undef:=by rw[js,WG eO,Ld];split<;>rfl
   rw[e1,e2];rfl
  .have e1:(A++dO (n-aA A) AV.undef).getD t .any= .any:=by rw[fY,oZ eO];rfl
   rw[e1];trivial
abbrev ft:Nat:=sit 0 0
def Hu{C0:bf}{B:Nat}{ρ:Ren}{w:World}{L:Sto}{S:List AV}(h:StR C0 ρ L w B)(hL:L ft=aD ⟨0,0,.undef::S⟩):
  ∃c,ρ ft=aD (aM,c)/\(∀(i:Nat) x,(AV.undef::S)[i]? =aD x->∀v,C0 B i v->ai ρ (bV C0 B w ρ L) x v)/\∀i v,C0 B i v->i<aA (AV.undef::S):=by
 obtain⟨q,c,h1,⟨rfl,h2|⟨_,h2⟩⟩|⟨b,arr,_,_,h2⟩⟩:=h.ob _ _ hL
 .grind
 .rcases h2 with⟨_,h3,h4⟩|⟨h3,_⟩
  .grind
  .cases h3
 .obtain⟨v,_,h3,h4⟩:=h2.cells 0 .undef rfl;subst h4;cases h3
def StR.stk{C0 C1:bf}{B:Nat}{ρ:Ren}{w:World}{L:Sto}{S T:List AV}(h:StR C0 ρ L w B)(hL:L ft=aD ⟨0,0,.undef::S⟩)(h1:∀b,b<B->C1 b=C0 b)
  (h2:∀(i:Nat) x,T[i]? =aD x->∀v,C1 B i v->ai ρ (bV C0 B w ρ L) x v) (h3:∀i v,C1 B i v->i<aA T):
  (∀b o x,bV C1 B w ρ (bM L [(ft,aD ⟨0,0,T⟩)]) b o x↔bV C0 B w ρ L b o x)/\StR C1 ρ (bM L [(ft,aD ⟨0,0,T⟩)]) w B:=by
 obtain⟨c0,k1,_,_⟩:=Hu h hL;have hup:∀s,s≠ft->bM L [(ft,aD ⟨0,0,T⟩)] s=L s:=by intro s hs;unfold bM;simp[jS,beq_eq_false_iff_ne.2 hs]
 have hus:bM L [(ft,aD ⟨0,0,T⟩)] ft=aD ⟨0,0,T⟩:=by unfold bM;simp[jS]
 have hC:∀b o x,bV C1 B w ρ (bM L [(ft,aD ⟨0,0,T⟩)]) b o x↔bV C0 B w ρ L b o x:=by
  intro b o x;have e:(B<=b\/C1 b o x)↔(B<=b\/C0 b o x):=by
   rcases pV b B with hb|hb
   .rw[h1 b hb]
   .omega
  unfold bV;rw[e];refine and_congr_right λ_=>and_congr_left λ_=>forall_congr' λs=>forall_congr' λc=> ?_;by_cases hs:s=ft
  .grind
  .rw[hup s hs]
 refine⟨hC,?_,?_,?_⟩
 .intro s o ho;by_cases hs:s=ft
  .subst hs;cases ho;exact⟨aM,c0,k1,.inl ⟨rfl,.inr ⟨rfl,.inl ⟨rfl,λi x hi v hv=>ai.mono (λ_ _ h=>h) aH x v (h2 i x hi v hv),h3⟩⟩⟩⟩
  .rw[hup s hs]at ho;obtain⟨q,c,e1,⟨e2,e3|⟨e3,e4⟩⟩|⟨b,arr,e2,e3,e4⟩⟩:=h.ob s o ho
   .grind
   .refine⟨q,c,e1,.inl ⟨e2,.inr ⟨e3,?_⟩⟩⟩;rcases e4 with⟨f1,f2,f3⟩|⟨f1,f2,es,clock,f3,f4⟩
    .subst e2;exact absurd (h.mpi s ft o _ c c0 ho hL e3 rfl e1 k1 (.inr ⟨f1,rfl⟩)) hs
    .exact .inr ⟨f1,f2,es,clock,f3,bY.mono (λ_ _ h=>h) aH _ _ f4⟩
   .refine⟨q,c,e1,.inr ⟨b,arr,e2,e3,e4.blk,e4.box,e4.row,λi x hi=> ?_⟩⟩;obtain⟨v,g1,g2,g3⟩:=e4.cells i x hi;exact⟨v,g1,g2,ai.mono (λ_ _ h=>h) aH x v g3⟩
 .intro s s' o o' b c c' e1 e2 e3 e4;have n1:s≠ft:=λe=>aH;have n2:s'≠ft:=λe=>aH;rw[hup s n1]at e1;rw[hup s' n2]at e2;exact h.inj s s' o o' b c c' e1 e2 e3 e4
 .intro s s' o o' c c' e1 e2 m1 m2 e3 e4 hT;have key:∀s o,bM L [(ft,aD ⟨0,0,T⟩)] s=aD o->∃o2,L s=aD o2/\o2.ty=o.ty/\o2.esz=o.esz:=by
   intro s o ho;by_cases hs:s=ft
   .grind
   .grind
  obtain⟨p,f1,f2,f3⟩:=key s o e1;obtain⟨p',f1',f2',f3'⟩:=key s' o' e2;exact h.mpi s s' p p' c c' f1 f1' aC aC e3 e4 (by unfold ut at*;grind)
variable {P:Program}
def un:List AV->AV
 |[] => .undef
 |[x] =>x
 |l=> .tup l
def RH{C0:bf}{B:Nat}{fn:Func}{ρ:Ren}{σ:Nat->Option Ob}{a:Act}{w:World}{F:List AV}{K:List AV->Prop}(hs:StR C0 ρ σ w B)(hf:∀t,ai ρ (bV C0 B w ρ σ) (F.getD t .any) (a.tmps.getD t Go.undef))(h:j9 P fn.results.toList F σ K):
  ∃l v,K l/\(results fn a.tmps).run P w= .ok v w/\ai ρ (bV C0 B w ρ σ) (un l) v:=by
 obtain⟨l,us,hl,h2,h3⟩:=AF hs hf _ _ h;have hres:(results fn a.tmps).run P w= .ok (if h:us.toArray.size=1 then us.toArray[0]else .tuple us.toArray) w:=by rw[Fz,WH];simp only[dY,Sem.run_map,h2,dr,fD]
 refine⟨l,_,hl,hres,?_⟩;match l,us,h3 with
 |[],us,h3=>subst h3;rfl
 |[x],us,h3=>
  obtain⟨v,r,rfl,h4,h5⟩:=h3;subst h5;exact h4
 |x::y::l,us,h3=>
  have hlen:=h3.length;show ai _ _ (.tup (x::y::l)) _;unfold ai;grind
def Vi(P:Program)(rs:List ResultVar)(d:Option Nat)(m n:Nat)(K:List AV->Sto->Nat->Prop):rF:=λe Fc Lc Nc=>match e with
 | .normal| .ret=>j9 P rs Fc Lc λl=>∃S F2,Lc ft=aD ⟨0,0,.undef::(S++F2)⟩/\(aA S)=m/\(aA F2)=n/\K (fh F2 d (un l)) (bM Lc [(ft,aD ⟨0,0,.undef::S⟩)]) Nc
 |_=>False
def aCc{o:Oper}{c:Call}{f:Operand}{fid:FuncId}{fn:Func}{body:Code}{A S F:List AV}{L:Sto}{N:Nat}{K:List AV->Sto->Nat->Prop}(ho:o.op= .call c)(hc:c.callee= .value f)(hfv:l9 F f= .p (.fn (.func fid) [] []))
  (hA:c.args.toList.map (l9 F)=A) (hok:lT P fid=aE) (hf:P.funcs[fid]? =aD fn) (hb:fn.body=aD body) (hL:L ft=aD ⟨0,0,.undef::S⟩)
  (h:awp P body (Vi P fn.results.toList o.dst (aA S) (aA F) K) (A++dO (fn.ntmps-aA A) .undef) (bM L [(ft,aD ⟨0,0,.undef::(S++F)⟩)]) N):wR P o F L N K:=by
 intro C0 B wI a w ⟨⟨ρ,s1,s2,s3⟩,s4,s5,s6,s7⟩;obtain⟨c0,k1,k2,k3⟩:=Hu s1 hL
 let V:Nat->Value:=λs=>a.tmps.getD s Go.undef
 have hev:∀x:Operand,ai ρ (bV C0 B w ρ L) (l9 F x) (bj V x):=λx=>Cz λt _=>s3 t;have hvf:bj V f= .func (.func fid) #[] #[] :=by have:=hev f;rw[hfv]at this;unfold ai bE at this;obtain⟨v1,v2,h1,h2,h3⟩:=this;unfold bk at h2 h3;rw[h1,h2,h3]
 have hrun:(execOp (bj V) o).run P w= .ok (.enter fid (c.args.toList.map (bj V)).toArray) w:=by
  unfold execOp;rw[ho];have e2: #[] ++wq (bj V) c.args++ #[] =(c.args.toList.map (bj V)).toArray:=by apply rY.1;simp
  simp only[resolve,hc,hvf,wu,dY,fD,dr,invoke,nP hok,e2]
 have hargs:bY ρ (bV C0 B w ρ L) A (c.args.toList.map (bj V)):=by
  rw[<-hA];generalize c.args.toList=l;induction l with
  |nil=>rfl
  |cons x l ih=>unfold bY;grind
 let C1:bf:=λb i v=>if b=B then(if i<(aA (AV.undef::S)) then C0 B i v else a.tmps[i-aA (AV.undef::S)]? =aD v)else C0 b i v
 have hC1:∀b,b<B->C1 b=C0 b:=aH;have hC1B:∀i v,C1 B i v->if i<(aA (AV.undef::S)) then C0 B i v else a.tmps[i-aA (AV.undef::S)]? =aD v:=aH;obtain⟨hCC,hst⟩:=s1.stk (C1:=C1) (T:= .undef::(S++F)) hL hC1 (by
  intro i x hi v hv;have hv:=hC1B i v hv;rw[<-List.cons_append]at hi;split at hv
  .grind
  .rw[mg aC]at hi;have:=s3 (i-aA (AV.undef::S));simp_all) (by
  grind)
 unfold cv;rw[hrun];have hlen:=hargs.length;have hfin:∀(e:Exit) (a':Act) (w':World),(∃F' L' N',Vi P fn.results.toList o.dst (aA S) (aA F) K e F' L' N'/\St C1 B w F' L' N' a' w')->
   match e with| .normal| .ret=>a'.defers=[]/\∃v,(results fn a'.tmps).run P w'= .ok v w'/\∃v',Ending.returned v= .returned v'/\∃F' L' N',K F' L' N'/\St C0 B wI F' L' N' (a.put o.dst v') w'|_=>False:=by
  rintro e a' w' ⟨Fc,Lc,Nc,hq,⟨⟨ρ1,t1,t2,t3⟩,t4,t5,t6,t7⟩⟩;have fin:j9 P fn.results.toList Fc Lc (λl=>∃S2 F2,Lc ft=aD ⟨0,0,.undef::(S2++F2)⟩/\(aA S2)=(aA S)/\(aA F2)=(aA F)/\K (fh F2 o.dst (un l)) (bM Lc [(ft,aD ⟨0,0,.undef::S2⟩)]) Nc)->
    a'.defers=[]/\∃v,(results fn a'.tmps).run P w'= .ok v w'/\∃v',Ending.returned v= .returned v'/\∃F' L' N',K F' L' N'/\St C0 B wI F' L' N' (a.put o.dst v') w':=by
   intro hr;obtain⟨l,v,⟨S2,F2,hL2,hS2,hF2,hK⟩,hres,hrep⟩:=RH t1 t3 hr;refine⟨t5,v,hres,v,rfl,_,_,Nc,hK,?_⟩;obtain⟨c1,j1,j2,j3⟩:=Hu t1 hL2;have hl2:aA (AV.undef::S2)=aA (AV.undef::S):=by simp[hS2]
   obtain⟨hCC2,hst2⟩:=t1.stk (C1:=C0) (T:= .undef::S2) hL2 aH (by
    grind) (by
    grind)
   have hfr:∀t,ai ρ1 (bV C0 B w' ρ1 (bM Lc [(ft,aD ⟨0,0,.undef::S2⟩)])) (F2.getD t .any) (a.tmps.getD t Go.undef):=by
    intro t;by_cases ht:t<aA F2
    .have htm:t<a.tmps.size:=by rw[s6];omega
     have e1:F2.getD t .any=F2[t] :=by rw[fY];simp[ht]
     have e2:a.tmps.getD t Go.undef=a.tmps[t] :=by rw[js];simp[htm]
     rw[e1,e2];refine ai.mono (λ_ _ h=>h) aH _ _ (j2 (aA (AV.undef::S)+t) F2[t] aH a.tmps[t] ?_);grind
    .rw[fY,oZ aC];trivial
   refine⟨⟨ρ1,hst2,t2,λt=> ?_⟩,t4,by cases hd:o.dst<;>exact s5,by rw[GD,hF2];cases hd:o.dst<;>simpa[tR]using s6,s7.trans t7⟩;rw[OI,Pm,s6];by_cases e:o.dst=aD t/\t<aA F
   .rw[if_pos aH,if_pos e];exact ai.mono (λ_ _ h=>h) aH _ _ hrep
   .grind
  cases e<;>first|exact fin hq|exact hq.elim
 refine calls_of_wp hf hb (wp_mono (Hh (C0:=C1) (B:=B) (wI:=w) body _ _ _ _ _ _ h ?_) ?_)
 .refine⟨⟨ρ,hst,s2,λt=> ?_⟩,s4,rfl,by simp[hlen],Below.refl _ _⟩;exact ai.mono (λ_ _ h=>h) aH _ _ (aCR hargs t)
 .intro e a' w' h;have:=hfin e a' w' h;cases e<;>first|exact this|exact this.elim
end
section
abbrev Rf:=Nat->Option (Option Nat)
mutual
def iQ(m:Rf):AV->AV->Prop
 | .any,_=>True
 | .p x,y=>y= .p x
 | .nil,y=>y= .nil
 | .undef,y=>y= .undef
 | .ptr s off,y=>∃o,m s=aD (aD o)/\y= .ptr o off
 | .own s o n,y=>(∃s',m s=aD (aD s')/\y= .own s' o n)\/(m s=aD aM/\y= .nil/\o=0/\n=0)
 | .agg l,y=>∃r,(y= .agg r\/∃q:List PV,y= .p (.agg q)/\r=q.map .p)/\iK m l r
 | .tup l,y=>∃r,(y= .tup r\/∃q:List PV,y= .p (.tup q)/\r=q.map .p)/\iK m l r
 | .fn f a b,y=>∃a2 b2,y= .fn f a2 b2/\iK m a a2/\iK m b b2
 | .mp s,y=>∃o,m s=aD (aD o)/\y= .mp o
def iK(m:Rf):List AV->List AV->Prop
 |[],r=>r=[]
 |x::l,r=>∃y r',r=y::r'/\iQ m x y/\iK m l r'
end
def ko(m:Rf)(ρ:Ren):Ren:=λs=>match m s with
 |some (aD o)=>ρ o
 |some aM=>aD (aM,0)
 |none=>aM
mutual
theorem xZ{m:Rf}{ρ:Ren}{C C':bf}(hC:∀b o v,C b o v->C' b o v):∀(x y:AV) (v:Value),iQ m x y->ai ρ C y v->ai (ko m ρ) C' x v
 | .any,y,v,_,_=>by trivial
 | .p x,y,v,h,hv=>by subst h;exact bE.mono hC _ v hv
 | .nil,y,v,h,hv=>by subst h;exact hv
 | .undef,y,v,h,hv=>by subst h;exact hv
 | .ptr s off,y,v,h,hv=>by
   obtain⟨o,h1,rfl⟩:=h;obtain⟨b,c,h2,h3⟩:=hv;exact⟨b,c,by unfold ko;grind,h3⟩
 | .own s o n,y,v,h,hv=>by
   rcases h with⟨s',h1,rfl⟩|⟨h1,rfl,rfl,rfl⟩
   .obtain⟨q,c,h2,h3⟩:=hv;exact⟨q,c,by unfold ko;grind,h3⟩
   .exact⟨aM,0,by unfold ko;rw[h1],.inl ⟨rfl,hv,rfl,rfl⟩⟩
 | .agg l,y,v,h,hv=>by
   obtain⟨r,hy,hr⟩:=h;have:∃vs:List Value,v= .agg vs.toArray/\bY ρ C r vs/\i9 vs:=by
    rcases hy with rfl|⟨q,rfl,rfl⟩
    .exact hv
    .obtain⟨vs,h1,h2,h3⟩:=hv;exact⟨vs,h1,h2.toA,h3⟩
   obtain⟨vs,h1,h2,h3⟩:=this;exact⟨vs,h1,xP hC l r vs hr h2,h3⟩
 | .tup l,y,v,h,hv=>by
   obtain⟨r,hy,hr⟩:=h;have:∃vs:List Value,v= .tuple vs.toArray/\bY ρ C r vs:=by
    rcases hy with rfl|⟨q,rfl,rfl⟩
    .exact hv
    .obtain⟨vs,h1,h2⟩:=hv;exact⟨vs,h1,h2.toA⟩
   obtain⟨vs,h1,h2⟩:=this;exact⟨vs,h1,xP hC l r vs hr h2⟩
 | .fn f a b,y,v,h,hv=>by
   obtain⟨a2,b2,rfl,h1,h2⟩:=h;obtain⟨vs1,vs2,h3,h4,h5⟩:=hv;exact⟨vs1,vs2,h3,xP hC a a2 vs1 h1 h4,xP hC b b2 vs2 h2 h5⟩
 | .mp s,y,v,h,hv=>by
   obtain⟨o,h1,rfl⟩:=h;obtain⟨c,h2,h3⟩:=hv;exact⟨c,by unfold ko;grind,h3⟩
theorem xP{m:Rf}{ρ:Ren}{C C':bf}(hC:∀b o v,C b o v->C' b o v):∀(l r:List AV) (vs:List Value),iK m l r->bY ρ C r vs->bY (ko m ρ) C' l vs
 |[],r,vs,h,hv=>by subst h;exact hv
 |x::l,r,vs,h,hv=>by
  obtain⟨y,r',rfl,h1,h2⟩:=h;obtain⟨v,vs',rfl,h3,h4⟩:=hv;exact⟨v,vs',rfl,xZ hC x y v h1 h3,xP hC l r' vs' h2 h4⟩
end
def OH{m:Rf}:∀{l r:List AV},iK m l r->aA l=(aA r)/\∀(i:Nat) x,l[i]? =aD x->∃y,r[i]? =aD y/\iQ m x y
 |[],r,h=>by unfold iK at h;grind
 |x::l,r,h=>by
  obtain⟨y,r',rfl,h1,h2⟩:=h;obtain⟨h3,h4⟩:=OH h2;grind
def sm(m:Rf)(ob' ob:Ob):Prop:=ob'.ty=ob.ty/\ob'.esz=ob.esz/\iK m ob'.cells ob.cells
def StR.rf{C0:bf}{B:Nat}{ρ:Ren}{w:World}{L L':Sto}(m:Rf)(hinj:∀s s' o,m s=aD (aD o)->m s'=aD (aD o)->s=s')
  (hL:∀s ob',L' s=aD ob'->match m s with|some (aD o)=>∃ob,L o=aD ob/\sm m ob' ob|some aM=>ob'.esz≠0/\ob'.cells=[] |none=>False) (s1:StR C0 ρ L w B):
  (∀b o v,bV C0 B w ρ L b o v->bV C0 B w (ko m ρ) L' b o v)/\StR C0 (ko m ρ) L' w B:=by
 have hCC:∀b o v,bV C0 B w ρ L b o v->bV C0 B w (ko m ρ) L' b o v:=by
  intro b o v ⟨e1,e2,e3⟩;refine⟨e1,λs c hs=> ?_,e3⟩;cases hl:L' s with
  |none=>rfl
  |some ob'=>
   unfold ko at hs;grind
 refine⟨hCC,?_,?_,?_⟩
 .intro s ob' hl;have:=hL s ob' hl;split at this
  .rename_i o ho;obtain⟨ob,h1,h2,h3,h4⟩:=this;obtain⟨q,c,k1,k2⟩:=s1.ob o ob h1;refine⟨q,c,by unfold ko;grind,?_⟩;obtain⟨g1,g2⟩:=OH h4;rcases k2 with⟨k2,⟨k3,k4,k5⟩|⟨k3,k4⟩⟩|⟨b,arr,k2,k3,k4⟩
   .grind
   .refine .inl ⟨k2,.inr ⟨aC,?_⟩⟩;rcases k4 with⟨e1,e2,e3⟩|⟨e1,e2,es,clock,e3,e4⟩
    .refine .inl ⟨aH,λi x' hi v hv=> ?_,aH⟩;obtain⟨x,hx,hr⟩:=g2 i x' hi;exact xZ hCC _ _ v hr (e2 i x hx v hv)
    .exact .inr ⟨aH,e2,es,clock,e3,xP hCC _ _ _ h4 e4⟩
   .refine .inr ⟨b,arr,k2,k3,⟨by rw[h2];exact k4.blk,λhz=>by rw[g1];exact k4.box aC,λhz=>by rw[h3,g1];exact k4.row aC,?_⟩⟩;intro i x' hi;obtain⟨x,hx,hr⟩:=g2 i x' hi;obtain⟨v,g3,g4,g5⟩:=k4.cells i x hx;exact⟨v,g3,g4,xZ hCC _ _ v hr g5⟩
  .rename_i ho;exact⟨aM,0,by unfold ko;rw[ho],aH⟩
  grind
 .intro s s' o o' b c c' h1 h2 h3 h4;have g1:=hL s o h1;have g2:=hL s' o' h2;unfold ko at h3 h4;split at h3
  .rename_i x hx;rw[hx]at g1;obtain⟨ob,k1,_⟩:=g1;split at h4
   .rename_i x' hx';rw[hx']at g2;obtain⟨ob',k2,_⟩:=g2;have:=s1.inj x x' ob ob' b c c' k1 k2 h3 h4;grind
   .cases h4
   .cases h4
  .cases h3
  .cases h3
 .intro s s' o o' c c' h1 h2 m1 m2 h3 h4 hT;have g1:=hL s o h1;have g2:=hL s' o' h2;unfold ko at h3 h4;split at h3
  .rename_i x hx;rw[hx]at g1;obtain⟨ob,k1,k2,k3,_⟩:=g1;split at h4
   .rename_i x' hx';rw[hx']at g2;obtain⟨ob',q1,q2,q3,_⟩:=g2;have:=s1.mpi x x' ob ob' c c' k1 q1 aC aC h3 h4 (by unfold ut at*;grind);grind
   .grind
   .cases h4
  .grind
  .cases h3
def Qi{F F':List AV}{L L':Sto}{N N':Nat}(m:Rf)(hlt:∀s x,m s=aD x->cls s<N')(hinj:∀s s' o,m s=aD (aD o)->m s'=aD (aD o)->s=s')
  (hlen:aA F'=aA F) (hF:∀t,t<aA F->iQ m (F'.getD t .any) (F.getD t .any))
  (hL:∀s ob',L' s=aD ob'->match m s with|some (aD o)=>∃ob,L o=aD ob/\sm m ob' ob|some aM=>ob'.esz≠0/\ob'.cells=[] |none=>False):iD F L N F' L' N':=by
 intro C0 B wI a w ⟨⟨ρ,s1,s2,s3⟩,s4,s5,s6,s7⟩;obtain⟨hCC,hst⟩:=s1.rf m hinj hL;refine⟨⟨ko m ρ,hst,?_,?_⟩,s4,s5,by rw[s6,hlen],s7⟩
 .intro s hs;cases hr:m s with
  |none=>unfold ko;rw[hr]
  |some x=>grind
 .intro t;by_cases ht:t<aA F
  .exact xZ hCC _ _ _ (hF t ht) (s3 t)
  .rw[fY,oZ aC];trivial
variable {P:Program}
def LE(P:Program)(f:FuncId)(A:List PV)(r:AV)(σ1:Sto):Prop:=lT P f=aE/\
 ∀(C:bf) (w:World) (vs:List Value),(∀b o v,C b o v->w.cell? ⟨b,o,aM⟩=aD v)->bk C A vs->
  Calls P f vs.toArray w λe w'=>∃v ρ1,e= .returned v/\StR C ρ1 σ1 w' w.heap.size/\ai ρ1 (bV C w.heap.size w' ρ1 σ1) r v/\Below w.heap.size w w'
def BO(m:Rf)(L' L:Sto):Prop:=(∀s s' o,m s=aD (aD o)->m s'=aD (aD o)->s=s')/\
 ∀s ob',L' s=aD ob'->match m s with|some (aD o)=>∃ob,L o=aD ob/\sm m ob' ob|some aM=>ob'.esz≠0/\ob'.cells=[] |none=>False
def Kq(P:Program)(rs:List ResultVar)(r:AV)(σ1:Sto):rF:=λe F L _=>match e with
 | .normal| .ret=>j9 P rs F L λl=>∃m:Rf,BO m σ1 L/\iQ m r (un l)
 |_=>False
def XT{f:FuncId}{fn:Func}{c:Code}{A:List PV}{r:AV}{σ1:Sto}(hok:lT P f=aE)(hf:P.funcs[f]? =aD fn)(hb:fn.body=aD c)
  {L0:Sto} {N0:Nat} (h0:vw L0 N0) (h:awp P c (Kq P fn.results.toList r σ1) (A.map .p++dO (fn.ntmps-aA A) .undef) L0 N0):LE P f A r σ1:=by
 refine⟨hok,λC w vs hC hrep=>N5 hf hb hC hrep h0 h ?_⟩;rintro e a w' F L N hq ⟨⟨ρ,s1,s2,s3⟩,s4,s5,s6,s7⟩;have fin:j9 P fn.results.toList F L (λl=>∃m:Rf,BO m σ1 L/\iQ m r (un l))->a.defers=[]/\∃v,(results fn a.tmps).run P w'= .ok v w'/\∃v' ρ1,Ending.returned v= .returned v'/\StR C ρ1 σ1 w' w.heap.size/\ai ρ1 (bV C w.heap.size w' ρ1 σ1) r v'/\Below w.heap.size w w':=by intro h;obtain⟨l,v,⟨m,⟨h1,h2⟩,h3⟩,hres,hrep⟩:=RH s1 s3 h;obtain⟨k1,k2⟩:=s1.rf m h1 h2;exact⟨s5,v,hres,v,_,rfl,k2,xZ k1 _ _ v h3 hrep,s7⟩
 cases e<;>first|exact fin hq|exact hq.elim
variable {o:Oper} {E:Operand->AV} {σ:Nat->Option Ob} {n:Nat}
def aAQ{c:Call}{f:Operand}{fid:FuncId}{A:List PV}{r r':AV}{σ1:Sto}{m1:Rf}{W':List (Nat×Option Ob)}(ho:o.op= .call c)(hc:c.callee= .value f)(hfv:E f= .p (.fn (.func fid) [] []))
  (hA:bm (c.args.toList.map E)=aD A) (hS:LE P fid A r σ1) (hcl:∀s x,m1 s=aD x->cls s=n) (hWn:∀s,W'.lookup s≠aM->cls s=n/\W'.lookup s≠aD aM) (hR:BO m1 (λs=>(W'.lookup s).join) σ1)
  (hty:∀s ob,W'.lookup s=aD (aD ob)->¬(ob.esz=0/\ob.ty=0)) (hr:iQ m1 r' r):bq P o E σ n r' [] W':=by
 have hfm:f∈o.op.operands.toList:=by rw[ho];simp[dM,k9,hc]
 have ham:∀x∈c.args.toList,x∈o.op.operands.toList:=by intro x hx;rw[ho];simp[dM,k9];exact .inr aH
 intro C0 ρ g V w B hs hB _ hn hgn hE;have hargs:∀l:List Operand,(∀x∈l,x∈o.op.operands.toList)->bY ρ (bV C0 B w ρ g) (l.map E) (l.map (bj V)):=by
  intro l;induction l with
  |nil=>intro _;rfl
  |cons x l ih=>
   unfold bY;grind
 have hall:=uJ hA (hargs _ ham);have hvf:bj V f= .func (.func fid) #[] #[] :=by have:=hE f hfm;rw[hfv]at this;unfold ai bE at this;obtain⟨v1,v2,h1,h2,h3⟩:=this;unfold bk at h2 h3;rw[h1,h2,h3]
 obtain⟨hok,hcalls⟩:=hS;have hrun:(execOp (bj V) o).run P w= .ok (.enter fid (c.args.toList.map (bj V)).toArray) w:=by
  unfold execOp;rw[ho];have e2: #[] ++wq (bj V) c.args++ #[] =(c.args.toList.map (bj V)).toArray:=by apply rY.1;simp
  simp only[resolve,hc,hvf,wu,dY,fD,dr,invoke,nP hok,e2]
 have hlive:∀s ob b c,g s=aD ob->ρ s=aD (aD b,c)->b<w.heap.size:=by intro s ob b c e1 e2;obtain⟨_,arr,e3⟩:=hs.at e1 e2;exact e3.lt
 unfold cv;rw[hrun];dsimp only;refine(hcalls (bV C0 B w ρ g) w _ (λb o v h=>h.1) hall).mono ?_;rintro e w' ⟨v,ρ1,rfl,t1,t2,hbel⟩;obtain⟨j1,j2⟩:=t1.rf m1 hR.1 hR.2;have hold:∀b,b<w.heap.size->w'.heap[b]? =w.heap[b]? :=λb hb=>hbel.block b hb;generalize hρL:ko m1 ρ1=ρL at*;have hLn:∀s q,ρL s=aD q->cls s=n:=by
  intro s q hq;rw[<-hρL]at hq;unfold ko at hq;cases hm:m1 s with
  |none=>grind
  |some x=>grind
 let ρ':Ren:=λs=>if cls s=n then ρL s else ρ s
 have hρn:∀s,cls s=n->ρ' s=ρL s:=aH;have hρs:∀s,cls s≠n->ρ' s=ρ s:=aH;have hL':∀s ob,W'.lookup s=aD (aD ob)->(λs=>(W'.lookup s).join) s=aD ob:=aH;have hup:∀s,W'.lookup s=aM->bM g W' s=g s:=λs h=>by unfold bM;rw[h]
 have hupn:∀s,cls s≠n->bM g W' s=g s:=aH;have hnew:∀s ob,bM g W' s=aD ob->cls s=n->W'.lookup s=aD (aD ob):=by
  intro s ob h hs';unfold bM at h;cases hl:W'.lookup s with
  |none=>grind
  |some x=>grind
 have hext:∀s q,ρ s=aD q->ρ' s=aD q:=aH;have hextL:∀s q,ρL s=aD q->ρ' s=aD q:=aH;have hge:∀s ob b c,W'.lookup s=aD (aD ob)->ρL s=aD (aD b,c)->w.heap.size<=b:=λs ob b c h1 h2=>(j2.at (hL' s ob h1) h2).1;have hmono:∀b o' x,bV C0 B w ρ g b o' x->bV C0 B w' ρ' (bM g W') b o' x:=by
  intro b o' x ⟨e1,e2,e3⟩;have hb:b<w.heap.size:=lj w ⟨b,o',aM⟩ e1;refine⟨(kc (hold b hb)).trans e1,λs c' e4=> ?_,e3⟩;by_cases hsn:cls s=n
  .cases hu:bM g W' s with
   |none=>rfl
   |some ob=>grind
  .grind
 have hCL:∀b o' x,bV (bV C0 B w ρ g) w.heap.size w' ρL (λs=>(W'.lookup s).join) b o' x->bV C0 B w' ρ' (bM g W') b o' x:=by
  intro b o' x ⟨e1,e2,e3⟩;refine⟨e1,λs c' e4=> ?_,?_⟩
  .by_cases hsn:cls s=n
   .rw[hρn s hsn]at e4;cases hu:bM g W' s with
    |none=>rfl
    |some ob=>grind
   .rw[hρs s hsn]at e4;rw[hupn s hsn];rcases e3 with e3|e3
    .cases hg:g s with
     |none=>rfl
     |some ob=>grind
    .exact e3.2.1 s c' e4
  .rcases e3 with e3|e3
   .omega
   .exact e3.2.2
 refine⟨_,rfl,ρ',hρs,hmono,?_,ai.mono hextL hCL _ _ (by rw[<-hρL];exact xZ aH _ _ _ hr t2),hbel.mono hB⟩;refine hs.stepG aH hext hmono aH aH ?_;intro s ob hso;obtain⟨q,c',h1,⟨h2,h3|⟨h3,h4⟩⟩|⟨b,arr,h2,h3,h4⟩⟩:=j2.ob s ob (hL' s ob hso)
 .grind
 .refine⟨q,c',aH,.inr (.inl ⟨h2,h3,?_,?_⟩)⟩
  .rcases h4 with⟨h5,_⟩|⟨h5,h6,es,clock,h7,h8⟩
   .grind
   .exact .inr ⟨h5,aH,es,clock,h7,bY.mono hextL hCL _ _ h8⟩
  .intro s' ob' c2 hne hu he hρ2 hT;have hT1:ob.ty=1/\ob'.ty=1/\c'=c2:=by
    rcases hT with hT|hT
    .exact hT
    .grind
   by_cases hsn':cls s'=n
   .rw[hρn s' hsn']at hρ2;subst h2;exact hne (j2.mpi s s' ob ob' c' c2 (hL' s ob hso) aH h3 he h1 hρ2 hT).symm
   .rw[hρs s' hsn']at hρ2;rw[hupn s' hsn']at hu;obtain⟨q2,c3,k1,⟨_,⟨k2,_⟩|⟨_,k2⟩⟩|⟨b,arr,k2,_⟩⟩:=hs.ob s' ob' hu
    .exact k2 he
    .rw[hρ2]at k1;cases k1;rcases k2 with⟨k3,_⟩|⟨_,_,es,clock,k3,_⟩
     .grind
     .have hlt:=vp k3;rcases h4 with⟨h5,_⟩|⟨_,h6,_⟩
      .grind
      omega
    grind
 .refine⟨q,c',aH,.inr (.inr ⟨b,arr,h2,aH,⟨h4.blk,h4.box,h4.row,λi x hi=> ?_⟩,?_⟩)⟩
  .obtain⟨u,g1,g2,g3⟩:=h4.cells i x hi;exact⟨u,g1,g2,ai.mono hextL hCL x u g3⟩
  .intro s' ob' c2 hne hu hρ2;subst h2;by_cases hsn':cls s'=n
   .rw[hρn s' hsn']at hρ2;exact hne (j2.inj s s' ob ob' b c' c2 (hL' s ob hso) aH h1 hρ2).symm
   grind
end
section
def agI(xs:List Int):Value:= .agg (xs.map (dN .i64)).toArray
structure MKey(P:Program)(k:TypeId)(m:Nat):Prop where
 check:∀(w:World) (em:Bool) (xs:List Int),aA xs=m->(Instr.checkKey em 10000 k (agI xs)).run P w= .ok () w
 eq:∀(w:World) (xs ys:List Int),aA xs=m->aA ys=m->(Op.equal k (agI xs) (agI ys)).run P w= .ok (xs==ys) w
 now:∃d,P.underlying k=aD d/\∀a b:Array Value,Instr.sameNow d (.agg a) (.agg b)=aM
variable {P:Program}
def lS(es:List MapEntry)(ks:List (List Int×Value)):Prop:=es.map (λe=>(e.key,e.val))=ks.map λq=>(agI q.1,q.2)
def QO{k:TypeId}{m:Nat}(K:MKey P k m)(w:World)(xs:List Int)(hx:aA xs=m):∀(es:List MapEntry) (ks:List (List Int×Value)) (i:Nat),lS es ks->(∀q∈ks,aA q.1=m)->
  ((Instr.findAsking k (agI xs) es i).run P w= .ok aM w/\∀q∈ks,q.1≠xs)\/∃j v,(Instr.findAsking k (agI xs) es i).run P w= .ok (aD (i+j,v)) w/\ks[j]? =aD (xs,v)
 |[],ks,i,h,_=>by
  have:ks=[] :=by simpa using h.symm
  subst this;exact .inl ⟨rfl,aH⟩
 |e::es,ks,i,h,hl=>by
  cases ks with
  |nil=>unfold lS at h;simp at h
  |cons q ks=>
   unfold lS at h;simp only[dU,re,wo]at h;obtain⟨⟨h1,h2⟩,h3⟩:=h;unfold Instr.findAsking;simp only[dY,h1,K.eq w xs q.1 hx aH,dr];by_cases hq:xs=q.1
   .right;refine⟨0,q.2,?_,by rw[hq];rfl⟩;simp_all
   .rcases QO K w xs hx es ks (i+1) h3 aH with⟨h4,h5⟩|⟨j,v,h4,h5⟩
    .grind
    .exact .inr ⟨j+1,v,aH,h5⟩
def QN{k:TypeId}{m:Nat}(K:MKey P k m)(w:World)(xs:List Int)(hx:aA xs=m)(es:List MapEntry)(ks:List (List Int×Value))(h:lS es ks)(hl:∀q∈ks,aA q.1=m):
  ((Instr.findKey k (agI xs) es).run P w= .ok aM w/\∀q∈ks,q.1≠xs)\/∃j v,(Instr.findKey k (agI xs) es).run P w= .ok (aD (j,v)) w/\ks[j]? =aD (xs,v):=by
 obtain⟨d,hd,hn⟩:=K.now;unfold Instr.findKey;simp only[dY,run_underlying hd,dr];cases es with
 |nil=>
  left;have:ks=[] :=by simpa using h.symm
  subst this;exact⟨rfl,aH⟩
 |cons e es=>
  have h1:Instr.findNow d (agI xs) (e::es) 0=aM:=by
   unfold Instr.findNow;cases ks with
   |nil=>unfold lS at h;simp at h
   |cons q ks=>
    unfold lS at h;simp only[dU,re,wo]at h;rw[h.1.1];unfold agI;rw[hn]
  rw[h1];simpa using QO K w xs hx (e::es) ks 0 h hl
def Wo(xs:List Int):Instr.sameBits 10000 (agI xs) (agI xs)=aE:=by unfold agI Instr.sameBits;simp only[beq_self_eq_true,Bool.true_and,cC];rintro⟨x,y⟩ h;obtain⟨i,hi,e⟩:=jQ h;simp only[List.getElem_zip,wo]at e;obtain⟨rfl,rfl⟩:=e;simp[Instr.sameBits]
def aAi(xs:List Int)(w:World):(Instr.keyThatStays (agI xs) (agI xs)).run P w= .ok (agI xs) w:=by unfold Instr.keyThatStays;rw[if_pos (Wo xs)];rfl
def ic(ks:List (List Int×AV)):List AV:=ks.flatMap λq=>[.p (.agg (nF q.1)),q.2]
def QF{C:bf}:∀{xs:List Int} {vs:List Value},bk C (nF xs) vs->vs=xs.map (dN .i64)
 |[],vs,h=>by exact h
 |x::xs,vs,h=>by
  unfold nF at h;obtain⟨v,r,rfl,h1,h2⟩:=h;rw[h1,QF (xs:=xs) h2];rfl
variable{xs:List Int}
def JB{ρ:Ren}{C:bf}{v:Value}(h:ai ρ C (.p (.agg (nF xs))) v):v=agI xs:=by obtain⟨vs,rfl,h1,_⟩:=h;rw[QF h1];rfl
def aB9{ρ:Ren}{C:bf}(xs:List Int):ai ρ C (.p (.agg (nF xs))) (agI xs):=by
 refine⟨_,rfl,?_,λu hu=> ?_⟩
 .induction xs with
  |nil=>rfl
  |cons x xs ih=>exact⟨_,_,rfl,by rfl,ih⟩
 .obtain⟨x,_,rfl⟩:=bn.1 hu;rfl
def II{ρ:Ren}{C:bf}:∀{ks:List (List Int×AV)} {es:List MapEntry},bY ρ C (ic ks) (es.flatMap λe=>[e.key,e.val])->
  ∃kv:List (List Int×Value),lS es kv/\(aA kv)=(aA ks)/\∀(j:Nat) q,ks[j]? =aD q->∃v,kv[j]? =aD (q.1,v)/\ai ρ C q.2 v
 |[],es,h=>by
  unfold ic at h;unfold bY at h;cases es with
  |nil=>exact⟨[],rfl,rfl,aH⟩
  |cons e es=>simp at h
 |q::ks,es,h=>by
  unfold ic at h;cases es with
  |nil=>unfold bY at h;grind
  |cons e es=>
   obtain⟨v,r,h1,h2,h3⟩:=h;cases h1;obtain⟨v,r,h1,h4,h5⟩:=h3;cases h1;obtain⟨kv,g1,g2,g3⟩:=II (ks:=ks) (es:=es) h5;refine⟨(q.1,e.val)::kv,?_,by simp[g2],?_⟩
   .unfold lS at*;simp only[dU,g1,JB h2]
   grind
def Rp{ρ:Ren}{C:bf}:∀{ks:List (List Int×AV)} {es:List MapEntry} {kv:List (List Int×Value)},lS es kv->aA kv=aA ks->(∀(j:Nat) q,ks[j]? =aD q->∃v,kv[j]? =aD (q.1,v)/\ai ρ C q.2 v)->
  bY ρ C (ic ks) (es.flatMap λe=>[e.key,e.val])
 |[],es,kv,h,hl,_=>by
  have:kv=[] :=aH;subst this;unfold lS at h;have:es=[] :=by simpa using h
  subst this;rfl
 |q::ks,es,kv,h,hl,hk=>by
  cases kv with
  |nil=>simp at hl
  |cons p kv=>
   cases es with
   |nil=>unfold lS at h;simp at h
   |cons e es=>
    unfold lS at h;simp only[dU,re,wo]at h;obtain⟨⟨h1,h2⟩,h3⟩:=h;obtain⟨v,h4,h5⟩:=hk 0 q rfl;simp at h4;subst h4;refine⟨_,_,rfl,by rw[h1];exact aB9 q.1,?_⟩;exact⟨_,_,rfl,aH,Rp (ks:=ks) (kv:=kv) h3 aH λj q' hj=>by simpa using hk (j+1) q' aH⟩
def rA:List (List Int×AV)->List Int->AV->AV
 |[],_,z=>z
 |q::ks,xs,z=>if q.1=xs then q.2 else rA ks xs z
def mA:List (List Int×AV)->List Int->AV->List (List Int×AV)
 |[],xs,v=>[(xs,v)]
 |q::ks,xs,v=>if q.1=xs then(xs,v)::ks else q::mA ks xs v
def uw(ks:List (List Int×AV)):Prop:=ks.Pairwise λp q=>p.1≠q.1
def OX:∀{ks:List (List Int×AV)} {xs:List Int} {z:AV},(∀q∈ks,q.1≠xs)->rA ks xs z=z
 |[],_,_,_=>rfl
 |q::ks,xs,z,h=>by unfold rA;rw[if_neg aH];exact OX aH
def H6:∀{ks:List (List Int×AV)} {xs:List Int} {v:AV},(∀q∈ks,q.1≠xs)->mA ks xs v=ks++[(xs,v)]
 |[],_,_,_=>rfl
 |q::ks,xs,z,h=>by unfold mA;rw[if_neg aH,H6 aH];rfl
def P7:∀{ks:List (List Int×AV)} {xs:List Int} {v z:AV} {j:Nat},uw ks->ks[j]? =aD (xs,v)->rA ks xs z=v
 |[],_,_,_,_,_,h=>by simp at h
 |q::ks,xs,v,z,0,_,h=>by simp at h;unfold rA;grind
 |q::ks,xs,v,z,j+1,hd,h=>by
  unfold uw at hd;rw[jA]at hd;unfold rA;rw[if_neg aH];exact P7 hd.2 h
def RO:∀{ks:List (List Int×AV)} {xs:List Int} {u v:AV} {j:Nat},uw ks->ks[j]? =aD (xs,u)->mA ks xs v=ks.set j (xs,v)
 |[],_,_,_,_,_,h=>by simp at h
 |q::ks,xs,u,v,0,_,h=>by simp at h;unfold mA;grind
 |q::ks,xs,u,v,j+1,hd,h=>by
  unfold uw at hd;rw[jA]at hd;unfold mA;rw[if_neg aH,RO hd.2 h];rfl
variable {o:Oper} {E:Operand->AV} {σ:Nat->Option Ob} {n:Nat}
def Xa{t:TypeId}(ho:o.op= .makeMap t aM):bq P o E σ n (.mp (sit n 0)) [] [(sit n 0,aD ⟨1,0,[]⟩)] :=by
 intro C0 ρ g V w B hs hB _ hn hgn hE;have hcl:∀s,cls s≠n->s≠sit n 0:=λs h e=>h (by rw[e];exact jV n 0);generalize sit n 0=m at*;have hrun:(execOp (bj V) o).run P w= .ok (.value (.map (aD w.heap.size))) (w.alloc (.map #[] 0)):=by unfold execOp;rw[ho];rfl
 unfold cv;rw[hrun];have hblk:(w.alloc (.map #[] 0)).heap[w.heap.size]? =aD (.map #[] 0):=heap_alloc_new w _
 let ρ':Ren:=λs=>if s=m then aD (aM,w.heap.size)else ρ s
 have hext:∀s q,ρ s=aD q->ρ' s=aD q:=by intro s q hq;show(if s=m then _ else _)=_;rw[if_neg aH];exact hq
 have hold:∀b,b<w.heap.size->(w.alloc (.map #[] 0)).heap[b]? =w.heap[b]? :=λb hb=>Below.heap_alloc w _ b hb;have hlk:∀s,s≠m->[(m,aD (⟨1,0,[]⟩:Ob))].lookup s=aM:=by intro s hs;simp[jS,beq_eq_false_iff_ne.2 hs]
 have hup:∀s,s≠m->bM g [(m,aD ⟨1,0,[]⟩)] s=g s:=by intro s hs;unfold bM;rw[hlk s hs]
 have hmono:∀b o' x,bV C0 B w ρ g b o' x->bV C0 B (w.alloc (.map #[] 0)) ρ' (bM g [(m,aD ⟨1,0,[]⟩)]) b o' x:=by
  intro b o' x ⟨e1,e2,e0⟩;have hb:b<w.heap.size:=lj w ⟨b,o',aM⟩ e1;refine⟨(kc (hold b hb)).trans e1,?_,e0⟩;intro s c' e3;by_cases e:s=m
  .grind
  .grind
 refine⟨ρ',aH,hmono,?_,by unfold ai;grind,(Below.refl B w).alloc hB _⟩;refine hs.stepG ?_ hext hmono ?_ aH ?_
 .grind
 .intro s ob' b c' _ e2 e3;obtain⟨_,arr,e4⟩:=hs.at e2 e3;exact hold b e4.lt
 .intro s ob' e;have e1:s=m:=by
   rcases rb s m with h|h
   .grind
   .exact h
  subst e1;have e2:ob'=⟨1,0,[]⟩:=by simp[jS]at e;exact e.symm
  subst e2;refine⟨aM,w.heap.size,by simp[ρ'],.inr (.inl ⟨rfl,rfl,.inr ⟨rfl,hB, #[],0,hblk,by rfl⟩,?_⟩)⟩;intro s' o' c' hne e3 e4 e5 hT;rw[hup s' hne]at e3;simp only[ρ',if_neg hne]at e5;obtain⟨q2,c3,k1,⟨_,⟨k2,_⟩|⟨_,k2⟩⟩|⟨b,arr,k2,_⟩⟩:=hs.ob s' o' e3
  .exact k2 e4
  .rw[e5]at k1;rcases hT with⟨_,hT2,hT3⟩|⟨hT,_⟩
   .rcases k2 with⟨k3,_⟩|⟨_,_,es,clock,k3,_⟩
    .grind
    grind
   .cases hT
  grind
def P6{C0:bf}{B:Nat}{ρ:Ren}{g:Nat->Option Ob}{w:World}{s c:Nat}{cells:List AV}(hs:StR C0 ρ g w B)(hg:g s=aD ⟨1,0,cells⟩)(hρ:ρ s=aD (aM,c)):
  B<=c/\∃es clock,w.heap[c]? =aD (y8 es clock)/\bY ρ (bV C0 B w ρ g) cells (es.toList.flatMap λe=>[e.key,e.val]):=by
 obtain⟨q2,c3,k1,⟨_,⟨k2,_⟩|⟨_,k2⟩⟩|⟨b,arr,k2,_⟩⟩:=hs.ob s _ hg
 .grind
 .rw[hρ]at k1;rcases k2 with⟨k3,_⟩|⟨_,k3,es,clock,k4,k5⟩
  .cases k3
  grind
 grind
def Yb{t k e:TypeId}{x i:Operand}{m s:Nat}{ks:List (List Int×AV)}{z:AV}{zv:Value}(ho:o.op= .lookup t x i aK)(ht:P.underlying t=aD (.map k e))(K:MKey P k m)(hz:∀w,(zeroValue e).run P w= .ok zv w)(hzr:∀ρ C,ai ρ C z zv)
  (hx:E x= .mp s) (hi:E i= .p (.agg (nF xs))) (hxs:aA xs=m) (hob:σ s=aD ⟨1,0,ic ks⟩) (hks:∀q∈ks,aA q.1=m) (hd:uw ks):bq P o E σ n (rA ks xs z) [s] [] :=by
 refine bq.pure λC0 ρ g V w B hs hR hE=> ?_;have hgs:g s=aD ⟨1,0,ic ks⟩:=aH;have hvx:=hE x (by rw[ho];simp[dM]);have hvi:=hE i (by rw[ho];simp[dM]);rw[hx]at hvx;rw[hi]at hvi;obtain⟨c,hρ,hvx⟩:=hvx;obtain⟨_,es,clock,hb,hrep⟩:=P6 hs hgs hρ;obtain⟨kv,g1,g2,g3⟩:=II hrep;have hkl:∀q∈kv,aA q.1=m:=by intro q hq;obtain⟨j,hj,e1⟩:=jQ hq;have hj':j<aA ks:=aC;obtain⟨v,h1,_⟩:=g3 j ks[j] aH;rw[fQ hj,e1]at h1;cases h1;grind
 have hrun:∃v,(Instr.lookup t (.map (aD c)) (agI xs) aK).run P w= .ok v w/\ai ρ (bV C0 B w ρ g) (rA ks xs z) v:=by
  rcases QN K w xs hxs es.toList kv g1 hkl with⟨h1,h2⟩|⟨j,v,h1,h2⟩
  .refine⟨zv,by simp[Instr.lookup,run_underlying ht,MapKept.run_getObj_map hb,K.check w _ xs hxs,h1,hz,Br],?_⟩;rw[OX]
   .exact hzr _ _
   .intro q hq e;obtain⟨j,hj,e1⟩:=jQ hq;obtain⟨v,h3,_⟩:=g3 j q aH;grind
  .refine⟨v,by simp[Instr.lookup,run_underlying ht,MapKept.run_getObj_map hb,K.check w _ xs hxs,h1,Br],?_⟩;have hj:j<aA ks:=by rw[<-g2];grind
   obtain⟨q,hq⟩:∃q,ks[j]? =aD q:=⟨_,fQ hj⟩;obtain⟨u,h3,h4⟩:=g3 j q hq;rw[h2]at h3;simp only[iG,wo]at h3;obtain⟨e1,rfl⟩:=h3;rw[P7 (v:=q.2) hd (by rw[hq,e1])];exact h4
 obtain⟨v,h1,h2⟩:=hrun;unfold cv execOp;rw[ho];simp only[hvx,JB hvi,dY,h1,dr,fD];grind
def lS.get{es:List MapEntry}{kv:List (List Int×Value)}(h:lS es kv){j:Nat}{q:List Int×Value}(hq:kv[j]? =aD q):∃e,es[j]? =aD e/\e.key=agI q.1/\e.val=q.2:=by have:=congrArg (λl=>l[j]?) h;grind
def Wt{t k e:TypeId}{x i y:Operand}{m s:Nat}{ks:List (List Int×AV)}(ho:o.op= .mapUpdate t x i y)(ht:P.underlying t=aD (.map k e))(K:MKey P k m)
  (hx:E x= .mp s) (hi:E i= .p (.agg (nF xs))) (hxs:aA xs=m) (hob:σ s=aD ⟨1,0,ic ks⟩) (hks:∀q∈ks,aA q.1=m) (hd:uw ks):
  bq P o E σ n .undef [s] [(s,aD ⟨1,0,ic (mA ks xs (E y))⟩)] :=by
 intro C0 ρ g V w B hs hB hR hn hgn hE;have hgs:g s=aD ⟨1,0,ic ks⟩:=aH;have hvx:=hE x (by rw[ho];simp[dM]);have hvi:=hE i (by rw[ho];simp[dM]);have hvy:=hE y (by rw[ho];simp[dM]);rw[hx]at hvx;rw[hi]at hvi;obtain⟨c,hρ,hvx⟩:=hvx;obtain⟨hBc,es,clock,hb,hrep⟩:=P6 hs hgs hρ;obtain⟨kv,g1,g2,g3⟩:=II hrep;have hkl:∀q∈kv,aA q.1=m:=by intro q hq;obtain⟨j,hj,e1⟩:=jQ hq;have hj':j<aA ks:=aC;obtain⟨v,h1,_⟩:=g3 j ks[j] aH;rw[fQ hj,e1]at h1;cases h1;grind
 generalize hV:bj V y=vy at*;have hrun:∃(es':Array MapEntry) (clock':Nat),(Instr.mapUpdate t (.map (aD c)) (agI xs) vy).run P w= .ok () {w with heap:=w.heap.setIfInBounds c (.map es' clock')}/\
   ∃kv',lS es'.toList kv'/\(aA kv')=(aA (mA ks xs (E y)))/\∀(ρ':Ren) (C':bf),(∀s q,ρ s=aD q->ρ' s=aD q)->(∀b o x,bV C0 B w ρ g b o x->C' b o x)->∀(j:Nat) q,(mA ks xs (E y))[j]? =aD q->∃v,kv'[j]? =aD (q.1,v)/\ai ρ' C' q.2 v:=by
  rcases QN K w xs hxs es.toList kv g1 hkl with⟨h1,h2⟩|⟨j,v,h1,h2⟩
  .refine⟨es.push ⟨agI xs,vy,clock⟩,clock+1,?_,kv++[(xs,vy)],?_,?_,?_⟩
   .simp[Instr.mapUpdate,run_underlying ht,MapKept.run_getObj_map hb,K.check w _ xs hxs,h1,MapKept.run_setObj_map _ hb,Br]
   .unfold lS at*;grind
   .rw[H6]
    .simp[g2]
    .intro q hq e;obtain⟨j,hj,e1⟩:=jQ hq;obtain⟨v,h3,_⟩:=g3 j q aH;grind
   .intro ρ' C' hρ' hC' j q hq;rw[H6]at hq
    .rcases pV j (aA ks) with hj|hj
     .rw[qU hj]at hq;obtain⟨v,h3,h4⟩:=g3 j q hq;exact⟨v,aH,ai.mono hρ' hC' _ _ h4⟩
     .rw[mg hj]at hq;have hj2:j-aA ks=0:=by have:=(Bs.1 hq).1;simp at this;omega
      rw[hj2]at hq;simp at hq;subst hq;exact⟨vy,aH,ai.mono hρ' hC' _ _ hvy⟩
    .intro q hq e;obtain⟨j,hj,e1⟩:=jQ hq;obtain⟨v,h3,_⟩:=g3 j q aH;grind
  .obtain⟨e0,h5,h6,h7⟩:=g1.get h2;have hj:j<aA ks:=by rw[<-g2];grind
   obtain⟨q0,hq0⟩:∃q,ks[j]? =aD q:=⟨_,fQ hj⟩;have hput:mA ks xs (E y)=ks.set j (xs,E y):=RO (u:=q0.2) hd aH;have hes:es[j]? =aD e0:=by simpa using h5
   refine⟨es.modify j (λe=>{e with key:=agI xs,val:=vy}),clock,?_,kv.set j (xs,vy),?_,?_,?_⟩
   .simp[Instr.mapUpdate,run_underlying ht,MapKept.run_getObj_map hb,K.check w _ xs hxs,h1,hes,h6,aAi,MapKept.run_setObj_map _ hb,Br]
   .unfold lS at*;have e1:(es.modify j (λe=>{e with key:=agI xs,val:=vy})).toList=es.toList.set j {e0 with key:=agI xs,val:=vy}:=by
     apply FY;intro i;rw[Bm];by_cases hij:j=i
     .grind
     .grind
    simp_all
   .grind
   .intro ρ' C' hρ' hC' i q hq;rw[hput,Bm]at hq;split at hq
    .rename_i e1;cases hq;exact⟨vy,aH,ai.mono hρ' hC' _ _ hvy⟩
    .obtain⟨v,h3,h4⟩:=g3 i q hq;exact⟨v,aH,ai.mono hρ' hC' _ _ h4⟩
 obtain⟨es',clock',hr,kv',f1,f2,f3⟩:=hrun;have hclt:=vp hb;unfold cv execOp;rw[ho];simp only[hvx,JB hvi,hV,dY,hr,dr,fD];have hold:∀b,b≠c->({w with heap:=w.heap.setIfInBounds c (.map es' clock')}:World).heap[b]? =w.heap[b]? :=by intro b hbc;show(w.heap.setIfInBounds c _)[b]? =_;rw[Bk,if_neg aH]
 have hnb:({w with heap:=w.heap.setIfInBounds c (.map es' clock')}:World).heap[c]? =aD (y8 es' clock'):=by show(w.heap.setIfInBounds c _)[c]? =_;rw[Bk,if_pos rfl,if_pos hclt]
 have hsize:({w with heap:=w.heap.setIfInBounds c (.map es' clock')}:World).heap.size=w.heap.size:=af;have hos:({w with heap:=w.heap.setIfInBounds c (.map es' clock')}:World).os=w.os/\({w with heap:=w.heap.setIfInBounds c (.map es' clock')}:World).tape=w.tape/\({w with heap:=w.heap.setIfInBounds c (.map es' clock')}:World).output=w.output:=aH;generalize ({w with heap:=w.heap.setIfInBounds c (.map es' clock')}:World)=w' at*;have hlk:∀s',s'≠s->[(s,aD (⟨1,0,ic (mA ks xs (E y))⟩:Ob))].lookup s'=aM:=by intro s' hs';simp[jS,beq_eq_false_iff_ne.2 hs']
 have hup:∀s',s'≠s->bM g [(s,aD ⟨1,0,ic (mA ks xs (E y))⟩)] s'=g s':=by intro s' hs';unfold bM;rw[hlk s' hs']
 have hmono:∀b' o' x',bV C0 B w ρ g b' o' x'->bV C0 B w' ρ (bM g [(s,aD ⟨1,0,ic (mA ks xs (E y))⟩)]) b' o' x':=by
  intro b' o' x' ⟨e1,e2,e0⟩;have hne:b'≠c:=by intro e3;subst e3;unfold World.cell? at e1;simp[hb]at e1
  refine⟨(kc (hold b' hne)).trans e1,?_,e0⟩;intro s' c' e3;by_cases e:s'=s
  .grind
  .grind
 refine⟨ρ,λ_ _=>rfl,hmono,?_,by rfl,⟨hos.1,hos.2.1,hos.2.2,aC,aH⟩⟩;refine hs.stepG aH (λ_ _ h=>h) hmono ?_ ?_ ?_
 .intro s' o' b' c' e1 e2 e3;refine hold b' λe=> ?_;obtain⟨_,arr,e4⟩:=hs.at e2 e3;exact x8 hb e4.blk e.symm
 .intro s' o' c' es2 clock2 e1 e2 e3 e4 e5 e6;refine hold c' λe=> ?_;subst e;have:=hs.mpi s' s o' _ c' c' e2 hgs e3 rfl e5 hρ (.inl aH);grind
 .intro s' o' e;have e1:s'=s:=by
   rcases rb s' s with h|h
   .grind
   .exact h
  subst e1;have e2:o'=⟨1,0,ic (mA ks xs (E y))⟩:=by simp[jS]at e;exact e.symm
  subst e2;refine⟨aM,c,hρ,.inr (.inl ⟨rfl,rfl,.inr ⟨rfl,hBc,es',clock',hnb,Rp f1 f2 (f3 ρ _ (λ_ _ h=>h) hmono)⟩,?_⟩)⟩;intro s2 o2 c2 hne e3 e4 e5 hT;rw[hup s2 hne]at e3;exact hne (hs.mpi s' s2 _ o2 c c2 hgs e3 rfl e4 hρ e5 (by
   rcases hT with⟨_,h2,h3⟩|⟨h1,_⟩
   .exact .inl ⟨rfl,h2,h3⟩
   .cases h1)).symm
end
section
def jJ:Nat->(Nat->Option Ob)->AV->Option PV
 |_,_,.p x=>aD x
 |_,_,.nil=>aD (.sl 0 [])
 |_,_,.own .. =>aD .junk
 |_,_,.any=>aD .junk
 |0,_,.ptr .. =>aD .junk
 |d+1,σ,.ptr s off=>(σ s).bind λob=>(fM (jJ d σ) ob.cells).map λl=> .pro l off
 |d+1,σ,.agg l=>(fM (jJ d σ) l).map .agg
 |d+1,σ,.fn f a b=>(fM (jJ d σ) a).bind λx=>(fM (jJ d σ) b).map λy=> .fn f x y
 |_,_,_=>aM
def iM:Nat->(Nat->Option Ob)->AV->List Nat
 |0,_,_=>[]
 |d+1,σ,.ptr s _=>s::(match σ s with|some ob=>bl (iM d σ) ob.cells|none=>[])
 |d+1,σ,.agg l=>bl (iM d σ) l
 |d+1,σ,.fn _ a b=>bl (iM d σ) a++bl (iM d σ) b
 |_,_,_=>[]
def ZY{C0:bf}{ρ:Ren}{g σ:Nat->Option Ob}{w:World}{B s0 b0 c0:Nat}{o0:Ob}(hs:StR C0 ρ g w B)(hg0:g s0=aD o0)(hρ0:ρ s0=aD (aD b0,c0)):
  ∀(d:Nat) (x:AV) (y:PV) (v:Value),jJ d σ x=aD y->(∀s∈iM d σ x,s≠s0/\g s=σ s)->ai ρ (bV C0 B w ρ g) x v->bE (λb o u=>w.cell? ⟨b,o,aM⟩=aD u/\b≠b0) y v:=by
 have hfull:∀b o v,bV C0 B w ρ g b o v->w.cell? ⟨b,o,aM⟩=aD v/\b≠b0:=λb o v h=>⟨h.1,λe=>by subst e;have:=h.2.1 s0 c0 hρ0;grind⟩;intro d;induction d with
 |zero=>
  intro x y v h hr hx;unfold jJ at h;split at h<;>first|(cases h;done)|skip
  .cases h;exact bE.mono hfull _ v hx
  .cases h;unfold ai at hx;unfold bE;grind
  .cases h;trivial
  .cases h;trivial
  .cases h;trivial
  all_goals (rename_i e;cases e)
 |succ d ih=>
  have ihL:∀(l:List AV) (m:List PV) (vs:List Value),fM (jJ d σ) l=aD m->(∀s∈bl (iM d σ) l,s≠s0/\g s=σ s)->bY ρ (bV C0 B w ρ g) l vs->bk (λb o u=>w.cell? ⟨b,o,aM⟩=aD u/\b≠b0) m vs:=by
   intro l m vs h hr hv;obtain⟨h1,h2⟩:=qj h;refine bk.of _ _ (by rw[<-h1];exact hv.length) λi y hi=> ?_;have hlt:i<aA l:=by rw[h1];grind
   obtain⟨y',h3,h4⟩:=h2 i l[i] aH;rw[hi]at h3;cases h3;obtain⟨v,h5,h6⟩:=hv.get _ _ i l[i] aH;exact⟨v,h5,ih _ _ v h4 (λs hs'=>hr s (qf aH hs')) h6⟩
  intro x y v h hr hx;unfold jJ at h;split at h<;>first|(cases h;done)|skip
  .cases h;exact bE.mono hfull _ v hx
  .cases h;unfold ai at hx;unfold bE;grind
  .cases h;trivial
  .cases h;trivial
  .omega
  .rename_i σ _ _ _ d' s off e;cases e;simp only[tV,oW]at h;obtain⟨ob,h1,l,h2,rfl⟩:=h;obtain⟨hne,hg⟩:=hr s (by simp[iM]);have hg:g s=aD ob:=hg.trans h1;have hr2:∀s'∈bl (iM d σ) ob.cells,s'≠s0/\g s'=σ s':=λs' hs'=>hr s' (by simp only[iM,h1];grind);obtain⟨b,c,hq,hv⟩:=hx;refine⟨b,0,aH,?_⟩;obtain⟨hBb,arr,hO⟩:=hs.at hg hq;obtain⟨g1,g2⟩:=qj h2;refine dp.of _ _ _ λi y hi=> ?_;have hlt:i<aA ob.cells:=by rw[g1];grind
   obtain⟨y',h5,h6⟩:=g2 i ob.cells[i] aH;rw[hi]at h5;cases h5;obtain⟨v,k1,k2,k3⟩:=hO.cells i ob.cells[i] aH;refine⟨v,⟨by rw[ku,hO.cell];exact k1,λe=> ?_⟩,k2,ih _ _ v h6 (λs hs'=>hr2 s (qf aH hs')) k3⟩;subst e;exact hne (hs.inj s s0 _ _ b c c0 hg hg0 hq hρ0)
  .rename_i d' l e;cases e;simp only[oW]at h;obtain⟨m,h2,rfl⟩:=h;obtain⟨vs,h3,h4,h5⟩:=hx;exact⟨vs,h3,ihL l m vs h2 (λs hs'=>hr s hs') h4,h5⟩
  .rename_i d' f a b e;cases e;simp only[tV,oW]at h;obtain⟨x1,h1,x2,h2,rfl⟩:=h;obtain⟨vs1,vs2,h3,h4,h5⟩:=hx;exact⟨vs1,vs2,h3,ihL a x1 vs1 h1 (λs hs'=>hr s (iS _ hs')) h4,ihL b x2 vs2 h2 (λs hs'=>hr s (iF _ hs')) h5⟩
def M9{C0:bf}{ρ:Ren}{g σ:Nat->Option Ob}{w:World}{B s0 b0 c0 d:Nat}{o0:Ob}(hs:StR C0 ρ g w B)(hg0:g s0=aD o0)(hρ0:ρ s0=aD (aD b0,c0)):
  ∀{l:List AV} {m:List PV} {vs:List Value},fM (jJ d σ) l=aD m->(∀s∈bl (iM d σ) l,s≠s0/\g s=σ s)->bY ρ (bV C0 B w ρ g) l vs->bk (λb o u=>w.cell? ⟨b,o,aM⟩=aD u/\b≠b0) m vs:=by
 intro l m vs h hr hv;obtain⟨h1,h2⟩:=qj h;refine bk.of _ _ (by rw[<-h1];exact hv.length) λi y hi=> ?_;have hlt:i<aA l:=by rw[h1];grind
 obtain⟨y',h3,h4⟩:=h2 i l[i] aH;rw[hi]at h3;cases h3;obtain⟨v,h5,h6⟩:=hv.get _ _ i l[i] aH;exact⟨v,h5,ZY hs hg0 hρ0 d _ _ v h4 (λs hs'=>hr s (qf aH hs')) h6⟩
variable {P:Program}
def flat1(x:PV):Bool:=match x with
 | .int .. | .bool _| .str _=>aE
 |_=>aK
def HU{C C':bf}{x:PV}{v:Value}(hf:flat1 x=aE)(h:bE C x v):bE C' x v:=by cases x<;>first|(cases hf;done)|(unfold bE at*;exact h)
def LG(P:Program)(f:FuncId)(n:Nat)(A:List PV)(ty esz:Nat)(cells cells':List PV)(m:Nat):Prop:=lT P f=aE/\(aA cells')<=(aA cells)/\m<=n/\cells'.all flat1=aE/\
 ∀(C:bf) (w:World) (b c:Nat) (arr:Array Value) (vs:List Value),(∀b' o v,C b' o v->w.cell? ⟨b',o,aM⟩=aD v/\b'≠b)->Lent C w b c ty esz cells arr->n<=c->bk C A vs->
  Calls P f (.slice (aD ⟨b,0,aM⟩) n c::vs).toArray w λe w'=>∃arr',e= .returned (.slice (aD ⟨b,0,aM⟩) m c)/\w'.heap[b]? =aD (.cells arr' ty (0,0))/\arr'.size=arr.size/\
   (∀(i:Nat) x,cells'[i]? =aD x->∃v,arr'[i]? =aD v/\v.oneCell'=aE/\bE C x v)/\w.grownBy w' (aD b)
variable {o:Oper} {E:Operand->AV} {σ:Nat->Option Ob} {n:Nat}
def O9{c:Call}{f:Operand}{fid:FuncId}{s k m ty esz:Nat}{rest:List AV}{A cells cells':List PV}(ho:o.op= .call c)(hc:c.callee= .value f)(hfv:E f= .p (.fn (.func fid) [] []))
  (hargs:c.args.toList.map E= .own s 0 k::rest) (hob:σ s=aD ⟨ty,esz,cells.map .p⟩) (he:esz≠0) (hk:0<k) (hA:fM (jJ 3 σ) rest=aD A) (hns:s∉bl (iM 3 σ) rest) (hS:LG P fid k A ty esz cells cells' m):
  bq P o E σ n (.own (sit n 0) 0 m) (s::bl (iM 3 σ) rest) [(s,aM),(sit n 0,aD ⟨ty,esz,cells'.map .p⟩)] :=by
 have hfm:f∈o.op.operands.toList:=by rw[ho];simp[dM,k9,hc]
 have ham:∀x∈c.args.toList,x∈o.op.operands.toList:=by intro x hx;rw[ho];simp[dM,k9];exact .inr aH
 obtain⟨hok,hlen,hmk,hfl,hcall⟩:=hS;intro C0 ρ g V w B hs hB hR hn hgn hE;have hn:=hn _ (jV n 0);have hgn:=hgn _ (jV n 0);have hcl:∀s,cls s≠n->s≠sit n 0:=λs h e=>h (by rw[e];exact jV n 0);have hl:∀l:List Operand,(∀x∈l,x∈o.op.operands.toList)->bY ρ (bV C0 B w ρ g) (l.map E) (l.map (bj V)):=by
  intro l;induction l with
  |nil=>intro _;rfl
  |cons x l ih=>
   unfold bY;grind
 have hall:=hl _ ham;rw[hargs]at hall;unfold bY at hall;obtain⟨v,us,hvs,hv,hus⟩:=hall;have hvf:bj V f= .func (.func fid) #[] #[] :=by have:=hE f hfm;rw[hfv]at this;unfold ai bE at this;obtain⟨v1,v2,h1,h2,h3⟩:=this;unfold bk at h2 h3;rw[h1,h2,h3]
 have hrun:(execOp (bj V) o).run P w= .ok (.enter fid (v::us).toArray) w:=by
  unfold execOp;rw[ho];have e2: #[] ++wq (bj V) c.args++ #[] =(v::us).toArray:=by rw[<-hvs];apply rY.1;simp
  simp only[resolve,hc,hvf,wu,dY,fD,dr,invoke,nP hok,e2]
 have hgs:g s=aD ⟨ty,esz,cells.map .p⟩:=aH;unfold ai at hv;obtain⟨q,cap,hρ,⟨_,_,hk0,_⟩|⟨b,o',c',rfl,rfl,h5,h6,h7⟩⟩:=hv
 .omega
 obtain⟨rfl,rfl⟩:=h7 rfl;obtain⟨hBb,arr,hO⟩:=hs.at hgs hρ;have hL:Lent (λb' o u=>w.cell? ⟨b',o,aM⟩=aD u/\b'≠b) w b c' ty esz cells arr:=by refine⟨hO.blk,λh=>aC,λh=>by simpa using hO.row h,λi x hi=> ?_⟩;obtain⟨u,h1,h2,h3⟩:=hO.cells i (.p x) aH;unfold ai at h3;exact⟨u,h1,h2,bE.mono (λb' o v h=>⟨h.1,λe=>by subst e;have:=h.2.1 s c' hρ;grind⟩) x u h3⟩
 have hcN:aA cells<=arr.size:=by simpa using(hO.row he).2.1
 unfold cv;rw[hrun];dsimp only;refine(hcall _ w b c' arr us aH hL h5 (M9 hs hgs hρ hA aH hus)).mono ?_;rintro e w' ⟨arr',rfl,hblk,hsz,hcells,hG⟩;generalize hnS:sit n 0=nS at*;have hsn:s≠nS:=λe=>aH
 let ρ':Ren:=λt=>if t=nS then aD (aD b,c')else ρ t
 have hρn:ρ' nS=aD (aD b,c'):=if_pos rfl;have hρs:∀t,t≠nS->ρ' t=ρ t:=aH;have hext:∀t q,ρ t=aD q->ρ' t=aD q:=aH;have hlk:∀t,t≠s->t≠nS->[(s,aM),(nS,aD (⟨ty,esz,cells'.map .p⟩:Ob))].lookup t=aM:=by intro t h1 h2;simp[jS,beq_eq_false_iff_ne.2 h1,beq_eq_false_iff_ne.2 h2]
 have hup:∀t,t≠s->t≠nS->bM g [(s,aM),(nS,aD ⟨ty,esz,cells'.map .p⟩)] t=g t:=by intro t h1 h2;unfold bM;rw[hlk t h1 h2]
 have hups:bM g [(s,aM),(nS,aD ⟨ty,esz,cells'.map .p⟩)] s=aM:=by unfold bM;simp[jS]
 have hold:∀k,k<w.heap.size->k≠b->w'.heap[k]? =w.heap[k]? :=λk h1 h2=>hG.block k h1 aH;have hmono:∀b' o' x,bV C0 B w ρ g b' o' x->bV C0 B w' ρ' (bM g [(s,aM),(nS,aD ⟨ty,esz,cells'.map .p⟩)]) b' o' x:=by
  intro b' o' x ⟨e1,e2,e0⟩;have hne:b'≠b:=λe=>aH;refine⟨(kc (hold b' (lj w ⟨b',o',aM⟩ e1) hne)).trans e1,?_,e0⟩;intro t c2 e3;by_cases h1:t=nS
  .grind
  .grind
 refine⟨_,rfl,ρ',aH,hmono,?_,by unfold ai;grind,⟨hG.os,hG.tape,hG.output,hG.size,aH⟩⟩;refine hs.step aH hext hmono ?_ ?_ λk es clock hk=>hold k (vp hk) (x8 hk hO.blk)
 .intro t ob b' c2 e1 e2 e3;obtain⟨_,arr2,e4⟩:=hs.at e2 e3;refine hold b' e4.lt λe=> ?_;subst e;have:=hs.inj t s ob _ b' c2 c' e2 hgs e3 hρ;grind
 .intro t ob e1;have e2:t=nS:=by
   rcases rb t nS with h1|h1
   .grind
   .exact h1
  subst e2;have e3:ob=⟨ty,esz,cells'.map .p⟩:=by simp[jS,beq_eq_false_iff_ne.2 (Ne.symm hsn)]at e1;exact e1.symm
  subst e3;obtain⟨r1,r2,r3⟩:=hO.row he;refine⟨aD b,c',hρn,.inr ⟨b,arr',rfl,hBb,⟨hblk,aH,aH,λi x hi=> ?_⟩,?_⟩⟩
  .rw[ip]at hi;cases hc2:cells'[i]? with
   |none=>grind
   |some y=>
    rw[hc2]at hi;simp only[fk,iG]at hi;subst hi;obtain⟨u,h1,h2,h3⟩:=hcells i y hc2;exact⟨u,h1,h2,by exact HU aH h3⟩
  .intro t' ob' c2 hne hg' hr';rw[hρs t' hne]at hr';by_cases h2:t'=s
   .grind
   .rw[hup t' h2 hne]at hg';exact h2 (hs.inj t' s ob' _ b c2 c' hg' hgs hr' hρ)
def O7{c:Call}{f:Operand}{fid:FuncId}{s k ty esz:Nat}{rest:List AV}{A cells cells':List PV}(ho:o.op= .call c)(hc:c.callee= .value f)(hfv:E f= .p (.fn (.func fid) [] []))
  (hargs:c.args.toList.map E= .own s 0 k::rest) (hob:σ s=aD ⟨ty,esz,cells.map .p⟩) (he:esz≠0) (hk:0<k) (hA:fM (jJ 3 σ) rest=aD A) (hns:s∉bl (iM 3 σ) rest) (hfl:cells'.all flat1=aE) (hS:pS P fid (aD k) A ty esz cells cells'):
  bq P o E σ n .undef (s::bl (iM 3 σ) rest) [(s,aD ⟨ty,esz,cells'.map .p⟩)] :=by
 have hfm:f∈o.op.operands.toList:=by rw[ho];simp[dM,k9,hc]
 have ham:∀x∈c.args.toList,x∈o.op.operands.toList:=by intro x hx;rw[ho];simp[dM,k9];exact .inr aH
 obtain⟨hok,hlen,hcall,_⟩:=hS;intro C0 ρ g V w B hs hB hR hn hgn hE;have hl:∀l:List Operand,(∀x∈l,x∈o.op.operands.toList)->bY ρ (bV C0 B w ρ g) (l.map E) (l.map (bj V)):=by
  intro l;induction l with
  |nil=>intro _;rfl
  |cons x l ih=>
   unfold bY;grind
 have hall:=hl _ ham;rw[hargs]at hall;obtain⟨v,us,hvs,hv,hus⟩:=hall;have hvf:bj V f= .func (.func fid) #[] #[] :=by have:=hE f hfm;rw[hfv]at this;unfold ai bE at this;obtain⟨v1,v2,h1,h2,h3⟩:=this;unfold bk at h2 h3;rw[h1,h2,h3]
 have hrun:(execOp (bj V) o).run P w= .ok (.enter fid (v::us).toArray) w:=by
  unfold execOp;rw[ho];have e2: #[] ++wq (bj V) c.args++ #[] =(v::us).toArray:=by rw[<-hvs];apply rY.1;simp
  simp only[resolve,hc,hvf,wu,dY,fD,dr,invoke,nP hok,e2]
 have hgs:g s=aD ⟨ty,esz,cells.map .p⟩:=aH;obtain⟨q,cap,hρ,⟨_,_,hk0,_⟩|⟨b,o',c',rfl,rfl,h5,h6,h7⟩⟩:=hv
 .omega
 obtain⟨rfl,rfl⟩:=h7 rfl;obtain⟨hBb,arr,hO⟩:=hs.at hgs hρ;have hL:Lent (λb' o u=>w.cell? ⟨b',o,aM⟩=aD u/\b'≠b) w b c' ty esz cells arr:=by refine⟨hO.blk,λh=>aC,λh=>by simpa using hO.row h,λi x hi=> ?_⟩;obtain⟨u,h1,h2,h3⟩:=hO.cells i (.p x) aH;unfold ai at h3;exact⟨u,h1,h2,bE.mono (λb' o v h=>⟨h.1,λe=>by subst e;have:=h.2.1 s c' hρ;grind⟩) x u h3⟩
 unfold cv;rw[hrun];refine(hcall _ w b c' arr us aH hL aH (M9 hs hgs hρ hA aH hus)).mono ?_;rintro e w' ⟨arr',rfl,hL',hG⟩;have hlk:∀t,t≠s->[(s,aD (⟨ty,esz,cells'.map .p⟩:Ob))].lookup t=aM:=by intro t h1;simp[jS,beq_eq_false_iff_ne.2 h1]
 have hup:∀t,t≠s->bM g [(s,aD ⟨ty,esz,cells'.map .p⟩)] t=g t:=by intro t h1;unfold bM;rw[hlk t h1]
 have hold:∀k,k<w.heap.size->k≠b->w'.heap[k]? =w.heap[k]? :=λk h1 h2=>hG.block k h1 aH;have hmono:∀b' o' x,bV C0 B w ρ g b' o' x->bV C0 B w' ρ (bM g [(s,aD ⟨ty,esz,cells'.map .p⟩)]) b' o' x:=by
  intro b' o' x ⟨e1,e2,e0⟩;have hne:b'≠b:=λe=>aH;refine⟨(kc (hold b' (lj w ⟨b',o',aM⟩ e1) hne)).trans e1,?_,e0⟩;intro t c2 e3;by_cases h2:t=s
  .grind
  .grind
 refine⟨_,rfl,ρ,λ_ _=>rfl,hmono,?_,by rfl,⟨hG.os,hG.tape,hG.output,hG.size,aH⟩⟩;refine hs.step aH (λ_ _ h=>h) hmono ?_ ?_ λk es clock hk=>hold k (vp hk) (x8 hk hO.blk)
 .intro t ob b' c2 e1 e2 e3;obtain⟨_,arr2,e4⟩:=hs.at e2 e3;refine hold b' e4.lt λe=> ?_;subst e;have:=hs.inj t s ob _ b' c2 c' e2 hgs e3 hρ;grind
 .intro t ob e1;have e2:t=s:=by
   rcases rb t s with h1|h1
   .grind
   .exact h1
  subst e2;have e3:ob=⟨ty,esz,cells'.map .p⟩:=by simp[jS]at e1;exact e1.symm
  subst e3;refine⟨aD b,c',hρ,.inr ⟨b,arr',rfl,hBb,⟨hL'.blk,aH,λh=>by simpa using hL'.row h,λi x hi=> ?_⟩,?_⟩⟩
  .rw[ip]at hi;cases hc2:cells'[i]? with
   |none=>grind
   |some y=>
    rw[hc2]at hi;simp only[fk,iG]at hi;subst hi;obtain⟨u,h1,h2,h3⟩:=hL'.cells i y hc2;exact⟨u,h1,h2,by exact HU aH h3⟩
  .intro t' ob' c2 hne hg' hr';rw[hup t' hne]at hg';exact hne (hs.inj t' t ob' _ b c2 c' hg' hgs hr' hρ)
end
def gG(x y:Int):Int:=if x<y then-1 else if y<x then 1 else 0
def aFJ(ax ay bx b_y:Int)(w:World):iT bi (binOp .eql 44 (.agg #[.int .i64 ax,.int .i64 ay]) (.agg #[.int .i64 bx,.int .i64 b_y])) w= .ok (.bool (ax==bx&&ay==b_y)) w:=by
 have u3:=Tryz.underlying3;have a3:=Tryz.isAgg3;have z3:=Tryz.sizeOf3;have hS:bi.underlying 44=aD (.struct (bi.fieldsOf 44)):=by kernel_rfl
 have hp:bi.stoodInHeld 44=aK:=by kernel_rfl
 rw[run_eql_struct,show(10000:Nat)=9999+1 from rfl,run_equalIn_agg w 9999 44 _ _ hS hp];simp only[Program.fieldsOf,Tryz.underlying44]
 go_simp
 grind
section
def iR(r:List V):List PV:=r.flatMap λv=>[.int .i64 v.x,.int .i64 v.y]
def FC(l:List S):List PV:=l.flatMap λs=>[.int .i64 s.a.x,.int .i64 s.a.y,.int .i64 s.b.x,.int .i64 s.b.y]
def jK(r:List V):PV:= .sl (aA r) (iR r)
def KL(l:List S):PV:= .sl (aA l) (FC l)
def sL(l:List aU):PV:= .sl (aA l) (l.map jK)
def m5(s:Shape):PV:= .agg [jK s.outer,sL s.holes]
def mZ{α:Type}(m:Nat)(enc:List α->List PV)(e:α->List PV):Prop:=∀l,enc l=l.flatMap e/\∀x,aA (e x)=m
section
variable {α:Type} {m:Nat} {enc:List α->List PV} {e:α->List PV}
def mZ.length(h:mZ m enc e)(l:List α):aA (enc l)=aA l*m:=by
 rw[(h l).1];induction l with
 |nil=>simp
 |cons x l ih=>simp only[fw,List.length_append,ih,(h []).2 x,iE,Bo];omega
def mZ.append(h:mZ m enc e)(l k:List α):enc (l++k)=enc l++enc k:=by rw[(h _).1,(h l).1,(h k).1,List.flatMap_append]
def mZ.at(h:mZ m enc e)(l:List α)(i:Nat)(hi:i<aA l):((enc l).drop (i*m)).take m=e l[i] :=by
 have h1:l=l.take i++l[i] ::l.drop (i+1):=by rw[List.getElem_cons_drop];simp
 have h2:enc l=enc (l.take i)++(e l[i] ++enc (l.drop (i+1))):=by
  conv=>lhs;rw[h1]
  rw[h.append,(h (l[i] ::_)).1,fw,<-(h _).1]
 have h3:=h.length (l.take i);rw[mK,Lo aC]at h3;rw[h2,<-h3,List.drop_left,<-(h []).2 l[i],Fe]
def mZ.take(h:mZ m enc e)(l:List α)(k:Nat):(enc l).take (k*m)=enc (l.take k):=by
 by_cases hk:k<=aA l
 .have h3:=h.length (l.take k);rw[mK,Lo hk]at h3
  conv=>lhs;rw[<-vD k l,h.append,<-h3,Fe]
 .rw[jB (by rw[h.length];exact Bp _ aC),jB aC]
def mZ.drop(h:mZ m enc e)(l:List α)(k:Nat):(enc l).drop (k*m)=enc (l.drop k):=by
 by_cases hk:k<=aA l
 .have h3:=h.length (l.take k);rw[mK,Lo hk]at h3
  conv=>lhs;rw[<-vD k l,h.append,<-h3,List.drop_left]
 .have e1:l.drop k=[] :=WC aC;rw[e1,WC (by rw[h.length];exact Bp _ aC),(h []).1];rfl
end
def yH:mZ 2 iR λv=>[.int .i64 v.x,.int .i64 v.y] :=λ_=>⟨rfl,λ_=>rfl⟩
def aFq:mZ 4 FC λs=>[.int .i64 s.a.x,.int .i64 s.a.y,.int .i64 s.b.x,.int .i64 s.b.y] :=λ_=>⟨rfl,λ_=>rfl⟩
variable{i:Nat}
def nth_eq{v:List V}(h:i<aA v):aI7 v i=v[i] :=by unfold aI7;grind
def aD5{v:List V}(h:i<aA v):((iR v).drop (i*2)).take 2=[.int .i64 (aI7 v i).x,.int .i64 (aI7 v i).y] :=by rw[nth_eq h];exact yH.at v i h
def aCx:BD bi 44 2:=by
 intro xs ys x y w hx hy;match xs,ys,hx,hy with
 |[a,b],[c,d],_,_=>
  have h1:=aFJ a b c d w;refine⟨?_,?_⟩
  .simp[eqGuard,h1]
  .simp[eqGuard];rw[run_neq_struct];rw[run_eql_struct]at h1;revert h1;generalize iT bi (Op.equalIn 10000 44 (Value.agg #[dN kJ a,dN kJ b]) (Value.agg #[dN kJ c,dN kJ d])) w=R;intro h1;cases R with
   |ok q w'=>
    obtain⟨rfl,rfl⟩:=h1;simp[Br];grind
   |_=>simp_all
def az(l:List S)(i:Nat):S:=l.getD i default
def bC(l:List (Nat×Nat))(i:Nat):Nat×Nat:=l.getD i default
def dj(l:List Int)(i:Nat):Int:=l.getD i 0
def aF7(l:List Bool)(i:Nat):Bool:=l.getD i aK
def qt{α:Type}{l:List α}{d:α}(h:i<aA l):l.getD i d=l[i] :=aH
def iV{l:List S}(h:i<aA l):az l i=l[i] :=qt h
def jz{l:List aU}(h:i<aA l):aP l i=l[i] :=qt h
def om{l:List (Nat×Nat)}(h:i<aA l):bC l i=l[i] :=qt h
def DB{l:List S}(h:i<aA l):az l i∈l:=by rw[iV h];grind
section
variable {α:Type} {m:Nat} {enc:List α->List PV} {e:α->List PV}
def mZ.sub(h:mZ m enc e)(l:List α){k:Nat}(hk:k<aA l)(j n:Nat)(hj:j+n<=m):((enc l).drop (k*m+j)).take n=((e l[k]).drop j).take n:=by
 have h1:=h.at l k hk;have h2:(((enc l).drop (k*m)).drop j).take n=((((enc l).drop (k*m)).take m).drop j).take n:=by
  rw[List.drop_take,List.take_take]
  congr 1;omega
 simp_all
end
section
variable {α:Type} {m:Nat} {enc:List α->List PV} {e:α->List PV}
end
def BI:(∀a b:Bool,((a&&b)=aE)=(a=aE/\b=aE))/\(∀a b:Bool,((a||b)=aE)=(a=aE\/b=aE))/\(∀a b:Bool,((a&&b)=aK)=(a=aK\/b=aK))/\(∀a b:Bool,((a||b)=aK)=(a=aK/\b=aK))/\(∀b:Bool,((!b)=aE)=(b=aK))/\(∀b:Bool,((!b)=aK)=(b=aE))/\(∀(p:Prop) [Decidable p],(decide p=aE)=p)/\(∀(p:Prop) [Decidable p],(decide p=aK)=¬p)/\(∀{α:Type} [BEq α] [LawfulBEq α] (a b:α),((a==b)=aE)=(a=b))/\(∀{α:Type} [BEq α] [LawfulBEq α] (a b:α),((a==b)=aK)=(a≠b))/\(∀{α:Type} [BEq α] [LawfulBEq α] (a b:α),((a !=b)=aE)=(a≠b))/\(∀{α:Type} [BEq α] [LawfulBEq α] (a b:α),((a !=b)=aK)=(a=b)):=
 ⟨af,af,af,af,af,af,aH,aH,λa b=>af,λa b=>af,λa b=>af,λa b=>af⟩
end
noncomputable section
inductive Fm:Type 1
 |tt
 |stuck (n:Nat)
 |need (p:Prop) (f:Fm)
 |imp (p:Prop) (f:Fm)
 |both (f g:Fm)
 |all (X:Type) (f:X->Fm)
 |ex (X:Type) (f:X->Fm)
def Fm.isTT:Fm->Bool
 | .tt=>aE
 |_=>aK
def Fm.holds:Fm->Prop
 | .tt=>True
 | .stuck _=>False
 | .need p f=>(match f.isTT with|true=>p|false=>p/\f.holds)
 | .imp p f=>p->f.holds
 | .both f g=>(match f.isTT,g.isTT with|true,_=>g.holds|false,aE=>f.holds|false,aK=>f.holds/\g.holds)
 | .all X f=>∀x:X,(f x).holds
 | .ex X f=>∃x:X,(f x).holds
def Fm.J8{f:Fm}(h:f.isTT=aE):f.holds:=by cases f<;>first|trivial|cases h
def Fm.YW{p:Prop}{f:Fm}(h:(Fm.need p f).holds):p/\f.holds:=by
 unfold Fm.holds at h;split at h
 .rename_i e;exact⟨h,Fm.J8 e⟩
 .exact h
def Fm.xK{f g:Fm}(h:(Fm.both f g).holds):f.holds/\g.holds:=by
 unfold Fm.holds at h;split at h
 .rename_i e;exact⟨Fm.J8 e,h⟩
 .rename_i e;exact⟨h,Fm.J8 e⟩
 .exact h
def uZ:List Prop->Fm->Fm
 |[],f=>f
 |p::l,f=> .need p (uZ l f)
def vH:∀{l:List Prop} {f:Fm},(uZ l f).holds->(∀p∈l,p)/\f.holds
 |[],f,h=>⟨aH,h⟩
 |q::l,f,h=>by
  obtain⟨h1,h2⟩:=Fm.YW h;obtain⟨h3,h4⟩:=vH h2;grind
def rN:List Prop->Prop
 |[] =>True
 |[p] =>p
 |p::l=>p/\rN l
def lI:∀{l:List Prop},rN l↔∀p∈l,p
 |[] =>⟨aH,λ_=>trivial⟩
 |[p] =>⟨λh q hq=>(by rw[cI.1 hq];exact h),λh=>h p aH⟩
 |p::q::l=>by
  show p/\rN (q::l)↔_;rw[lI];exact⟨aH,λh=>⟨h p aH,aH⟩⟩
def Kx(l:List Prop)(f:Fm):Fm:=match l with
 |[] =>f
 |p::l=> .imp (rN (p::l)) f
def NY{l:List Prop}{f:Fm}(h:(Kx l f).holds)(hl:∀p∈l,p):f.holds:=by
 cases l with
 |nil=>exact h
 |cons p l=>exact(h:rN (p::l)->_) (lI.2 hl)
inductive LT where
 |V|S|R|I|B|P|Q
deriving DecidableEq
@[reducible] def LT.ty : LT → Type
  | .V => Geo.V
  | .S => Geo.S
  | .R => aU
  | .I => Int
  | .B => Bool
  | .P => Nat × Nat
  | .Q => List Int
def LT.w:LT->Nat
 | .V=>2
 | .S=>4
 | .R=>1
 | .I=>1
 | .B=>1
 | .P=>2
 | .Q=>1
def K7(l:List Int):List PV:=l.flatMap λn=>[.int .i64 n]
def bK(l:List (List Int))(i:Nat):List Int:=l.getD i []
def LT.rowP:(t:LT)->t.ty->List PV
 | .V=>λv=>[.int .i64 v.x,.int .i64 v.y]
 | .S=>λs=>[.int .i64 s.a.x,.int .i64 s.a.y,.int .i64 s.b.x,.int .i64 s.b.y]
 | .R=>λr=>[.sl (aA r) (iR r)]
 | .I=>λn=>[.int .i64 n]
 | .B=>λb=>[.bool b]
 | .P=>λp=>[.int .i64 p.1,.int .i64 p.2]
 | .Q=>λr=>[.sl (aA r) (K7 r)]
def LT.enc(t:LT)(l:List t.ty):List PV:=l.flatMap t.rowP
def LT.wide(t:LT):mZ t.w t.enc t.rowP:=λ_=>⟨rfl,λx=>by cases t<;>rfl⟩
def LT.mS(t:LT):0<t.w:=by cases t<;>decide
def LT.nth:(t:LT)->List t.ty->Nat->t.ty
 | .V=>aI7
 | .S=>az
 | .R=>aP
 | .I=>dj
 | .B=>aF7
 | .P=>bC
 | .Q=>bK
def LT.nth_eq(t:LT)(l:List t.ty){i:Nat}(h:i<aA l):t.nth l i=l[i] :=by
 cases t
 .exact Go.Proofs.YthbofdolalagjaaGreat.nth_eq h
 .exact iV h
 .exact jz h
 .exact qt h
 .exact qt h
 .exact om h
 .exact qt h
inductive SV where
 |any|undef|nil
 |int (k:IntKind) (n:Int)
 |bool (b:Bool)
 |lit (b:Bool)
 |prop (p:Prop) (d:Decidable p)
 |str (s:ByteArray)
 |agg (l:List SV)
 |tup (l:List SV)
 |lst (t:LT) (l:List t.ty)
 |sl (n:Nat) (cells:List SV)
 |pe (t:LT) (l:List t.ty) (i off:Nat)
 |pro (cells:List SV) (off:Nat)
 |fn (f:Nat) (first caps:List SV)
 |fnp (f:Nat) (first caps:List SV)
 |clo1 (pv:PV) (t:LT) (q:t.ty->Bool) (dom:t.ty->Prop)
 |clo2 (pv:PV) (t:LT) (q:t.ty->t.ty->Int) (dom:t.ty->t.ty->Prop)
 |ptr (s off:Nat)
 |pte (s:Nat) (t:LT) (i off:Nat)
 |own (s:Nat) (t:LT) (n:Nat)
 |owns (s:Nat) (t:LT) (o n:Nat)
 |ownx (s n:Nat)
 |ptb (F:Nat->Bool) (n off:Nat)
 |ownf (x:Nat) (t:LT) (a n:Nat)
 |ptef (x:Nat) (t:LT) (a i off:Nat)
 |ptf (x a:Nat)
 |owF (x n:Nat)
 |junk
 |mp (s:Nat)
def NM:Nat:=1000000
def ncl(x:Nat):Nat:=x % NM
def idx(s:Nat):Nat:=(s/2^cls s-1)/2
def JD(n i:Nat):idx (sit n i)=i:=by unfold idx;rw[jV];unfold sit;rw[Nat.mul_div_cancel_left _ aH];omega
def Q7(n i:Nat):0<sit n i:=Nat.mul_pos aH aC
structure Sites where
 inn:Nat->Nat->Nat
 nm:Nat->Nat
 sub:Nat->Nat
 h1:∀x a,nm (inn x a)=x
 h2:∀x a,sub (inn x a)=a
 h3:∀x a,cls (inn x a)=ncl x
 h4:∀x,x<NM->inn x 0=sit x 0
theorem YG:Nonempty Sites:=⟨⟨λx a=>sit (x % NM) (sit (x/NM) a-1),λs=>cls (idx s+1)*NM+cls s,λs=>idx (idx s+1),
 λx a=>by rw[JD,jV,LO (Q7 _ _),jV];exact Nat.div_add_mod' x NM,
 λx a=>by rw[JD,LO (Q7 _ _),JD],
 λx a=>jV _ _,
 λx h=>by rw[Nat.mod_eq_of_lt h,Nat.div_eq_of_lt h];rfl⟩⟩
def sites:Sites:=Classical.choice YG
def inn(x a:Nat):Nat:=sites.inn x a
def aa(x:Nat):Nat:=inn x 0
def nm(s:Nat):Nat:=sites.nm s
def sub(s:Nat):Nat:=sites.sub s
def vo(x a:Nat):nm (inn x a)=x:=sites.h1 x a
def vf(x a:Nat):sub (inn x a)=a:=sites.h2 x a
def gm(x a:Nat):cls (inn x a)=ncl x:=sites.h3 x a
def gZ{x y a b:Nat}(h:inn x a=inn y b):x=y/\a=b:=⟨by rw[<-vo x a,h,vo],by rw[<-vf x a,h,vf]⟩
def nV{x y:Nat}(h:aa x=aa y):x=y:=(gZ h).1
def CW{x:Nat}(h:x<NM):aa x=sit x 0:=sites.h4 x h
def Ep(n:Nat)(F:Nat->Bool):List PV:=(bT n).map λk=> .bool (F k)
variable{n:Nat}
def aBg(F:Nat->Bool){k:Nat}(h:k<n):(Ep n F)[k]? =aD (.bool (F k)):=by unfold Ep;grind
def l7(l:List AV):AV:=match bm l with|some q=> .p (.tup q)|none=> .tup l
mutual
def SV.av:SV->AV
 | .any=> .any
 | .undef=> .undef
 | .nil=> .nil
 | .int k n=> .p (.int k n)
 | .bool b=> .p (.bool b)
 | .lit b=> .p (.bool b)
 | .prop p d=> .p (.bool (@decide p d))
 | .str s=> .p (.str s)
 | .agg l=>fg (avs l)
 | .tup l=>l7 (avs l)
 | .lst t l=> .p (.sl (aA l) (t.enc l))
 | .sl n cs=>(match bm (avs cs)with|some q=> .p (.sl n q)|none=> .any)
 | .pe t l i off=> .p (.pro (t.enc l) (i*t.w+off))
 | .pro cs off=>(match bm (avs cs)with|some q=> .p (.pro q off)|none=> .any)
 | .fn f a b=> .fn (.func f) (avs a) (avs b)
 | .fnp f a b=>(match bm (avs a),bm (avs b)with|some x,aD y=> .p (.fn (.func f) x y)|_,_=> .any)
 | .clo1 pv _ _ _=> .p pv
 | .clo2 pv _ _ _=> .p pv
 | .ptr s off=> .ptr (aa s) off
 | .pte s t i off=> .ptr (aa s) (i*t.w+off)
 | .own s _ n=> .own (aa s) 0 n
 | .owns s t o n=> .own (aa s) (o*t.w) n
 | .ownx s n=> .own (aa s) 0 n
 | .ptb F n off=> .p (.pro (Ep n F) off)
 | .ownf x _ a n=> .own (inn x (a+1)) 0 n
 | .ptef x t a i off=> .ptr (inn x (a+1)) (i*t.w+off)
 | .ptf x a=> .ptr (aa x) a
 | .owF x n=> .own (aa x) 0 n
 | .junk=> .p .junk
 | .mp s=> .mp (aa s)
def avs:List SV->List AV
 |[] =>[]
 |x::l=>x.av::avs l
end
def kQ:∀l:List SV,avs l=l.map SV.av
 |[] =>rfl
 |x::l=>by rw[avs,kQ l];rfl
def lD(l:List SV):aA (avs l)=aA l:=by rw[kQ,dq]
def vN(l m:List SV):avs (l++m)=avs l++avs m:=by rw[kQ,kQ,kQ,dV]
def Ib(l:List SV)(k:Nat):avs (l.drop k)=(avs l).drop k:=by rw[kQ,kQ,Ff]
def Ia(l:List SV)(k:Nat):avs (l.take k)=(avs l).take k:=by rw[kQ,kQ,Fg]
def Ah(l:List SV)(k:Nat):(avs l)[k]? =(l[k]?).map SV.av:=by rw[kQ,ip]
def SN(l:List SV)(k:Nat)(x:SV):avs (l.set k x)=(avs l).set k x.av:=by rw[kQ,kQ,List.map_set]
def LT.row:(t:LT)->t.ty->List SV
 | .V=>λv=>[.int .i64 v.x,.int .i64 v.y]
 | .S=>λs=>[.int .i64 s.a.x,.int .i64 s.a.y,.int .i64 s.b.x,.int .i64 s.b.y]
 | .R=>λr=>[.lst .V r]
 | .I=>λn=>[.int .i64 n]
 | .B=>λb=>[.bool b]
 | .P=>λp=>[.int .i64 p.1,.int .i64 p.2]
 | .Q=>λr=>[.lst .I r]
def LT.D6(t:LT)(x:t.ty):avs (t.row x)=(t.rowP x).map .p:=by cases t<;>rfl
def LT.dec:(t:LT)->List SV->Option t.ty
 | .V,[.int .i64 x,.int .i64 y] =>aD ⟨x,y⟩
 | .S,[.int .i64 a,.int .i64 b,.int .i64 c,.int .i64 d] =>aD ⟨⟨a,b⟩,⟨c,d⟩⟩
 | .R,[.lst .V r] =>aD r
 | .R,[.nil] =>aM
 | .I,[.int .i64 n] =>aD n
 | .Q,[.lst .I r] =>aD r
 | .B,[.bool b] =>aD b
 | .B,[.lit b] =>aD b
 | .B,[.prop p d] =>aD (@decide p d)
 | .P,[.int .i64 (.ofNat a),.int .i64 (.ofNat b)] =>aD (a,b)
 |_,_=>aM
def LT.A9{t:LT}{cs:List SV}{x:t.ty}(h:t.dec cs=aD x):avs cs=(t.rowP x).map .p:=by unfold LT.dec at h;split at h<;>first|(cases h;done)|(cases h;rfl)
def LT.decs(t:LT):Nat->List SV->Option (List t.ty)
 |0,[] =>aD []
 |0,_=>aM
 |n+1,cs=>match t.dec (cs.take t.w),t.decs n (cs.drop t.w)with
  |some x,aD l=>aD (x::l)
  |_,_=>aM
def LT.xw{t:LT}:∀{n:Nat} {cs:List SV} {l:List t.ty},t.decs n cs=aD l->aA l=n/\avs cs=(t.enc l).map .p
 |0,[],l,h=>by simp only[LT.decs,iG]at h;subst h;exact⟨rfl,rfl⟩
 |0,_::_,l,h=>by simp[LT.decs]at h
 |n+1,cs,l,h=>by
  unfold LT.decs at h;split at h
  .rename_i x l' h1 h2;cases h;obtain⟨h3,h4⟩:=LT.xw h2;have h5:=LT.A9 h1;refine⟨by simp[h3],?_⟩;have h6:avs cs=avs (cs.take t.w)++avs (cs.drop t.w):=by rw[<-vN,vD]
   rw[h6,h5,h4];simp only[LT.enc,fw,dV]
  .cases h
def eW:∀l:List PV,bm (l.map .p)=aD l
 |[] =>rfl
 |x::l=>by simp only[dU,bm,eW l,fk]
def vL(l:List PV):fg (l.map .p)= .p (.agg l):=by unfold fg;rw[eW]
def LT.sub(t:LT)(l:List t.ty){i:Nat}(h:i<aA l)(off m:Nat)(hm:off+m<=t.w):
  ((t.enc l).drop (i*t.w+off)).take m=((t.rowP (t.nth l i)).drop off).take m:=by
 rw[LT.nth_eq t l h];exact t.wide.sub l h off m hm
def LT.get(t:LT)(l:List t.ty){i:Nat}(h:i<aA l)(off:Nat)(hm:off<t.w):
  (t.enc l)[i*t.w+off]? =(t.rowP (t.nth l i))[off]? :=by
 have h1:=congrArg (λl=>l[0]?) (LT.sub t l h off 1 aC);grind
def svK:Value->SV
 | .int k n=> .int k n
 | .bool b=> .lit b
 | .string s=> .str s
 | .slice aM 0 0=> .nil
 |_=> .any
def SX(v:Value):(svK v).av=mR v:=by unfold svK;split<;>simp only[SV.av,mR]
def Iq:∀vs:List Value,avs (vs.map svK)=vs.map mR
 |[] =>rfl
 |v::vs=>by simp only[dU,avs,SX,Iq vs]
def svC:Value->SV
 | .agg cs=>if cs.toList.all (·.oneCell')=aE then .agg (cs.toList.map svK)else .any
 | .tuple vs=>if vs.toList=[]then .undef else .any
 |v=>svK v
def aED(v:Value):(svC v).av=vh v:=by
 unfold svC;split
 .split<;>rename_i h<;>simp only[vh,SV.av,Iq,h] <;>rfl
 .split<;>rename_i h<;>simp only[vh,SV.av,h,if_true,if_false]
 .rw[SX];unfold vh;grind
abbrev Frm:=List (Nat×SV)
def Frm.at:Frm->Nat->SV
 |[],_=> .undef
 |(d,v)::F,t=>match bZ t d with|true=>v|false=>Frm.at F t
def Frm.n9(d:Nat)(v:SV)(F:Frm)(t:Nat):Frm.at ((d,v)::F) t=if t=d then v else Frm.at F t:=by
 conv=>lhs;unfold Frm.at
 split
 .simp_all
 .rename_i h;rw[if_neg (oc h)]
def Frm.av(n:Nat)(F:Frm):List AV:=(bT n).map λt=>(F.at t).av
def Frm.ke(n:Nat)(F:Frm):aA (F.av n)=n:=by simp[Frm.av]
def Frm.o8{F:Frm}{t:Nat}(h:t<n):(F.av n).getD t .any=(F.at t).av:=by unfold Frm.av;grind
def Frm.aFl{F:Frm}{d:Nat}{v:SV}(h:d<n):fh (F.av n) (aD d) v.av=Frm.av n ((d,v)::F):=by
 unfold fh;apply FY;intro i;rw[Bm];by_cases hi:i<n
 .by_cases e:d=i
  .subst e;rw[if_pos rfl,if_pos (by rw[Frm.ke];exact h)];unfold Frm.av;rw[ip,Ll h,fk,Frm.n9,if_pos rfl]
  .rw[if_neg e];unfold Frm.av;rw[ip,ip,Ll hi,fk,fk,Frm.n9,if_neg aH]
 .have h1:(Frm.av n ((d,v)::F))[i]? =aM:=oZ (by rw[Frm.ke];omega);have h2:(F.av n)[i]? =aM:=oZ (by rw[Frm.ke];omega);grind
def wG(n:Nat)(F:Frm):Operand->SV
 | .tmp t=>(match jt t n with|true=>F.at t|false=> .any)
 | .const v=>svC v
 | .func f=> .fnp f [] []
 | .global _=> .any
def IU{F:Frm}(x:Operand):(wG n F x).av=l9 (F.av n) x:=by
 cases x with
 |tmp t=>
  show(match jt t n with|true=>F.at t|false=>SV.any).av=(F.av n).getD t .any;cases h:jt t n with
  |true=>rw[Frm.o8 jc]
  |false=>
   have h2:¬(t+1<=n):=λhh=>by have:=Nat.ble_eq_true_of_le hh;rw[show jt t n=ph (t+1) n from rfl]at h;grind
   rw[fY,oZ (by rw[Frm.ke];grind)];rfl
 |const v=>exact aED v
 |func f=>rfl
 |global g=>rfl
inductive SOb where
 |box (ty:TypeId) (cells:List SV)
 |row (ty:TypeId) (t:LT) (l:List t.ty)
 |arr (ty esz:Nat) (cells:List SV)
 |fam (ty ity:TypeId) (t:LT) (L:List (List t.ty)) (ov:List (Nat×SV))
 |mp (ks:List (Nat×Nat))
def kE(x:Nat){α:Type}(L:List (List α))(ov:List (Nat×SV))(i:Nat):AV:=match ov.lookup i with
 |some v=>v.av
 |none=> .own (inn x (i+1)) 0 (aA (L.getD i []))
def iz(ks:List (Nat×Nat)):List (List Int×AV):=ks.map λk=>([(k.1:Int),(k.2:Int)],.p (.bool aE))
def vR:∀ks:List (Nat×Nat),ic (iz ks)=(ks.flatMap λk=>[PV.agg (nF [(k.1:Int),(k.2:Int)]),.bool aE]).map .p
 |[] =>rfl
 |k::ks=>by
  have:=vR ks;unfold ic iz at*;grind
def SOb.ob(x:Nat):SOb->Ob
 | .box ty cs=>⟨ty,0,avs cs⟩
 | .row ty t l=>⟨ty,t.w,(t.enc l).map .p⟩
 | .arr ty esz cs=>⟨ty,esz,avs cs⟩
 | .fam ty _ _ L ov=>⟨ty,1,(bT (aA L)).map (kE x L ov)⟩
 | .mp ks=>⟨1,0,ic (iz ks)⟩
def SOb.inner(a:Nat):SOb->Option Ob
 | .fam _ ity t L ov=>(match ov.lookup a with|some _=>aM|none=>(L[a]?).map λl=>⟨ity,t.w,(t.enc l).map .p⟩)
 |_=>aM
def SOb.flat:SOb->Bool
 | .fam .. =>aK
 |_=>aE
def SOb.Ca{ob:SOb}(h:ob.flat=aE)(a:Nat):ob.inner a=aM:=by cases ob<;>first|rfl|cases h
abbrev ag:=List (Nat×Option SOb)
def ag.at:ag->Nat->Option SOb
 |[],_=>aM
 |(k,x)::L,s=>match bZ s k with|true=>x|false=>ag.at L s
abbrev Sg:=Nat->Option SOb
open Classical in
def Sg.a(σ:Sg):Sto:=λs=>if inn (nm s) (sub s)=s then(match sub s with
 |0=>(σ (nm s)).map (SOb.ob (nm s))
 |a+1=>(σ (nm s)).bind (SOb.inner a))else aM
def Sg.ct(σ:Sg)(x:Nat):σ.a (aa x)=(σ x).map (SOb.ob x):=by unfold Sg.a aa;rw[vf,vo,if_pos rfl]
def Sg.iB(σ:Sg)(x a:Nat):σ.a (inn x (a+1))=(σ x).bind (SOb.inner a):=by unfold Sg.a;rw[vf,vo,if_pos rfl]
def Sg.lZ(σ:Sg){s:Nat}(h:∀x a,s≠inn x a):σ.a s=aM:=by unfold Sg.a;grind
def mN(s:Nat):(∃x,s=aa x)\/(∃x a,s=inn x (a+1))\/∀x a,s≠inn x a:=by
 by_cases h:∃x a,s=inn x a
 .obtain⟨x,a,rfl⟩:=h;cases a with
  |zero=>exact .inl ⟨x,rfl⟩
  |succ a=>grind
 grind
def ag.up(W:ag)(σ:Sg):Sg:=λs=>match W.lookup s with|some x=>x|none=>σ s
def ag.EO(W L:ag):W.up L.at=(W++L).at:=by
 funext s
 unfold ag.up;induction W with
 |nil=>rfl
 |cons q W ih=>
  obtain⟨k,x⟩:=q;show _=(match bZ s k with|true=>x|false=>ag.at (W++L) s);rw[eZ];cases h:bZ s k with
  |true=>simp_all
  |false=>rw[beq_eq_false_iff_ne.2 (oc h)];exact ih
def bw(σ:Sg)(rd:List Nat)(W:ag)(R':List Nat)(W':List (Nat×Option Ob)):Prop:=
 inC R' (rd.map ncl)/\inC (W'.map (·.1)) (W.map λq=>ncl q.1)/\bM σ.a W'=(W.up σ).a
def bw.read(σ:Sg)(rd:List Nat):bw σ rd [] (rd.map aa) [] :=by refine⟨λs hs=> ?_,λs hs=>aH,rfl⟩;obtain⟨x,hx,rfl⟩:=bn.1 hs;rw[show cls (aa x)=ncl x from gm x 0];grind
def frs(σ:Sg)(n:Nat):Bool:=match jt n NM,σ n with
 |true,aM=>aE
 |_,_=>aK
def o6{σ:Sg}(h:frs σ n=aE):aa n=sit n 0/\σ n=aM:=by
 unfold frs at h;split at h
 .rename_i h1 h2;exact⟨CW jc,h2⟩
 .cases h
def ss:Option SOb->Bool
 |some ob=>ob.flat
 |none=>aE
def ag.sto(W:ag):List (Nat×Option Ob):=W.map λq=>(aa q.1,q.2.map (SOb.ob q.1))
def Ya(W:ag)(x:Nat):W.sto.lookup (aa x)=(W.lookup x).map λo=>o.map (SOb.ob x):=by
 induction W with
 |nil=>rfl
 |cons q W ih=>
  obtain⟨k,o⟩:=q;show((aa k,o.map (SOb.ob k))::ag.sto W).lookup (aa x)=_;rw[eZ,eZ];by_cases h:x=k
  .subst h;simp
  .rw[beq_eq_false_iff_ne.2 h,beq_eq_false_iff_ne.2 λe=>h (nV e)];exact ih
def M5{W:ag}{s:Nat}(h:∀x,s≠aa x):W.sto.lookup s=aM:=by
 induction W with
 |nil=>rfl
 |cons q W ih=>
  show((aa q.1,q.2.map (SOb.ob q.1))::ag.sto W).lookup s=_;grind
def bw.flat{σ:Sg}{rd:List Nat}{W:ag}(h:∀q∈W,ss (σ q.1)=aE/\ss q.2=aE):bw σ rd W (rd.map aa) W.sto:=by
 refine⟨(bw.read σ rd).1,λs hs=> ?_,?_⟩
 .unfold ag.sto at hs;rw[du]at hs;obtain⟨q,hq,rfl⟩:=bn.1 hs;show cls (aa q.1)∈_;rw[show cls (aa q.1)=ncl q.1 from gm q.1 0];grind
 .funext s
  unfold bM;rcases mN s with⟨x,rfl⟩|⟨x,a,rfl⟩|hno
  .rw[Ya,Sg.ct,Sg.ct];unfold ag.up;grind
  .rw[M5 λy e=>by have:=(gZ e).2;omega,Sg.iB,Sg.iB];unfold ag.up;cases hl:W.lookup x with
   |none=>rfl
   |some o=>
    have hm:(x,o)∈W:=by
     clear h;induction W with
     |nil=>cases hl
     |cons q W ih=>
      grind
    obtain⟨h1,h2⟩:=h _ hm;have nofam:∀p:Option SOb,ss p=aE->p.bind (SOb.inner a)=aM:=λp hp=>by
     cases p with
     |none=>rfl
     |some ob=>exact SOb.Ca hp a
    grind
  .rw[M5 λy e=>hno y 0 e,Sg.lZ σ hno,Sg.lZ _ hno]
end
noncomputable section
def aX(x:Int):Prop:= -9223372036854775808<=x/\x<=9223372036854775807
def xL{x:Int}(h:aX x):kJ.wrap x=x:=by unfold aX at h;exact IntWalk.i64_in _ aC
def ix(a:Int)(n:Nat):Prop:=0<=a/\a<(n:Int)
variable{n:Nat}
def fS{k:Nat}(h:k<n):ix k n:=⟨aC,aC⟩
def iX{k:Nat}(h:0<n):ix (((k % n:Nat):Int)) n:=fS (Nat.mod_lt _ h)
abbrev SR:=Option (List Prop×SV×List Nat×ag)
abbrev SE:=Operand->SV
def SE.a(E:SE):Operand->AV:=λx=>(E x).av
def ui(P:Program)(n:Nat)(o:Oper)(E:SE)(σ:Sg)(R:SR):Prop:=
 ∀ps r rd W,R=aD (ps,r,rd,W)->(∀p∈ps,p)->AOp P n o E.a σ.a λr' R' W'=>r'=r.av/\bw σ rd W R' W'
def SV.ok:SV->Prop
 | .pe _ l i _=>i<aA l
 |_=>True
def SV.ape:SV->Bool
 | .pe .. =>aE
 |_=>aK
def SV.qJ{v:SV}(h:v.ape=aK):v.ok:=by cases v<;>first|trivial|cases h
def BB(x:SV):Option (List SV):=match x with
 | .agg l=>aD l
 | .tup _=>aM
 | .any=>aM
 | .undef=>aM
 | .sl n cs=>(match bm (avs cs)with|some _=>aD [.sl n cs] |none=>aM)
 | .pro cs o=>(match bm (avs cs)with|some _=>aD [.pro cs o] |none=>aM)
 | .fnp f a b=>(match bm (avs a),bm (avs b)with|some _,aD _=>aD [.fnp f a b] |_,_=>aM)
 | .clo1 .. =>aM
 | .clo2 .. =>aM
 | .junk=>aM
 |x=>aD [x]
def XG(l:List AV):oH (fg l)=aD l:=by
 unfold fg;cases h:bm l with
 |some q=>rw[show oH (.p (.agg q))=aD (q.map .p)from rfl,<-kN h]
 |none=>rfl
def Hg{x:SV}{l:List SV}(h:BB x=aD l):oH x.av=aD (avs l):=by
 cases x<;>simp only[BB,reduceCtorEq,iG]at h<;>first|(subst h;rfl)|skip
 .subst h;exact XG _
 .rename_i n cs;cases hq:bm (avs cs)with
  |none=>grind
  |some q=>rw[hq]at h;cases h;simp only[avs,SV.av,hq,oH]
 .rename_i cs o;cases hq:bm (avs cs)with
  |none=>grind
  |some q=>rw[hq]at h;cases h;simp only[avs,SV.av,hq,oH]
 .rename_i f a b;cases ha:bm (avs a)<;>cases hb:bm (avs b)<;>rw[ha,hb]at h<;>simp only[reduceCtorEq,iG]at h;subst h;simp only[avs,SV.av,ha,hb,oH]
def tG(cs:List SV)(off:Nat):List SV->List SV
 |[] =>cs
 |x::l=>tG (cs.set off x) (off+1) l
def AT:∀(l cs:List SV) (off:Nat),avs (tG cs off l)=i5 (avs cs) off (avs l)
 |[],cs,off=>rfl
 |x::l,cs,off=>by rw[tG,AT l,SN];rfl
def yU(place:Nat->Option (Nat×Nat))(cells:List SV):List (Nat×SV)->Option (List SV)
 |[] =>aD cells
 |(i,v)::rest=>match place i,BB v with
  |some (off,size),aD l=>(match bZ (aA l) size,ph (off+size) (aA cells) with
   |true,aE=>yU place (tG cells off l) rest
   |_,_=>aM)
  |_,_=>aM
def IS{place:Nat->Option (Nat×Nat)}:∀(parts:List (Nat×SV)) {cells l:List SV},yU place cells parts=aD l->qM place (avs cells) (parts.map λq=>(q.1,q.2.av))=aD (avs l)
 |[],cells,l,h=>by simp only[yU,iG]at h;subst h;rfl
 |(i,v)::rest,cells,l,h=>by
  unfold yU at h;split at h
  .rename_i off size m h1 h2;split at h
   .have:=IS rest h;show(match place i,oH v.av with|some (off,size),aD l=>if (aA l)=size/\off+size<=(aA (avs cells)) then qM place (i5 (avs cells) off l) (rest.map λ(q:Nat×SV)=>(q.1,q.2.av))else aM|_,_=>aM)=_;rw[h1,Hg h2];dsimp only;rw[if_pos ⟨by rw[lD];simp_all,by rw[lD];simp_all⟩,<-AT];exact this
   .cases h
  .cases h
def rB(P:Program)(t:TypeId)(cs:List SV)(off:Nat):Option SV:=match tok P t,jo P t with
 |true,aE=>(match bZ (aA ((cs.drop off).take (bH P t))) (bH P t)with|true=>aD (.agg ((cs.drop off).take (bH P t)))|false=>aM)
 |true,aK=>cs[off]?
 |false,_=>aM
variable{P:Program}{r:SV}{K:AV->Prop}
def uB{t:TypeId}{cs:List SV}{off:Nat}(h:rB P t cs off=aD r)(hK:K r.av):ud P t (avs cs) off K:=by
 unfold rB at h;split at h
 .rename_i h1 h2;split at h
  .cases h;refine⟨h1,?_⟩;rw[if_pos h2];refine⟨_,rfl,?_,?_⟩
   .rw[<-Ib,<-Ia,lD];simp_all
   .rw[<-Ib,<-Ia];exact hK
  .cases h
 .rename_i h1 h2;refine⟨h1,?_⟩;rw[if_neg (by rw[h2];simp)];exact⟨r.av,by rw[Ah,h];rfl,hK⟩
 .cases h
def IJ{t:TypeId}{cs:List PV}{off:Nat}(h:ud P t (cs.map .p) off K):KV P t cs off λr=>K (.p r):=by
 obtain⟨h1,h2⟩:=h;refine⟨h1,?_⟩;split at h2
 .rename_i hg;rw[if_pos hg];obtain⟨l,h3,h4,h5⟩:=h2;refine⟨(cs.drop off).take (bH P t),rfl,?_,?_⟩
  .grind
  .rw[<-h3,<-Ff,<-Fg,vL]at h5;exact h5
 grind
def G7{t:TypeId}{lt:LT}{l:List lt.ty}{i off:Nat}(hi:i<aA l)(hoff:off+(match jo P t with|true=>bH P t|false=>1)<=lt.w){f:List PV->List AV}(hf:f=List.map .p)
  (h:ud P t (f (lt.rowP (lt.nth l i))) off K):ud P t (f (lt.enc l)) (i*lt.w+off) K:=by
 subst hf;obtain⟨h1,h2⟩:=h;refine⟨h1,?_⟩;split at h2
 .rename_i hg;rw[hg]at hoff;rw[if_pos hg];obtain⟨m,h3,h4,h5⟩:=h2;refine⟨m,?_,h4,h5⟩;rw[<-Ff,<-Fg,LT.sub lt l hi off _ hoff,<-h3,Fg,Ff]
 .rename_i hg;have hg':jo P t=aK:=by simpa using hg
  rw[if_neg hg];obtain⟨x,h3,h4⟩:=h2;refine⟨x,?_,h4⟩;rw[ip]at h3|-;rw[LT.get lt l hi off aH];exact h3
def pO:List (Nat×SV)->Nat->List Prop
 |[],_=>[]
 |q::l,a=>(a≠q.1)::pO l a
def vQ:∀{ov:List (Nat×SV)} {a:Nat},(∀p∈pO ov a,p)->ov.lookup a=aM
 |[],_,_=>rfl
 |q::l,a,h=>by
  rw[eZ,beq_eq_false_iff_ne.2 (h _ cR)];exact vQ λp hp=>h p (cM _ hp)
def bw.readI(σ:Sg)(x a:Nat):bw σ [x] [] [inn x (a+1)] [] :=by refine⟨λs hs=> ?_,λs hs=>aH,rfl⟩;rw[cI.1 hs,gm];grind
def aCs(x:Nat){α:Type}(L:List (List α))(ov:List (Nat×SV)){a:Nat}(h:a<aA L):((bT (aA L)).map (kE x L ov))[a]? =aD (kE x L ov a):=aH
variable{σ:Sg}
def HG{x a:Nat}{ty ity:TypeId}{lt:LT}{L:List (List lt.ty)}{ov:List (Nat×SV)}(hs:σ x=aD (.fam ty ity lt L ov))(ha:a<aA L)(ho:ov.lookup a=aM):σ.a (inn x (a+1))=aD ⟨ity,lt.w,(lt.enc (L.getD a [])).map .p⟩:=by rw[Sg.iB,hs];show(match ov.lookup a with|some _=>aM|none=>(L[a]?).map λl=>(⟨ity,lt.w,(lt.enc l).map .p⟩:Ob))=_;grind
def bw.cell{x:Nat}{ty ity:TypeId}{lt:LT}{L:List (List lt.ty)}{q:Nat×SV}{ov:List (Nat×SV)}{v:SV}(hs:σ x=aD (.fam ty ity lt L (q::ov))):
  bw σ [x] [(x,aD (.fam ty ity lt L ((q.1,v)::ov)))] [aa x] [(aa x,aD ⟨ty,1,((bT (aA L)).map (kE x L (q::ov))).set q.1 v.av⟩)] :=by
 refine⟨(bw.read σ [x]).1,λs hs=> ?_,?_⟩
 .rw[cI.1 hs];rw[show cls (aa x)=ncl x from gm x 0];grind
 .funext s
  unfold bM;rcases mN s with⟨y,rfl⟩|⟨y,b,rfl⟩|hno
  .rw[Sg.ct,Sg.ct,eZ];unfold ag.up;rw[eZ];by_cases e:y=x
   .subst e;rw[beq_iff_eq.2 rfl,beq_iff_eq.2 rfl];dsimp only[fk]
    congr 1
    congr 1
    refine wg af λi h1 h2=> ?_;rw[List.getElem_set];unfold kE;grind
   .rw[beq_eq_false_iff_ne.2 e,beq_eq_false_iff_ne.2 λh=>e (nV h)];rfl
  .rw[Sg.iB,Sg.iB,eZ,beq_eq_false_iff_ne.2 λh=>by have:=(gZ h).2;omega];unfold ag.up;rw[eZ];by_cases e:y=x
   .subst e;rw[beq_iff_eq.2 rfl,hs];unfold SOb.inner;grind
   grind
  .rw[Sg.lZ _ hno,Sg.lZ _ hno,eZ,beq_eq_false_iff_ne.2 (show s≠aa x from λh=>hno x 0 h)];rfl
def KJ(P:Program)(t:TypeId)(x:SV)(σ:Sg):SR:=match x with
 | .pe lt l i off=>(match ph (off+(match jo P t with|true=>bH P t|false=>1)) lt.w,rB P t (lt.row (lt.nth l i)) off with
   |true,aD r=>aD ([],r,[],[])
   |_,_=>aM)
 | .pro cs off=>(match bm (avs cs),rB P t cs off with
   |some _,aD r=>aD ([],r,[],[])
   |_,_=>aM)
 | .ptb F n off=>(match tok P t,jo P t with
   |true,aK=>aD ([off<n],.bool (F off),[],[])
   |_,_=>aM)
 | .ptr s off=>(match σ s with
   |some (.box _ cs)=>(match rB P t cs off with|some r=>aD ([],r,[s],[])|none=>aM)
   |some (.arr _ _ cs)=>(match rB P t cs off with|some r=>aD ([],r,[s],[])|none=>aM)
   |_=>aM)
 | .pte s lt i off=>(match σ s with
   |some (.row _ lt' l)=>(match decEq lt' lt,ph (off+(match jo P t with|true=>bH P t|false=>1)) lt'.w,rB P t (lt'.row (lt'.nth l i)) off with
    | .isTrue _,aE,aD r=>aD ([i<aA l],r,[s],[])
    |_,_,_=>aM)
   |_=>aM)
 | .ptf x a=>(match σ x with
   |some (.fam _ _ lt L ov)=>(match tok P t,jo P t with
    |true,aK=>aD ((a<aA L)::pO ov a,.ownf x lt a (aA (L.getD a [])),[x],[])
    |_,_=>aM)
   |_=>aM)
 | .ptef x lt a i off=>(match σ x with
   |some (.fam _ _ lt' L ov)=>(match decEq lt' lt,ph (off+(match jo P t with|true=>bH P t|false=>1)) lt'.w,rB P t (lt'.row (lt'.nth (L.getD a []) i)) off with
    | .isTrue _,aE,aD r=>aD ((a<aA L)::(i<aA (L.getD a []))::pO ov a,r,[x],[])
    |_,_,_=>aM)
   |_=>aM)
 |_=>aM
variable{o:Oper}{E:SE}{x:Operand}
def aBu{t:TypeId}(ho:o.op= .load t x)(hx:(E x).ok):ui P n o E σ (KJ P t (E x) σ):=by
 intro ps r rd W h hp;unfold AOp;rw[ho];dsimp only;unfold KJ at h;split at h
 .rename_i lt l i off e;split at h<;>cases h;rename_i h1 h2;rw[e]at hx;rw[show E.a x= .p (.pro (lt.enc l) (i*lt.w+off)) by unfold SE.a;rw[e];rfl];refine IJ (K:=λr'=>r'=r.av/\_) ?_;refine G7 hx (rh h1) rfl ?_;rw[<-LT.D6];exact uB h2 ⟨rfl,bw.read σ []⟩
 .rename_i cs off e;split at h<;>cases h;rename_i q h1 h2;rw[show E.a x= .p (.pro q off) by unfold SE.a;rw[e];simp only[SV.av,h1]];refine IJ (K:=λr'=>r'=r.av/\_) ?_;rw[<-kN h1];exact uB h2 ⟨rfl,bw.read σ []⟩
 .rename_i F m off e;split at h<;>cases h;rename_i h1 h2;have hlt:off<m:=hp _ aH;rw[show E.a x= .p (.pro (Ep m F) off) by unfold SE.a;rw[e];rfl];refine IJ (K:=λr'=>r'=(SV.bool (F off)).av/\_) ?_;exact⟨h1,by rw[if_neg (by rw[h2];simp)];exact⟨.p (.bool (F off)),by rw[ip,aBg F hlt];rfl,rfl,bw.read σ []⟩⟩
 .rename_i s off e;rw[show E.a x= .ptr (aa s) off by unfold SE.a;rw[e];rfl];split at h
  .rename_i ty cs hs;split at h<;>cases h;rename_i h2;refine⟨_,by rw[Sg.ct,hs];rfl,?_⟩;exact uB h2 ⟨rfl,bw.read σ [s]⟩
  .rename_i ty ez cs hs;split at h<;>cases h;rename_i h2;refine⟨_,by rw[Sg.ct,hs];rfl,?_⟩;exact uB h2 ⟨rfl,bw.read σ [s]⟩
  .cases h
 .rename_i s lt i off e;rw[show E.a x= .ptr (aa s) (i*lt.w+off) by unfold SE.a;rw[e];rfl];split at h
  .rename_i ty lt' l hs;split at h<;>cases h;rename_i he h1 h2 h3;subst he;refine⟨_,by rw[Sg.ct,hs];rfl,?_⟩;refine G7 (hp _ af) (rh h2) rfl ?_;rw[<-LT.D6];exact uB h3 ⟨rfl,bw.read σ [s]⟩
  .cases h
 .rename_i y a e;rw[show E.a x= .ptr (aa y) a by unfold SE.a;rw[e];rfl];split at h
  .rename_i ty ity lt L ov hs;split at h<;>cases h;rename_i h1 h2;have ha:a<aA L:=hp _ aH;have ho:ov.lookup a=aM:=vQ aH;refine⟨_,by rw[Sg.ct,hs];rfl,h1,?_⟩;rw[if_neg (by rw[h2];simp)];refine⟨_,aCs y L ov ha,?_,bw.read σ [y]⟩;unfold kE;rw[ho];rfl
  .cases h
 .rename_i y lt a i off e;rw[show E.a x= .ptr (inn y (a+1)) (i*lt.w+off) by unfold SE.a;rw[e];rfl];split at h
  .rename_i ty ity lt' L ov hs;split at h<;>cases h;rename_i he h1 h2 h3;subst he;have ha:a<aA L:=hp _ aH;have hi:i<aA (L.getD a []):=hp _ aH;have ho:ov.lookup a=aM:=vQ aH;refine⟨_,HG hs ha ho,?_⟩;refine G7 hi (rh h2) rfl ?_;rw[<-LT.D6];exact uB h3 ⟨rfl,bw.readI σ y a⟩
  .cases h
 .cases h
def D2(P:Program)(t:TypeId)(a v:SV)(σ:Sg):SR:=match BB v,(P.info? t).isSome with
 |some l,aE=>(match bZ (aA l) (bH P t)with
  |true=>(match a with
   | .ptr s off=>(match σ s with
     |some (.box ty cs)=>(match ph (off+aA l) (aA cs) with|true=>aD ([],.undef,[s],[(s,aD (.box ty (tG cs off l)))])|false=>aM)
     |some (.arr ty ez cs)=>(match ph (off+aA l) (aA cs) with|true=>aD ([],.undef,[s],[(s,aD (.arr ty ez (tG cs off l)))])|false=>aM)
     |_=>aM)
   | .pte s lt i off=>(match σ s with
     |some (.row ty lt' m)=>(match decEq lt' lt,ph (off+aA l) lt'.w,lt'.dec (tG (lt'.row (lt'.nth m i)) off l)with
      | .isTrue _,aE,aD e=>aD ([i<aA m],.undef,[s],[(s,aD (.row ty lt' (m.set i e)))])
      |_,_,_=>aM)
     |_=>aM)
   | .ptf x a=>(match l,σ x with
     |[v],aD (.fam ty ity lt L (q::ov))=>aD ([a=q.1,a<aA L],.undef,[x],[(x,aD (.fam ty ity lt L ((q.1,v)::ov)))])
     |_,_=>aM)
   |_=>aM)
  |false=>aM)
 |_,_=>aM
def XS{a b c l:List AV}{k off:Nat}(hk:k=aA a)(hoff:off+aA l<=aA b):i5 (a++b++c) (k+off) l=a++i5 b off l++c:=by
 induction l generalizing b off with
 |nil=>rfl
 |cons x l ih=>
  simp only[iE]at hoff;rw[i5,i5,kw,List.set_append_right _ _ aC,(aC:k+off-aA a=off),List.set_append_left _ _ aC,<-kw,(aC:k+off+1=k+(off+1)),ih eO]
def aD4(t:LT)(l:List t.ty){i:Nat}(h:i<aA l)(e:t.ty):t.enc l=t.enc (l.take i)++t.rowP l[i] ++t.enc (l.drop (i+1))/\t.enc (l.set i e)=t.enc (l.take i)++t.rowP e++t.enc (l.drop (i+1)):=by
 constructor
 .conv=>lhs;rw[<-vD i l,<-List.getElem_cons_drop h]
  unfold LT.enc;grind
 .rw[List.set_eq_take_append_cons_drop,if_pos h];unfold LT.enc;grind
def ZV{t:TypeId}{a:Operand}(ho:o.op= .store t a x):ui P n o E σ (D2 P t (E a) (E x) σ):=by
 intro ps r rd W h hp;unfold AOp;rw[ho];dsimp only;unfold D2 at h;split at h
 case h_2=>cases h
 rename_i l hl ht;split at h
 case h_2=>cases h
 rename_i hsz;have hl':oH (E.a x)=aD (avs l):=Hg hl;have hsz':aA (avs l)=bH P t:=by rw[lD];exact eL hsz
 split at h
 .rename_i s off e;rw[show E.a a= .ptr (aa s) off by unfold SE.a;rw[e];rfl];unfold x4;split at h
  .rename_i ty cs hs;split at h<;>cases h;refine⟨_,_,by rw[Sg.ct,hs];rfl,hl',hsz',ht,?_,rfl,?_⟩
   .show off+aA (avs l)<=aA (avs cs);rw[lD,lD];simp_all
   .show bw _ _ _ _ [(aa s,aD (⟨ty,0,i5 (avs cs) off (avs l)⟩:Ob))];rw[<-AT];exact bw.flat (W:=[(s,aD (.box ty (tG cs off l)))]) λq hq=>by rw[cI.1 hq,hs];exact⟨rfl,rfl⟩
  .rename_i ty ez cs hs;split at h<;>cases h;refine⟨_,_,by rw[Sg.ct,hs];rfl,hl',hsz',ht,?_,rfl,?_⟩
   .show off+aA (avs l)<=aA (avs cs);rw[lD,lD];simp_all
   .show bw _ _ _ _ [(aa s,aD (⟨ty,ez,i5 (avs cs) off (avs l)⟩:Ob))];rw[<-AT];exact bw.flat (W:=[(s,aD (.arr ty ez (tG cs off l)))]) λq hq=>by rw[cI.1 hq,hs];exact⟨rfl,rfl⟩
  .cases h
 .rename_i s lt i off e;rw[show E.a a= .ptr (aa s) (i*lt.w+off) by unfold SE.a;rw[e];rfl];unfold x4;split at h
  .rename_i ty lt' m hs;split at h<;>cases h;rename_i he h1 _ h2 h3;subst he;have hi:i<aA m:=hp _ af;obtain⟨e1,e2⟩:=aD4 lt' m hi h1;have h2':=rh h2;have hlen:aA (lt'.enc (m.take i))=i*lt'.w:=by rw[lt'.wide.length,mK,Lo aC]
   refine⟨_,_,by rw[Sg.ct,hs];rfl,hl',hsz',ht,?_,rfl,?_⟩
   .show i*lt'.w+off+aA (avs l)<=aA ((lt'.enc m).map AV.p);rw[lD,dq,lt'.wide.length];have:(i+1)*lt'.w<=aA m*lt'.w:=Bp _ aC;grind
   .have e3:i5 ((lt'.enc m).map AV.p) (i*lt'.w+off) (avs l)=(lt'.enc (m.set i h1)).map AV.p:=by
     rw[e2,dV,dV,<-LT.A9 h3,AT,LT.D6,LT.nth_eq lt' m hi]
     conv=>lhs;rw[e1,dV,dV]
     rw[XS aH (by rw[lD,dq,(lt'.wide []).2];exact h2')]
    show bw _ _ _ _ [(aa s,aD (⟨ty,lt'.w,i5 ((lt'.enc m).map AV.p) (i*lt'.w+off) (avs l)⟩:Ob))];rw[e3];exact bw.flat (W:=[(s,aD (.row ty lt' (m.set i h1)))]) λq hq=>by rw[cI.1 hq,hs];exact⟨rfl,rfl⟩
  .cases h
 .rename_i y b e;rw[show E.a a= .ptr (aa y) b by unfold SE.a;rw[e];rfl];unfold x4;split at h<;>cases h;rename_i v ty ity lt L q ov hs;have hb:b=q.1:=hp _ aH;have hL:b<aA L:=hp _ aH;refine⟨_,_,by rw[Sg.ct,hs];rfl,hl',hsz',ht,?_,rfl,?_⟩
  .show b+1<=aA ((bT (aA L)).map (kE y L (q::ov)));grind
  .subst hb;exact bw.cell hs
 .cases h
def yK(P:Program)(t:TypeId):Option (List SV):=match sW P t with
 |true=>(match P.info? t with
  |some i=>(match i.zero with|some z=>aD (z.cells.toList.map svK)|none=>aM)
  |none=>aM)
 |false=>aM
def xV{t:TypeId}{z:List SV}(h:yK P t=aD z):sX P t=aD (avs z)/\sW P t=aE:=by
 unfold yK at h;split at h
 .rename_i hz;split at h
  .rename_i i hi;split at h<;>cases h;rename_i zv hzv;refine⟨?_,hz⟩;unfold sX;rw[hi,tU,hzv,fk,Iq]
  .cases h
 .cases h
def bw.new{ob:SOb}(h:σ n=aM)(hs:aa n=sit n 0)(hf:ob.flat=aE):bw σ [] [(n,aD ob)] [] [(sit n 0,aD (ob.ob n))] :=by rw[<-hs];exact bw.flat (rd:=[]) (W:=[(n,aD ob)]) λq hq=>by rw[cI.1 hq,h];exact⟨rfl,hf⟩
def D5(P:Program)(σ:Sg)(n:Nat)(t:TypeId):SR:=match yK P t,frs σ n with
 |some z,aE=>aD ([],.ptr n 0,[],[(n,aD (.box t z))])
 |_,_=>aM
def Zj{t:TypeId}(ho:o.op= .alloc t):ui P n o E σ (D5 P σ n t):=by intro ps r rd W h hp;unfold AOp;rw[ho];unfold D5 at h;split at h<;>cases h;rename_i z hz hf;obtain⟨h1,h2⟩:=xV hz;obtain⟨f1,f2⟩:=o6 hf;exact⟨_,h1,h2,by show _=AV.ptr (aa n) 0;rw[f1],bw.new f2 f1 rfl⟩
def Eu(σ:Sg)(n:Nat)(t:TypeId)(x:SV):SR:=match BB x,frs σ n with
 |some l,aE=>aD ([],.ptr n 0,[],[(n,aD (.box t l))])
 |_,_=>aM
def aDf{t:TypeId}(ho:o.op= .box t x):ui P n o E σ (Eu σ n t (E x)):=by intro ps r rd W h hp;unfold AOp;rw[ho];unfold Eu at h;split at h<;>cases h;rename_i l hl hf;obtain⟨f1,f2⟩:=o6 hf;exact⟨_,Hg hl,by show _=AV.ptr (aa n) 0;rw[f1],bw.new f2 f1 rfl⟩
def D4(P:Program)(t:TypeId)(parts:List (Nat×SV)):SR:=match yK P t,I6 P t with
 |some z,aE=>(match yU (Jh P t) z parts with|some l=>aD ([],.agg l,[],[])|none=>aM)
 |_,_=>aM
variable{parts:Array (Nat×Operand)}
def Zf{t:TypeId}(ho:o.op= .build t parts):ui P n o E σ (D4 P t (parts.toList.map λq=>(q.1,E q.2))):=by
 intro ps r rd W h hp;unfold AOp;rw[ho];unfold D4 at h;split at h
 .rename_i z hz hk;split at h<;>cases h;rename_i l hl;obtain⟨h1,h2⟩:=xV hz;have:=IS _ hl;rw[du]at this;exact⟨_,h1,h2,hk,_,this,rfl,bw.read σ []⟩
 .cases h
def Ez:Nat->List SV->List SV
 |0,_=>[]
 |m+1,z=>z++Ez m z
def RI(z:List SV):∀m,avs (Ez m z)=pN m (avs z)
 |0=>rfl
 |m+1=>by rw[Ez,vN,RI z m];rfl
def Db(P:Program)(σ:Sg)(n:Nat)(t:TypeId)(len:Nat)(parts:List (Nat×SV)):SR:=match eC P t with
 |some e=>(match yK P e,ph (len*bH P e) 1000000,frs σ n with
  |some (z0::zs),aE,aE=>(match yU (λi=>aD (i*bH P e,bH P e)) (Ez len (z0::zs)) parts with
   |some l=>aD ([],.ownx n len,[],[(n,aD (.arr e (bH P e) l))])
   |none=>aM)
  |_,_,_=>aM)
 |none=>aM
def YI{t:TypeId}{len:Nat}(ho:o.op= .buildSlice t len parts):ui P n o E σ (Db P σ n t len (parts.toList.map λq=>(q.1,E q.2))):=by
 intro ps r rd W h hp;unfold AOp;rw[ho];unfold Db at h;split at h
 .rename_i e he;split at h
  .rename_i z0 zs hz hb hf;split at h<;>cases h;rename_i l hl;obtain⟨f1,f2⟩:=o6 hf;obtain⟨h1,h2⟩:=xV hz;have:=IS _ hl;rw[du,RI]at this;exact⟨e,_,he,h1,h2,(by simp[avs]),rh hb,_,this,by show _=AV.own (aa n) 0 len;rw[f1],bw.new f2 f1 rfl⟩
  .cases h
 .cases h
def KF(c a b:SV):Option SV:=match c with
 | .lit aE=>aD a
 | .lit aK=>aD b
 | .prop p d=>(match a,b with
   | .int .i64 x,.int .i64 y=>aD (.int .i64 (@ite _ p d x y))
   | .bool x,.bool y=>aD (.bool (@ite _ p d x y))
   | .prop q e,.lit y=>aD (.bool (@ite _ p d (@decide q e) y))
   | .lit x,.prop q e=>aD (.bool (@ite _ p d x (@decide q e)))
   | .bool x,.lit y=>aD (.bool (@ite _ p d x y))
   | .lit x,.bool y=>aD (.bool (@ite _ p d x y))
   |_,_=>aM)
 | .bool c=>(match a,b with
   | .int .i64 x,.int .i64 y=>aD (.int .i64 (if c=aE then x else y))
   | .bool x,.bool y=>aD (.bool (if c=aE then x else y))
   | .bool x,.lit y=>aD (.bool (if c=aE then x else y))
   | .lit x,.bool y=>aD (.bool (if c=aE then x else y))
   |_,_=>aM)
 |_=>aM
def aBn{c a b:SV}(h:KF c a b=aD r)(hK:K r.av):yM c.av a.av b.av K:=by
 unfold KF at h;split at h
 .cases h;exact hK
 .cases h;exact hK
 .rename_i p d;split at h<;>cases h<;>(simp only[SV.av,yM]at*;cases d<;>rename_i hp<;>simpa[hp]using hK)
 .rename_i c;split at h<;>cases h<;>(simp only[SV.av,yM]at*;cases c<;>simpa using hK)
 .cases h
def Jd(P:Program)(t:TypeId)(x:SV)(f:Nat):Option SV:=match wN P t f with
 |some q=>(match x with
  | .ptr s off=>aD (.ptr s (off+q.1))
  | .pe lt l i off=>aD (.pe lt l i (off+q.1))
  | .pte s lt i off=>aD (.pte s lt i (off+q.1))
  | .pro cs off=>(match bm (avs cs)with|some _=>aD (.pro cs (off+q.1))|none=>aM)
  |_=>aM)
 |none=>aM
def Zc{t:TypeId}{x:SV}{f:Nat}(h:Jd P t x f=aD r)(hK:K r.av):Jw P t f x.av K/\(x.ok->r.ok):=by
 unfold Jd at h;split at h
 .rename_i q hq;split at h
  .cases h;exact⟨⟨q,hq,hK⟩,λ_=>trivial⟩
  .cases h;exact⟨⟨q,hq,by simpa[SV.av,u4]using hK⟩,λh=>h⟩
  .cases h;exact⟨⟨q,hq,by simpa[SV.av,u4]using hK⟩,λ_=>trivial⟩
  .split at h<;>cases h;rename_i m hm;refine⟨⟨q,hq,?_⟩,λ_=>trivial⟩;simp only[SV.av,hm]at hK|-;exact hK
  .cases h
 .cases h
def Jc(P:Program)(t:TypeId)(x:SV)(f:Nat):Option SV:=match wN P t f,x with
 |some q,.agg l=>(match tok P q.2,jo P q.2 with
  |true,aE=>aD (.agg ((l.drop q.1).take (bH P q.2)))
  |true,aK=>l[q.1]?
  |false,_=>aM)
 |_,_=>aM
def Zb{t:TypeId}{x:SV}{f:Nat}(h:Jc P t x f=aD r)(hK:K r.av):Ju P t f x.av K:=by
 unfold Jc at h;split at h
 .rename_i q l hq;refine⟨q,hq,?_⟩;have key:v8 P q.2 (avs l) q.1 K:=by
   split at h
   .rename_i h1 h2;cases h;refine⟨h1,?_⟩;rw[if_pos h2];exact⟨_,rfl,by rw[<-Ib,<-Ia];exact hK⟩
   .rename_i h1 h2;refine⟨h1,?_⟩;rw[if_neg (by rw[h2];simp)];exact⟨r.av,by rw[Ah,h];rfl,hK⟩
   .cases h
  show(match fg (avs l)with| .agg l=>v8 P q.2 l q.1 K| .p (.agg l)=>v8 P q.2 (l.map .p) q.1 K|_=>False);unfold fg;cases hq:bm (avs l)with
  |none=>exact key
  |some m=>dsimp only;rw[<-kN hq];exact key
 .cases h
def Jb(P:Program)(t:TypeId)(x i:SV):Option (List Prop×SV):=match i with
 | .int _ a=>(match x with
   | .lst lt l=>(match eC P t with
     |some e=>(match(P.info? e).isSome,bZ (bH P e) lt.w with|true,aE=>aD ([ix a (aA l)],.pe lt l a.toNat 0)|_,_=>aM)
     |none=>aM)
   | .own s lt n=>(match eC P t with
     |some e=>(match(P.info? e).isSome,bZ (bH P e) lt.w with|true,aE=>aD ([ix a n],.pte s lt a.toNat 0)|_,_=>aM)
     |none=>aM)
   | .owns s lt o n=>(match eC P t with
     |some e=>(match(P.info? e).isSome,bZ (bH P e) lt.w with|true,aE=>aD ([ix a n],.pte s lt (o+a.toNat) 0)|_,_=>aM)
     |none=>aM)
   | .ownx s n=>(match eC P t with
     |some e=>(match(P.info? e).isSome with|true=>aD ([ix a n],.ptr s (a.toNat*bH P e))|_=>aM)
     |none=>aM)
   | .owF x n=>(match eC P t with
     |some e=>(match(P.info? e).isSome,bZ (bH P e) 1 with|true,aE=>aD ([ix a n],.ptf x a.toNat)|_,_=>aM)
     |none=>aM)
   | .ownf x lt b n=>(match eC P t with
     |some e=>(match(P.info? e).isSome,bZ (bH P e) lt.w with|true,aE=>aD ([ix a n],.ptef x lt b a.toNat 0)|_,_=>aM)
     |none=>aM)
   | .sl n cs=>(match eC P t,bm (avs cs)with
     |some e,aD _=>(match(P.info? e).isSome with|true=>aD ([ix a n],.pro cs (a.toNat*bH P e))|_=>aM)
     |_,_=>aM)
   | .ptr s off=>(match uk P t with
     |some q=>(match(P.info? q.2).isSome with|true=>aD ([ix a q.1],.ptr s (off+a.toNat*bH P q.2))|_=>aM)
     |none=>aM)
   | .pe lt l j off=>(match uk P t with
     |some q=>(match(P.info? q.2).isSome with|true=>aD ([ix a q.1,j<aA l],.pe lt l j (off+a.toNat*bH P q.2))|_=>aM)
     |none=>aM)
   | .ptb F m off=>(match uk P t with
     |some q=>(match(P.info? q.2).isSome with|true=>aD ([ix a q.1],.ptb F m (off+a.toNat*bH P q.2))|_=>aM)
     |none=>aM)
   | .pro cs off=>(match uk P t,bm (avs cs)with
     |some q,aD _=>(match(P.info? q.2).isSome with|true=>aD ([ix a q.1],.pro cs (off+a.toNat*bH P q.2))|_=>aM)
     |_,_=>aM)
   |_=>aM)
 |_=>aM
def Za{t:TypeId}{x i:SV}{ps:List Prop}(h:Jb P t x i=aD (ps,r))(hp:∀p∈ps,p)(hK:K r.av):EH P t x.av i.av K/\r.ok:=by
 unfold Jb at h;split at h
 case h_2=>cases h
 rename_i k a;split at h
 .rename_i lt l;split at h
  .rename_i e he;split at h<;>cases h;rename_i h1 h2;have hb:=hp _ (cI.2 rfl);unfold ix at hb;refine⟨⟨e,he,h1,hb.1,hb.2,?_⟩,(aC:a.toNat<aA l)⟩;rw[eL h2];exact hK
  .cases h
 .split at h
  .rename_i e he;split at h<;>cases h;rename_i h1 h2;have hb:=hp _ (cI.2 rfl);refine⟨⟨e,he,h1,hb.1,hb.2,?_⟩,trivial⟩;rw[eL h2,ku];exact hK
  .cases h
 .split at h
  .rename_i e he;split at h<;>cases h;rename_i h1 h2;have hb:=hp _ (cI.2 rfl);refine⟨⟨e,he,h1,hb.1,hb.2,?_⟩,trivial⟩;rw[eL h2,<-Bo];exact hK
  .cases h
 .split at h
  .rename_i e he;split at h<;>cases h;rename_i h1;have hb:=hp _ (cI.2 rfl);refine⟨⟨e,he,h1,hb.1,hb.2,?_⟩,trivial⟩;rw[ku];exact hK
  .cases h
 .split at h
  .rename_i e he;split at h<;>cases h;rename_i h1 h2;have hb:=hp _ (cI.2 rfl);refine⟨⟨e,he,h1,hb.1,hb.2,?_⟩,trivial⟩;rw[eL h2,ku,Nat.mul_one];exact hK
  .cases h
 .split at h
  .rename_i e he;split at h<;>cases h;rename_i h1 h2;have hb:=hp _ (cI.2 rfl);refine⟨⟨e,he,h1,hb.1,hb.2,?_⟩,trivial⟩;rw[eL h2,ku];exact hK
  .cases h
 .split at h
  .rename_i e m he hm;split at h<;>cases h;rename_i h1;have hb:=hp _ (cI.2 rfl);refine⟨?_,trivial⟩;simp only[SV.av,hm]at hK|-;exact⟨e,he,h1,hb.1,hb.2,hK⟩
  .cases h
 .split at h
  .rename_i q hq;split at h<;>cases h;rename_i h1;have hb:=hp _ (cI.2 rfl);exact⟨⟨q,hq,h1,hb.1,hb.2,hK⟩,trivial⟩
  .cases h
 .rename_i lt l j off;split at h
  .rename_i q hq;split at h<;>cases h;rename_i h1;have hb:=hp _ (cR);refine⟨⟨q,hq,h1,hb.1,hb.2,?_⟩,hp (j<aA l) aH⟩;rw[u4];exact hK
  .cases h
 .split at h
  .rename_i q hq;split at h<;>cases h;rename_i h1;have hb:=hp _ (cI.2 rfl);exact⟨⟨q,hq,h1,hb.1,hb.2,hK⟩,trivial⟩
  .cases h
 .split at h
  .rename_i q m hq hm;split at h<;>cases h;rename_i h1;have hb:=hp _ (cI.2 rfl);refine⟨?_,trivial⟩;simp only[SV.av,hm]at hK|-;exact⟨q,hq,h1,hb.1,hb.2,hK⟩
  .cases h
 .cases h
def bw.newF{m:Nat}{e ie:TypeId}{lt:LT}(h:σ n=aM)(hs:aa n=sit n 0):
  bw σ [] [(n,aD (.fam e ie lt (dO m []) []))] [] ((sit n 0,aD ⟨e,1,(bT m).map λj=> .own (inn n (j+1)) 0 0⟩)::(bT m).map λj=>(inn n (j+1),aD ⟨ie,lt.w,[]⟩)):=by
 rw[<-hs];refine⟨λs hm=>aH,λs hm=> ?_,?_⟩
 .have hc:cls s=ncl n:=by
   rcases bO.1 hm with rfl|hm
   .exact gm n 0
   .rw[du]at hm;obtain⟨j,_,rfl⟩:=bn.1 hm;exact gm n (j+1)
  grind
 .funext s
  unfold bM;rw[eZ,F5 (λj=>inn n (j+1))];rcases mN s with⟨y,rfl⟩|⟨y,b,rfl⟩|hno
  .rw[if_neg (show¬aa y∈(bT m).map λj=>inn n (j+1)from λhm=>by obtain⟨j,_,hj⟩:=bn.1 hm;have:=(gZ hj).2;omega)]
   rw[Sg.ct,Sg.ct];unfold ag.up;rw[eZ];by_cases e1:y=n
   .subst e1;rw[beq_iff_eq.2 rfl,beq_iff_eq.2 rfl];show aD (⟨e,1,_⟩:Ob)=aD ⟨e,1,(bT (aA (dO m ([] :List lt.ty)))).map (kE y (dO m ([] :List lt.ty)) [])⟩;rw[List.length_replicate]
    congr 2
    refine lg λi hi=> ?_;show _=AV.own (inn y (i+1)) 0 (aA ((dO m ([] :List lt.ty)).getD i []));grind
   .rw[beq_eq_false_iff_ne.2 e1,beq_eq_false_iff_ne.2 (show aa y≠aa n from λh=>e1 (nV h))];rfl
  .rw[beq_eq_false_iff_ne.2 (show inn y (b+1)≠aa n from λh=>by have:=(gZ h).2;omega),Sg.iB,Sg.iB];unfold ag.up;rw[eZ];by_cases e1:y=n
   .subst e1;rw[beq_iff_eq.2 rfl];show _=(((dO m ([] :List lt.ty))[b]?).map λl=>(⟨ie,lt.w,(lt.enc l).map .p⟩:Ob));rw[Fb];by_cases hb:b<m
    .rw[if_pos aH,if_pos hb];rfl
    .rw[if_neg (show¬inn y (b+1)∈(bT m).map λj=>inn y (j+1)from λhm=>by obtain⟨j,h1,hj⟩:=bn.1 hm;have:=(gZ hj).2;grind),if_neg hb,h];rfl
   .rw[if_neg (show¬inn y (b+1)∈(bT m).map λj=>inn n (j+1)from λhm=>by obtain⟨j,h1,hj⟩:=bn.1 hm;exact e1 (gZ hj).1.symm),beq_eq_false_iff_ne.2 e1];rfl
  .rw[if_neg aH,beq_eq_false_iff_ne.2 (show s≠aa n from λh=>hno n 0 h),Sg.lZ _ hno,Sg.lZ _ hno]
def H4(x:PV):∀m,pN m [.p x] =(dO m x).map .p
 |0=>rfl
 |m+1=>by rw[pN,H4 x m,y9];rfl
def QU:∀m,LT.I.enc (dO m (0:Int))=dO m (.int .i64 0)
 |0=>rfl
 |m+1=>by rw[y9,y9,<-QU m];rfl
def QV:∀m,LT.B.enc (dO m aK)=dO m (.bool aK)
 |0=>rfl
 |m+1=>by rw[y9,y9,<-QV m];rfl
def KH(P:Program)(ltOf:TypeId->Option LT)(σ:Sg)(n:Nat)(t:TypeId)(x y:SV):SR:=match x,y with
 | .int _ a,.int _ b=>(match eC P t,frs σ n with
   |some e,aE=>(match P.info? e,yK P e,bZ (bH P e) 1 with
    |some i,aD [.int .i64 (.ofNat 0)],aE=>aD ([0<=a,b=a,a<=1000000,a.toNat*i.bytes<=1000000000],.own n .I a.toNat,[],[(n,aD (.row e .I (dO a.toNat (0:Int))))])
    |some i,aD [.lit aK],aE=>aD ([0<=a,b=a,a<=1000000,a.toNat*i.bytes<=1000000000],.own n .B a.toNat,[],[(n,aD (.row e .B (dO a.toNat aK)))])
    |some i,aD [.nil],aE=>(match eC P e with
     |some ie=>(match ltOf ie with
      |some lt=>aD ([0<=a,b=a,a<=1000000,a.toNat*i.bytes<=1000000000],.owF n a.toNat,[],[(n,aD (.fam e ie lt (dO a.toNat []) []))])
      |none=>aM)
     |none=>aM)
    |_,_,_=>aM)
   |_,_=>aM)
 |_,_=>aM
def aBs{ltOf:TypeId->Option LT}{t:TypeId}{y:Operand}(ho:o.op= .makeSlice t x y):ui P n o E σ (KH P ltOf σ n t (E x) (E y)):=by
 intro ps r rd W h hp;unfold AOp;rw[ho];dsimp only;unfold KH at h;split at h
 case h_2=>cases h
 rename_i k1 a k2 b ea eb;rw[show E.a x= .p (.int k1 a) by unfold SE.a;rw[ea];rfl,show E.a y= .p (.int k2 b) by unfold SE.a;rw[eb];rfl];split at h
 case h_2=>cases h
 rename_i e he hf;obtain⟨f1,f2⟩:=o6 hf;split at h
 .cases h;rename_i i hi hz hw;obtain⟨z1,z2⟩:=xV hz;have q1:0<=a:=hp _ af;have q2:b=a:=hp _ af;have q3:a<=1000000:=hp _ af;have q4:a.toNat*i.bytes<=1000000000:=hp _ af;have hw:=eL hw;subst q2;refine .inl ⟨k1,k2,b.toNat,e,_,i,aH,aH,he,hi,z1,z2,by simp[avs],aH,q4,?_,?_⟩
  .show _=AV.own (aa n) 0 _;rw[f1]
  .rw[hw,show avs [SV.int .i64 (.ofNat 0)] =[.p (.int .i64 0)]from rfl,H4,<-QU];exact bw.new (ob:= .row e .I (dO b.toNat (0:Int))) f2 f1 rfl
 .cases h;rename_i i hi hz hw;obtain⟨z1,z2⟩:=xV hz;have q1:0<=a:=hp _ af;have q2:b=a:=hp _ af;have q3:a<=1000000:=hp _ af;have q4:a.toNat*i.bytes<=1000000000:=hp _ af;have hw:=eL hw;subst q2;refine .inl ⟨k1,k2,b.toNat,e,_,i,aH,aH,he,hi,z1,z2,by simp[avs],aH,q4,?_,?_⟩
  .show _=AV.own (aa n) 0 _;rw[f1]
  .rw[hw,show avs [SV.lit aK] =[.p (.bool aK)]from rfl,H4,<-QV];exact bw.new (ob:= .row e .B (dO b.toNat aK)) f2 f1 rfl
 .rename_i i hi hz hw;split at h
  case h_2=>cases h
  rename_i ie hie;split at h<;>cases h;rename_i lt hlt;obtain⟨z1,z2⟩:=xV hz;have q1:0<=a:=hp _ af;have q2:b=a:=hp _ af;have q3:a<=1000000:=hp _ af;have q4:a.toNat*i.bytes<=1000000000:=hp _ af;subst q2;have hcl:ncl n=n:=by have h1:cls (aa n)=ncl n:=gm n 0;rw[f1,jV]at h1;exact h1.symm
  refine .inr ⟨λj=>inn n (j+1),ie,lt.w,k1,k2,b.toNat,e,i,aH,aH,he,hi,z1,z2,by have:=lt.mS;omega,λj=>(gm n (j+1)).trans hcl,λj hj=> ?_,aC,q4,?_,bw.newF f2 f1⟩
  .rw[<-f1]at hj;have:=(gZ hj).2;omega
  .show _=AV.own (aa n) 0 _;rw[f1]
 .cases h
def KK(x:SV)(i:Nat):Option SV:=match x with
 | .tup l=>l[i]?
 |_=>aM
def aBv{x:SV}{i:Nat}(h:KK x i=aD r)(hK:K r.av):BM x.av i K:=by
 unfold KK at h;split at h
 .rename_i l;have h1:(avs l)[i]? =aD r.av:=by rw[Ah,h];rfl
  show BM (l7 (avs l)) i K;unfold l7;cases hq:bm (avs l)with
  |none=>exact⟨_,h1,hK⟩
  |some q=>
   rw[kN hq,ip]at h1;cases hc:q[i]? with
   |none=>grind
   |some y=>exact⟨y,hc,aH⟩
 .cases h
end
noncomputable section
def rJ(raw:Bool)(k:IntKind)(x:Int):List Prop×SV:=match raw,k with
 |false,.i64=>([aX x],.int .i64 x)
 |_,k=>([],.int k (k.wrap x))
variable{raw:Bool}
def xt{k:IntKind}{x:Int}(h:∀p∈(rJ raw k x).1,p):(rJ raw k x).2.av= .p (.int k (k.wrap x)):=by
 unfold rJ at h|-;split
 .rw[xL (h _ aH)];rfl
 .rfl
def BN:SV->Option Bool
 | .bool b=>aD b
 | .lit b=>aD b
 | .prop p d=>aD (@decide p d)
 |_=>aM
variable{x:SV}
def AO{b:Bool}(h:BN x=aD b):x.av= .p (.bool b):=by cases x<;>simp only[BN,reduceCtorEq,iG]at h<;>subst h<;>rfl
def Je(raw:Bool)(op:BinOp)(k:IntKind)(a b:Int):Option (List Prop×SV):=match op with
 | .add=>aD (rJ raw k (a+b))
 | .sub=>aD (rJ raw k (a-b))
 | .mul=>aD (rJ raw k (a*b))
 | .quo=>aD ((b≠0)::(rJ raw k (a.tdiv b)).1,(rJ raw k (a.tdiv b)).2)
 | .rem=>aD ([b≠0],.int k (a.tmod b))
 | .eql=>aD ([],.prop (a=b) inferInstance)
 | .neq=>aD ([],.prop (¬a=b) inferInstance)
 | .lss=>aD ([],.prop (a<b) inferInstance)
 | .leq=>aD ([],.prop (a<=b) inferInstance)
 | .gtr=>aD ([],.prop (b<a) inferInstance)
 | .geq=>aD ([],.prop (b<=a) inferInstance)
 |_=>aM
variable{ps:List Prop}{r:SV}{K:AV->Prop}
def Zi{op:BinOp}{k:IntKind}{a b:Int}(h:Je raw op k a b=aD (ps,r))(hp:∀p∈ps,p)(hK:K r.av):yG op k a b K:=by
 unfold Je at h;split at h<;>simp only[iG,wo,reduceCtorEq]at h
 .have e:=xt (raw:=raw) (k:=k) (x:=a+b) aH;unfold yG;grind
 .have e:=xt (raw:=raw) (k:=k) (x:=a-b) aH;unfold yG;grind
 .have e:=xt (raw:=raw) (k:=k) (x:=a*b) aH;unfold yG;grind
 .obtain⟨rfl,rfl⟩:=h;have e:=xt (raw:=raw) (k:=k) (x:=a.tdiv b) aH;exact⟨hp _ aH,aH⟩
 .obtain⟨rfl,rfl⟩:=h;exact⟨hp _ aH,hK⟩
 .obtain⟨rfl,rfl⟩:=h;exact hK
 .obtain⟨rfl,rfl⟩:=h;show K (.p (.bool (a !=b)));have:(a !=b)=decide (¬a=b):=by by_cases e:a=b<;>simp[e]
  rw[this];exact hK
 .obtain⟨rfl,rfl⟩:=h;exact hK
 .obtain⟨rfl,rfl⟩:=h;exact hK
 .obtain⟨rfl,rfl⟩:=h;exact hK
 .obtain⟨rfl,rfl⟩:=h;exact hK
def yQ:List SV->Option (List Int)
 |[] =>aD []
 | .int .i64 a::l=>(match yQ l with|some m=>aD (a::m)|none=>aM)
 |_::_=>aM
def IN:∀{l:List SV} {m:List Int},yQ l=aD m->avs l=(nF m).map .p
 |[],m,h=>by simp only[yQ,iG]at h;subst h;rfl
 |x::l,m,h=>by
  unfold yQ at h;split at h
  .grind
  .rename_i a l' e;cases e;split at h<;>cases h;rename_i m' hm;rw[avs,IN hm];rfl
  .cases h
def zU:∀m:List Int,qy (nF m)=aD m
 |[] =>rfl
 |x::m=>by
  have:=zU m;unfold nF at*;simp only[dU,qy,this,fk]
def eqP(xs ys:List Int):SV:=match xs,ys with
 |[a,b],[c,d] => .prop ((⟨a,b⟩:V)=⟨c,d⟩) inferInstance
 |[a,b,c,d],[e,f,g,h] => .prop ((⟨⟨a,b⟩,⟨c,d⟩⟩:S)=⟨⟨e,f⟩,⟨g,h⟩⟩) inferInstance
 |xs,ys=> .prop (xs=ys) inferInstance
def Sx(xs ys:List Int):(eqP xs ys).av= .p (.bool (xs==ys)):=by
 unfold eqP;split
 .show AV.p (.bool (decide _))=_
  congr 2
  grind
 .show AV.p (.bool (decide _))=_
  congr 2
  grind
 .show AV.p (.bool (decide _))=_;grind
def E0:SV->Option SV
 | .prop p d=>aD (.prop (¬p) (@instDecidableNot p d))
 | .bool b=>aD (.bool (!b))
 | .lit aE=>aD (.lit aK)
 | .lit aK=>aD (.lit aE)
 |_=>aM
def Ri(h:E0 x=aD r):∃b,x.av= .p (.bool b)/\r.av= .p (.bool (!b)):=by
 cases x<;>simp only[E0,reduceCtorEq,iG]at h
 .subst h;exact⟨_,rfl,rfl⟩
 .rename_i b;cases b<;>simp only[iG]at h<;>subst h<;>exact⟨_,rfl,rfl⟩
 .subst h;refine⟨_,rfl,?_⟩;show AV.p (.bool (decide _))=_;grind
abbrev EqT:=List (TypeId×Nat)
def EqT.Ok(P:Program)(q:EqT):Prop:=∀t m,(t,m)∈q->BD P t m
def EqT.has:EqT->TypeId->Nat->Bool
 |[],_,_=>aK
 |(a,b)::l,t,m=>(bZ a t&&bZ b m)||EqT.has l t m
def EqT.JF:∀{q:EqT} {t m:Nat},q.has t m=aE->(t,m)∈q
 |[],t,m,h=>by cases h
 |(a,b)::l,t,m,h=>by
  simp only[EqT.has,jd,cD]at h;rcases h with⟨h1,h2⟩|h
  .simp_all
  .exact cM _ (EqT.JF h)
def Ko(P:Program)(q:EqT)(raw:Bool)(op:BinOp)(t:TypeId)(x y:SV):Option (List Prop×SV):=match x,y with
 | .int k a,.int k' b=>(match decEq k' k with| .isTrue _=>Je raw op k a b| .isFalse _=>aM)
 | .agg l,.agg m=>(match yQ l,yQ m with
   |some xs,aD ys=>(match bZ (aA xs) (aA ys),q.has t (aA xs),op with
    |true,aE,.eql=>aD ([],eqP xs ys)
    |true,aE,.neq=>(match E0 (eqP xs ys)with|some r=>aD ([],r)|none=>aM)
    |_,_,_=>aM)
   |_,_=>aM)
 | .lst _ l,.nil=>(match(eC P t).isSome,op with
   |true,.eql=>aD ([0<aA l],.lit aK)
   |_,_=>aM)
 |x,y=>(match BN x,BN y,KA P t,op with
  |some a,aD b,aE,.eql=>aD ([],.bool (a==b))
  |some a,aD b,aE,.neq=>aD ([],.bool (a !=b))
  |_,_,_,_=>aM)
variable{P:Program}
def aDg{q:EqT}(hq:q.Ok P){op:BinOp}{t:TypeId}{y:SV}(h:Ko P q raw op t x y=aD (ps,r))(hp:∀p∈ps,p)(hK:K r.av):yl P op t x.av y.av K:=by
 unfold Ko at h;split at h
 .split at h
  .rename_i e _;exact⟨e,Zi h hp hK⟩
  .cases h
 .rename_i l m;split at h
  .rename_i xs ys hx hy;have key:∀(op:BinOp),(∃xs' ys',qy (nF xs)=aD xs'/\qy (nF ys)=aD ys'/\(aA xs')=(aA ys')/\BD P t (aA xs')/\(match op with| .eql=>K (.p (.bool (xs'==ys')))| .neq=>K (.p (.bool (xs' !=ys')))|_=>False))->yl P op t (SV.agg l).av (SV.agg m).av K:=by intro op h;show yl P op t (fg (avs l)) (fg (avs m)) K;rw[IN hx,IN hy,vL,vL];exact h
   split at h
   .rename_i h1 h2;cases h;refine key _ ⟨xs,ys,zU _,zU _,eL h1,hq _ _ (EqT.JF h2),?_⟩;rw[Sx]at hK;exact hK
   .rename_i h1 h2;split at h<;>cases h;rename_i hr;obtain⟨b,e1,e2⟩:=Ri hr;rw[Sx]at e1;refine key _ ⟨xs,ys,zU _,zU _,eL h1,hq _ _ (EqT.JF h2),?_⟩;grind
   .cases h
  .cases h
 .rename_i t' l;split at h<;>cases h;rename_i ht;have hl:0<aA l:=hp _ aH;refine⟨ht,λe=> ?_,rfl,hK⟩;have e2:=congrArg aA e;rw[t'.wide.length,List.length_nil]at e2;have:=Nat.mul_pos hl t'.mS;omega
 .split at h
  .rename_i a b h1 h2 h3;cases h;rw[AO h1,AO h2];exact⟨h3,hK⟩
  .rename_i a b h1 h2 h3;cases h;rw[AO h1,AO h2];exact⟨h3,hK⟩
  .cases h
def sun(raw:Bool)(op:UnOp)(x:SV):Option (List Prop×SV):=match op with
 | .not=>(match E0 x with|some r=>aD ([],r)|none=>aM)
 | .neg=>(match x with| .int k a=>aD (rJ raw k (0-a))|_=>aM)
 |_=>aM
def aEE{op:UnOp}(h:sun raw op x=aD (ps,r))(hp:∀p∈ps,p)(hK:K r.av):unA op x.av K:=by
 unfold sun at h;split at h
 .split at h<;>cases h;rename_i hr;obtain⟨b,e1,e2⟩:=Ri hr;rw[e1];rw[e2]at hK;exact hK
 .split at h
  .rename_i k a;simp only[iG]at h;have e:=xt (raw:=raw) (k:=k) (x:=0-a) aH;show K _;grind
  .cases h
 .cases h
def KM(P:Program)(raw:Bool)(s d:TypeId)(x:SV):Option (List Prop×SV):=match x with
 | .int _ a=>(match(P.underlying s).isSome,Kj P d with
   |true,aD k=>aD (rJ raw k a)
   |_,_=>aM)
 |_=>aM
def aBx{s d:TypeId}(h:KM P raw s d x=aD (ps,r))(hp:∀p∈ps,p)(hK:K r.av):Eh P s d x.av K:=by
 unfold KM at h;split at h
 .rename_i k0 a;split at h
  .rename_i k h1 h2;simp only[iG]at h;have e:=xt (raw:=raw) (k:=k) (x:=a) aH;exact⟨h1,k,h2,aH⟩
  .cases h
 .cases h
def Ku:SV->Option Int
 | .int _ n=>aD n
 |_=>aM
def aDS{n:Int}(h:Ku x=aD n):E5 x.av=aD n:=by cases x<;>simp only[Ku,reduceCtorEq,iG]at h;subst h;rfl
def E7(E:SE):Option Operand->Option (Option Int)
 |none=>aD aM
 |some x=>(match Ku (E x)with|some n=>aD (aD n)|none=>aM)
def JZ(P:Program)(t:TypeId)(x:SV)(lo hi:Option Int):Option (List Prop×SV):=match eC P t with
 |some e=>(match(P.info? e).isSome,bZ (bH P e) 0 with
  |true,aK=>(match x,lo,hi with
   | .lst lt l,lo,hi=>(match bZ (bH P e) lt.w with
     |true=>(match lo,hi with
      |none,aM=>aD ([],.lst lt l)
      |some a,aM=>aD ([0<=a/\a<=(aA l:Int)],.lst lt (l.drop a.toNat))
      |none,aD b=>aD ([0<=b/\b<=(aA l:Int)],.lst lt (l.take b.toNat))
      |some a,aD b=>aD ([0<=a/\a<=b/\b<=(aA l:Int)],.lst lt ((l.take b.toNat).drop a.toNat)))
     |false=>aM)
   | .own s lt n,lo,hi=>(match bZ (bH P e) lt.w with
     |true=>(match lo,hi with
      |none,aM=>aD ([],.own s lt n)
      |none,aD b=>aD ([0<=b/\b<=(n:Int)],.owns s lt 0 b.toNat)
      |some a,aM=>aD ([0<=a/\a<=(n:Int)],.owns s lt a.toNat (n-a.toNat))
      |some a,aD b=>aD ([0<=a/\a<=b/\b<=(n:Int)],.owns s lt a.toNat (b.toNat-a.toNat)))
     |false=>aM)
   | .owns s lt o n,lo,hi=>(match bZ (bH P e) lt.w with
     |true=>(match lo,hi with
      |none,aM=>aD ([],.owns s lt o n)
      |none,aD b=>aD ([0<=b/\b<=(n:Int)],.owns s lt o b.toNat)
      |some a,aM=>aD ([0<=a/\a<=(n:Int)],.owns s lt (o+a.toNat) (n-a.toNat))
      |some a,aD b=>aD ([0<=a/\a<=b/\b<=(n:Int)],.owns s lt (o+a.toNat) (b.toNat-a.toNat)))
     |false=>aM)
   | .ownx s n,aM,aM=>aD ([],.ownx s n)
   |_,_,_=>aM)
  |_,_=>aM)
 |none=>aM
def ZW{t:TypeId}{lo hi:Option Int}(h:JZ P t x lo hi=aD (ps,r))(hp:∀p∈ps,p)(hK:K r.av):
  x5 P t x.av (aD (lo.getD 0)) (aD (hi.getD (ED x.av))) K:=by
 unfold JZ at h;split at h
 case h_2=>cases h
 rename_i e he;split at h
 case h_2=>cases h
 rename_i h1 h2;have h2':bH P e≠0:=oc h2;split at h
 .rename_i lt l;split at h
  case h_2=>cases h
  rename_i hw;have hw:=eL hw;have key:∀a b:Int,0<=a->a<=b->b<=aA l->K (.p (.sl (aA ((l.take b.toNat).drop a.toNat)) (lt.enc ((l.take b.toNat).drop a.toNat))))->x5 P t (SV.lst lt l).av (aD a) (aD b) K:=by
   intro a b ha hb hc hK;refine⟨e,a,b,he,h1,h2',rfl,rfl,ha,hb,hc,?_⟩;rw[hw,lt.wide.take,lt.wide.drop];have:aA ((l.take b.toNat).drop a.toNat)=b.toNat-a.toNat:=by simp only[List.length_drop,mK];omega
   rw[<-this];exact hK
  split at h<;>cases h
  .refine key 0 (aA l:Int) aC aC aC ?_;rw[ju,ri];exact hK
  .rename_i a;have hb:=hp _ (cI.2 rfl);refine key a (aA l:Int) hb.1 hb.2 aC ?_;rw[ju,ri];exact hK
  .rename_i b;have hb:=hp _ (cI.2 rfl);exact key 0 b aC hb.1 hb.2 hK
  .rename_i a b;have hb:=hp _ (cI.2 rfl);exact key a b hb.1 hb.2.1 hb.2.2 hK
 .rename_i s lt n;split at h
  case h_2=>cases h
  rename_i hw;have hw:=eL hw;have key:∀a b:Int,0<=a->a<=b->b<=n->K (.own (aa s) (a.toNat*lt.w) (b.toNat-a.toNat))->x5 P t (SV.own s lt n).av (aD a) (aD b) K:=by intro a b ha hb hc hK;refine⟨e,a,b,he,h1,h2',rfl,rfl,ha,hb,hc,?_⟩;rw[hw,ku];exact hK
  split at h<;>cases h
  .refine key 0 (n:Int) aC aC aC ?_;simpa[SV.av]using hK
  .rename_i b;have hb:=hp _ (cI.2 rfl);refine key 0 b aC hb.1 hb.2 ?_;simpa[SV.av]using hK
  .rename_i a;have hb:=hp _ (cI.2 rfl);exact key a (n:Int) hb.1 hb.2 aC (by simpa[SV.av]using hK)
  .rename_i a b;have hb:=hp _ (cI.2 rfl);exact key a b hb.1 hb.2.1 hb.2.2 hK
 .rename_i s lt o n;split at h
  case h_2=>cases h
  rename_i hw;have hw:=eL hw;have key:∀a b:Int,0<=a->a<=b->b<=n->K (.own (aa s) ((o+a.toNat)*lt.w) (b.toNat-a.toNat))->x5 P t (SV.owns s lt o n).av (aD a) (aD b) K:=by intro a b ha hb hc hK;refine⟨e,a,b,he,h1,h2',rfl,rfl,ha,hb,hc,?_⟩;rw[hw,<-Bo];exact hK
  split at h<;>cases h
  .refine key 0 (n:Int) aC aC aC ?_;simpa[SV.av]using hK
  .rename_i b;have hb:=hp _ (cI.2 rfl);refine key 0 b aC hb.1 hb.2 ?_;simpa[SV.av]using hK
  .rename_i a;have hb:=hp _ (cI.2 rfl);exact key a (n:Int) hb.1 hb.2 aC (by simpa[SV.av]using hK)
  .rename_i a b;have hb:=hp _ (cI.2 rfl);exact key a b hb.1 hb.2.1 hb.2.2 hK
 .rename_i s n;cases h;refine⟨e,0,(n:Int),he,h1,h2',rfl,rfl,kY _,aH,kY _,?_⟩;simpa[SV.av]using hK
 .cases h
def Kn(P:Program)(t:TypeId)(x:SV):Option SV:=match x with
 | .lst _ l=>(match(eC P t).isSome with|true=>aD (.int .i64 (aA l:Int))|false=>aM)
 | .own _ _ n=>(match(eC P t).isSome with|true=>aD (.int .i64 (n:Int))|false=>aM)
 | .owns _ _ _ n=>(match(eC P t).isSome with|true=>aD (.int .i64 (n:Int))|false=>aM)
 | .ownx _ n=>(match(eC P t).isSome with|true=>aD (.int .i64 (n:Int))|false=>aM)
 | .owF _ n=>(match(eC P t).isSome with|true=>aD (.int .i64 (n:Int))|false=>aM)
 | .ownf _ _ _ n=>(match(eC P t).isSome with|true=>aD (.int .i64 (n:Int))|false=>aM)
 | .sl n cs=>(match(eC P t).isSome,bm (avs cs)with|true,aD _=>aD (.int .i64 (n:Int))|_,_=>aM)
 | .nil=>(match(eC P t).isSome with|true=>aD (.int .i64 0)|false=>aM)
 |_=>aM
def aDc{t:TypeId}(h:Kn P t x=aD r)(hK:K r.av):E4 P t x.av K:=by
 unfold Kn at h;split at h
 .split at h<;>cases h;rename_i h1;exact⟨h1,hK⟩
 .split at h<;>cases h;rename_i h1;exact⟨h1,hK⟩
 .split at h<;>cases h;rename_i h1;exact⟨h1,hK⟩
 .split at h<;>cases h;rename_i h1;exact⟨h1,hK⟩
 .split at h<;>cases h;rename_i h1;exact⟨h1,hK⟩
 .split at h<;>cases h;rename_i h1;exact⟨h1,hK⟩
 .split at h<;>cases h;rename_i q h1 h2;simp only[SV.av,h2];exact⟨h1,hK⟩
 .split at h<;>cases h;rename_i h1;exact⟨h1,hK⟩
 .cases h
def BK(σ:Sg)(e:TypeId)(lt:LT)(x:SV):Option (List Prop×List lt.ty×List Nat):=match x with
 | .nil=>aD ([],[],[])
 | .own s _ k=>(match σ s with
   |some (.row ty lt' l)=>(match decEq lt' lt,bZ ty e with
    | .isTrue h,aE=>aD ([k=aA l],h▸l,[s])
    |_,_=>aM)
   |_=>aM)
 | .ownx s k=>(match σ s with
   |some (.arr ty ez cs)=>(match bZ ty e,bZ ez lt.w,lt.decs k cs with
    |true,aE,aD l=>aD ([],l,[s])
    |_,_,_=>aM)
   |_=>aM)
 |_=>aM
def ER(σ:Sg)(lt:LT)(x:SV):Option (List Prop×List lt.ty×List Nat):=match x with
 | .nil=>aD ([],[],[])
 | .lst lt' l=>(match decEq lt' lt with
   | .isTrue h=>aD ([],h▸l,[])
   | .isFalse _=>aM)
 | .own s _ k=>(match σ s with
   |some (.row _ lt' l)=>(match decEq lt' lt with
    | .isTrue h=>aD ([k=aA l],h▸l,[s])
    | .isFalse _=>aM)
   |_=>aM)
 | .owns s lt2 o k=>(match σ s with
   |some (.row _ lt' l)=>(match decEq lt' lt,decEq lt2 lt with
    | .isTrue h,.isTrue _=>aD ([o+k<=aA l],(h▸l:List lt.ty).drop o|>.take k,[s])
    |_,_=>aM)
   |_=>aM)
 | .ownx s k=>(match σ s with
   |some (.arr _ ez cs)=>(match bZ ez lt.w,lt.decs k cs with
    |true,aD l=>aD ([],l,[s])
    |_,_=>aM)
   |_=>aM)
 |_=>aM
def EX(P:Program)(ltOf:TypeId->Option LT)(n:Nat)(t t':TypeId)(σ:Sg)(x y:SV):SR:=match eC P t,(eC P t').isSome with
 |some e,aE=>(match ltOf e,En P e,frs σ n with
  |some lt,aE,aE=>(match bZ (bH P e) lt.w,BK σ e lt x,ER σ lt y with
   |true,aD (p1,l,r1),aD (p2,m,r2)=>aD (p1++p2++[aA l+aA m<=1000000],.own n lt (aA (l++m)),r1++r2,r1.map (·,aM)++[(n,aD (.row e lt (l++m)))])
   |_,_,_=>aM)
  |_,_,_=>aM)
 |_,_=>aM
variable{σ:Sg}
def aCm{e:TypeId}{lt:LT}{l:List lt.ty}{r:List Nat}(h:BK σ e lt x=aD (ps,l,r))(hp:∀p∈ps,p){K:Nat->List AV->List Nat->Prop}(hK:K (aA l) ((lt.enc l).map .p) (r.map aa)):KZ σ.a e lt.w x.av K:=by
 unfold BK at h;split at h
 .cases h;exact hK
 .rename_i s _ k;split at h
  .rename_i ty lt' l' hs;split at h
   .rename_i he _ hty;subst he;cases h;have hk:k=aA l':=hp _ aH;refine⟨_,by rw[Sg.ct,hs];rfl,eL hty,rfl,?_,by rw[hk];exact hK⟩;show((lt'.enc l').map AV.p).length=_;rw[dq,lt'.wide.length,hk]
   .cases h
  .cases h
 .rename_i s k;split at h
  .rename_i ty ez cs hs;split at h<;>cases h;rename_i h1 h2 h3;obtain⟨e1,e2⟩:=LT.xw h3;have h2:=eL h2;refine⟨_,by rw[Sg.ct,hs];rfl,eL h1,h2,?_,?_⟩
   .show(avs cs).length=_;rw[e2,dq,lt.wide.length,e1]
   .show K k (avs cs) [aa s];grind
  .cases h
 .cases h
def PK{lt:LT}{l:List lt.ty}{r:List Nat}(h:ER σ lt x=aD (ps,l,r))(hp:∀p∈ps,p){K:Nat->List AV->List Nat->Prop}(hK:K (aA l) ((lt.enc l).map .p) (r.map aa)):ES σ.a lt.w x.av K:=by
 unfold ER at h;split at h
 .cases h;exact hK
 .rename_i lt' l';split at h
  .rename_i he _;subst he;cases h;exact⟨lt'.wide.length _,hK⟩
  .cases h
 .rename_i s _ k;split at h
  .rename_i ty lt' l' hs;split at h
   .rename_i he _;subst he;cases h;have hk:k=aA l':=hp _ aH;refine⟨_,(lt'.enc l').map .p,by rw[Sg.ct,hs];rfl,?_,?_,aH⟩
    .show(((lt'.enc l').map AV.p).drop 0).take (k*lt'.w)=_;rw[Fh,jB (by rw[dq,lt'.wide.length,hk];omega)]
    .rw[dq,lt'.wide.length,hk]
   .cases h
  .cases h
 .rename_i s lt2 o k;split at h
  .rename_i ty lt' l' hs;split at h
   .rename_i he he2 _ _;subst he;subst he2;cases h;have hk:o+k<=aA l':=hp _ aH;have hlen:aA ((l'.drop o).take k)=k:=eO;refine⟨_,(lt2.enc ((l'.drop o).take k)).map .p,by rw[Sg.ct,hs];rfl,?_,?_,aH⟩
    .show(((lt2.enc l').map AV.p).drop (o*lt2.w)).take (k*lt2.w)=_;rw[<-Ff,<-Fg,lt2.wide.drop,lt2.wide.take]
    .rw[dq,lt2.wide.length,hlen]
   .cases h
  .cases h
 .rename_i s k;split at h
  .rename_i ty ez cs hs;split at h<;>cases h;rename_i h1 h3;obtain⟨e1,e2⟩:=LT.xw h3;have hl:aA (avs cs)=k*lt.w:=by rw[e2,dq,lt.wide.length,e1]
   refine⟨_,avs cs,by rw[Sg.ct,hs];rfl,?_,hl,aH⟩;show((avs cs).drop 0).take (k*lt.w)=_;grind
  .cases h
 .cases h
def Yo{e:TypeId}{lt:LT}{l:List lt.ty}{r:List Nat}(h:BK σ e lt x=aD (ps,l,r)):∀s∈r,ss (σ s)=aE:=by
 unfold BK at h;split at h
 .grind
 .split at h
  .rename_i hs;split at h
   .cases h;exact λs' hs'=>by rw[cI.1 hs',hs];rfl
   .cases h
  .cases h
 .split at h
  .rename_i hs;split at h<;>cases h;exact λs' hs'=>by rw[cI.1 hs',hs];rfl
  .cases h
 .cases h
variable{rd:List Nat}
def aBA{ltOf:TypeId->Option LT}{n:Nat}{t t':TypeId}{y:SV}{W:ag}(h:EX P ltOf n t t' σ x y=aD (ps,r,rd,W))(hp:∀p∈ps,p):
  (eC P t').isSome=aE/\BY P n t σ.a x.av y.av λr' R' W'=>r'=r.av/\bw σ rd W R' W':=by
 unfold EX at h;split at h
 case h_2=>cases h
 rename_i e he ht';split at h
 case h_2=>cases h
 rename_i lt hlt htapp hf;split at h
 case h_2=>cases h
 rename_i p1 l r1 p2 m r2 hw h1 h2;cases h;refine⟨ht',e,he,htapp,?_⟩;rw[eL hw];obtain⟨f1,f2⟩:=o6 hf;have hfl:=Yo h1;refine aCm h1 (λp hpp=>hp p (by simp[hpp])) (PK h2 (λp hpp=>hp p (by simp[hpp])) ⟨hp _ af,?_,?_⟩)
 .show _=AV.own (aa n) 0 _;grind
 .have e1:(r1.map aa).map (·,(aM:Option Ob))++[(sit n 0,aD (⟨e,lt.w,(lt.enc l).map AV.p++(lt.enc m).map AV.p⟩:Ob))] =ag.sto (r1.map (·,aM)++[(n,aD (.row e lt (l++m)))]):=by unfold ag.sto;rw[dV,du,du,<-f1];show _++_=_++[(aa n,aD (⟨e,lt.w,(lt.enc (l++m)).map AV.p⟩:Ob))];rw[lt.wide.append,dV];rfl
  rw[e1,<-dV];refine bw.flat λq hq=> ?_;rcases bz.1 hq with hq|hq
  .obtain⟨s,hs,rfl⟩:=bn.1 hq;exact⟨hfl s hs,rfl⟩
  .rw[cI.1 hq,f2];exact⟨rfl,rfl⟩
def bw.take{z n a k:Nat}{ty ity:TypeId}{lt:LT}{L:List (List lt.ty)}{ov:List (Nat×SV)}{ob:SOb}{R:List Nat}(hs:σ z=aD (.fam ty ity lt L ov))(ho:ov.lookup a=aM)(hk:k=aA (L.getD a []))(hn:σ n=aM)(hf:ob.flat=aE)(hR:inC R (rd.map ncl)):
  bw σ rd [(z,aD (.fam ty ity lt L ((a,.ownf z lt a k)::ov))),(n,aD ob)] R [(inn z (a+1),aM),(aa n,aD (ob.ob n))] :=by
 have hzn:z≠n:=λe=>aH;refine⟨hR,λs hm=> ?_,?_⟩
 .have hm:s=inn z (a+1)\/s=aa n:=by simpa using hm
  rcases hm with rfl|rfl
  .rw[gm];grind
  .rw[show cls (aa n)=ncl n from gm n 0];grind
 .funext s
  unfold bM;rcases mN s with⟨y,rfl⟩|⟨y,b,rfl⟩|hno
  .rw[Sg.ct,Sg.ct,eZ,beq_eq_false_iff_ne.2 (show aa y≠inn z (a+1)from λh=>by have:=(gZ h).2;omega)];unfold ag.up;rw[eZ,eZ,eZ];by_cases e:y=z
   .subst e;rw[beq_iff_eq.2 rfl,beq_eq_false_iff_ne.2 (show aa y≠aa n from λh=>hzn (nV h)),hs];show aD (⟨ty,1,_⟩:Ob)=aD ⟨ty,1,_⟩
    congr 2
    refine lg λi hi=> ?_;unfold kE;rw[eZ];by_cases hi:i=a
    .subst hi;rw[beq_iff_eq.2 rfl,ho,hk];rfl
    grind
   .rw[beq_eq_false_iff_ne.2 e];by_cases e2:y=n
    .grind
    .rw[beq_eq_false_iff_ne.2 e2,beq_eq_false_iff_ne.2 (show aa y≠aa n from λh=>e2 (nV h))];rfl
  .rw[Sg.iB,Sg.iB,eZ,eZ,beq_eq_false_iff_ne.2 (show inn y (b+1)≠aa n from λh=>by have:=(gZ h).2;omega)];unfold ag.up;rw[eZ,eZ];by_cases e:y=z
   .subst e;rw[beq_iff_eq.2 rfl,hs];by_cases hb:b=a
    .subst hb;rw[beq_iff_eq.2 rfl];unfold SOb.inner;grind
    .rw[beq_eq_false_iff_ne.2 (show inn y (b+1)≠inn y (a+1)from λh=>hb (by have:=(gZ h).2;omega))];unfold SOb.inner;grind
   .rw[beq_eq_false_iff_ne.2 e,beq_eq_false_iff_ne.2 (show inn y (b+1)≠inn z (a+1)from λh=>e (gZ h).1)];by_cases e2:y=n
    .subst e2;rw[beq_iff_eq.2 rfl,hn];show aM=SOb.inner b ob;rw[SOb.Ca hf]
    grind
  .rw[Sg.lZ _ hno,Sg.lZ _ hno,eZ,eZ,beq_eq_false_iff_ne.2 (hno z (a+1)),beq_eq_false_iff_ne.2 (show s≠aa n from λh=>hno n 0 h)];rfl
def EW(P:Program)(n:Nat)(t t':TypeId)(σ:Sg)(z:Nat)(lt2:LT)(a k:Nat)(y:SV):SR:=match eC P t,(eC P t').isSome,σ z with
 |some e,aE,aD (.fam ty ity lt L ov)=>(match decEq lt2 lt,En P e,frs σ n,bZ ity e,bZ (bH P e) lt.w,ER σ lt y with
  | .isTrue _,aE,aE,aE,aE,aD (p2,m,r2)=>aD ((a<aA L)::(k=aA (L.getD a []))::(pO ov a++p2++[aA (L.getD a [])+aA m<=1000000]),.own n lt (aA (L.getD a [] ++m)),z::r2,[(z,aD (.fam ty ity lt L ((a,.ownf z lt a k)::ov))),(n,aD (.row e lt (L.getD a [] ++m)))])
  |_,_,_,_,_,_=>aM)
 |_,_,_=>aM
def aBz{n:Nat}{t t':TypeId}{z:Nat}{lt2:LT}{a k:Nat}{y:SV}{W:ag}(h:EW P n t t' σ z lt2 a k y=aD (ps,r,rd,W))(hp:∀p∈ps,p):
  (eC P t').isSome=aE/\BY P n t σ.a (SV.ownf z lt2 a k).av y.av λr' R' W'=>r'=r.av/\bw σ rd W R' W':=by
 unfold EW at h;split at h
 case h_2=>cases h
 rename_i e ty ity lt L ov he ht' hs;split at h
 case h_2=>cases h
 rename_i hlt p2 m r2 _ htapp hf hi hw h2;subst hlt;cases h;have ha:a<aA L:=hp _ aH;have hk:k=aA (L.getD a []):=hp _ aH;have ho:ov.lookup a=aM:=vQ λp hq=>hp p (by simp[hq]);refine⟨ht',e,he,htapp,?_⟩;rw[eL hw];obtain⟨f1,f2⟩:=o6 hf;refine⟨_,HG hs ha ho,eL hi,rfl,?_,?_⟩
 .rw[dq,lt2.wide.length,hk]
 .subst hk;refine PK h2 (λp hpp=>hp p (by simp[hpp])) ⟨hp _ af,?_,?_⟩
  .show _=AV.own (aa n) 0 _;grind
  .rw[<-f1];have e1:(⟨e,lt2.w,(lt2.enc (L.getD a [])).map AV.p++(lt2.enc m).map AV.p⟩:Ob)=SOb.ob n (.row e lt2 (L.getD a [] ++m)):=by show _=(⟨e,lt2.w,(lt2.enc (L.getD a [] ++m)).map AV.p⟩:Ob);rw[lt2.wide.append,dV]
   rw[e1];refine bw.take hs ho rfl f2 rfl λs hm=> ?_;rcases bO.1 hm with rfl|hm
   .rw[gm];grind
   .exact cM _ ((bw.read σ r2).1 s hm)
def Ev(P:Program)(ltOf:TypeId->Option LT)(n:Nat)(t t':TypeId)(σ:Sg)(x y:SV):SR:=match x with
 | .ownf z lt a k=>EW P n t t' σ z lt a k y
 |_=>EX P ltOf n t t' σ x y
def aDh{ltOf:TypeId->Option LT}{n:Nat}{t t':TypeId}{y:SV}{W:ag}(h:Ev P ltOf n t t' σ x y=aD (ps,r,rd,W))(hp:∀p∈ps,p):
  (eC P t').isSome=aE/\BY P n t σ.a x.av y.av λr' R' W'=>r'=r.av/\bw σ rd W R' W':=by
 unfold Ev at h;split at h
 .exact aBz h hp
 .exact aBA h hp
def smm(f:Int->Int->Int)(x y:SV):Option SV:=match x,y with
 | .int .i64 a,.int .i64 b=>aD (.int .i64 (f a b))
 |_,_=>aM
def Sa{f:Int->Int->Int}{y:SV}(h:smm f x y=aD r)(hK:K r.av):mmA f x.av y.av K:=by unfold smm at h;split at h<;>cases h;exact hK
end
noncomputable section
def mB(f:SV->Option (List Prop×SV)):List SV->Option (List Prop×List SV)
 |[] =>aD ([],[])
 |x::l=>match f x,mB f l with
  |some (p,y),aD (q,m)=>aD (p++q,y::m)
  |_,_=>aM
def EU(d:Nat)(σ:Sg)(x n:Nat):Option (List Prop×SV):=match d,σ x with
 |_+1,aD (.fam _ _ .I L [])=>aD ([n=aA L],.lst .Q L)
 |_+1,aD (.fam _ _ .V L [])=>aD ([n=aA L],.lst .R L)
 |_,_=>aM
def mU:Nat->Sg->SV->Option (List Prop×SV)
 |_,_,.nil=>aD ([],.sl 0 [])
 |_+1,σ,.own s _ n=>(match σ s with
  |some (.row _ lt l)=>aD ([n=aA l],.lst lt l)
  |_=>aM)
 |_+1,σ,.owns s lt2 o n=>(match σ s with
  |some (.row _ lt l)=>(match bZ lt2.w lt.w with|true=>aD ([o+n<=aA l],.lst lt ((l.drop o).take n))|false=>aM)
  |_=>aM)
 |d+1,σ,.ownx s n=>(match σ s with
  |some (.arr _ ez cs)=>(match bZ (aA cs) (n*ez),mB (mU d σ) cs with|true,aD (ps,m)=>aD (ps,.sl n m)|_,_=>aM)
  |_=>aM)
 |d+1,σ,.ptr s off=>(match σ s with
  |some (.box _ cs)=>(match mB (mU d σ) cs with|some (ps,m)=>aD (ps,.pro m off)|none=>aM)
  |_=>aM)
 |_+1,σ,.ownf x _ a n=>(match σ x with
  |some (.fam _ _ lt L ov)=>aD ((a<aA L)::(n=aA (L.getD a []))::pO ov a,.lst lt (L.getD a []))
  |_=>aM)
 |d+1,σ,.owF x n=>EU d σ x n
 |d+1,σ,.agg l=>(match mB (mU d σ) l with|some (ps,m)=>aD (ps,.agg m)|none=>aM)
 |d+1,σ,.fn f a b=>(match mB (mU d σ) a,mB (mU d σ) b with|some (p,x),aD (q,y)=>aD (p++q,.fnp f x y)|_,_=>aM)
 |_,_,x=>(match x.av with| .p _=>aD ([],x)|_=>aM)
def AZ{d:Nat}{σ:Sg}{f:SV->Option (List Prop×SV)}(hf:∀x ps y,f x=aD (ps,y)->(∀p∈ps,p)->∃q,eK d σ.a x.av=aD q/\y.av= .p q):
  ∀{l:List SV} {ps:List Prop} {m:List SV},mB f l=aD (ps,m)->(∀p∈ps,p)->∃q,fM (eK d σ.a) (avs l)=aD q/\avs m=q.map .p
 |[],ps,m,h,_=>by obtain⟨rfl,rfl⟩:=h;exact⟨[],rfl,rfl⟩
 |x::l,ps,m,h,hp=>by
  unfold mB at h;split at h
  .rename_i p y q m' h1 h2;cases h;obtain⟨u,e1,e2⟩:=hf x p y h1 (λr hr=>hp r aH);obtain⟨v,e3,e4⟩:=AZ hf h2 (λr hr=>hp r aH);refine⟨u::v,?_,by rw[avs,e2,e4];rfl⟩;rw[avs,fM,e1,e3]
  .cases h
variable{d:Nat}{σ:Sg}{ps:List Prop}
def M7{x:SV}{y:SV}(h:(match x.av with| .p _=>aD (([] :List Prop),x)|_=>aM)=aD (ps,y)):∃q,eK d σ.a x.av=aD q/\y.av= .p q:=by split at h<;>cases h;rename_i q hq;exact⟨q,by rw[hq,Ja],hq⟩
variable{n:Nat}
def M8{x a:Nat}{ty ity:TypeId}{lt:LT}{L:List (List lt.ty)}{ov:List (Nat×SV)}(hs:σ x=aD (.fam ty ity lt L ov))(ha:a<aA L)(hn:n=aA (L.getD a []))(ho:ov.lookup a=aM):
  eK (d+1) σ.a (.own (inn x (a+1)) 0 n)=aD (.sl (aA (L.getD a [])) (lt.enc (L.getD a []))):=by
 unfold eK;rw[HG hs ha ho];simp only[tU,vm,fk,Fh];rw[jB (by rw[lt.wide.length,hn];omega),hn]
def Pv{d:Nat}{g:Nat->Option Ob}{f:Nat->AV}{h:Nat->PV}:∀(l:List Nat),(∀i∈l,eK d g (f i)=aD (h i))->fM (eK d g) (l.map f)=aD (l.map h)
 |[],_=>rfl
 |i::l,H=>by
  rw[dU,fM,H i aH,Pv l λj hj=>H j (cM _ hj)];rfl
def HO{α β:Type}(f:α->β):∀l:List α,(l.flatMap λr=>[f r])=l.map f
 |[] =>rfl
 |a::l=>by rw[fw,dU,HO f l];rfl
def PN{x:Nat}{ty ity:TypeId}{lt:LT}{L:List (List lt.ty)}(hs:σ x=aD (.fam ty ity lt L []))(hn:n=aA L):
  eK (d+2) σ.a (.own (aa x) 0 n)=aD (.sl n (L.flatMap λr=>[PV.sl (aA r) (lt.enc r)])):=by
 have e1:Sg.a σ (aa x)=aD ⟨ty,1,(bT (aA L)).map (kE x L [])⟩:=by rw[Sg.ct,hs];rfl
 have e2:fM (eK (d+1) σ.a) ((bT (aA L)).map (kE x L []))=aD ((bT (aA L)).map λi=>PV.sl (aA (L.getD i [])) (lt.enc (L.getD i []))):=
  Pv _ λi hi=>M8 (ov:=[]) hs aH rfl rfl
 have e3:((bT (aA L)).map λi=>PV.sl (aA (L.getD i [])) (lt.enc (L.getD i [])))=L.flatMap λr=>[PV.sl (aA r) (lt.enc r)] :=by
  rw[HO (λr:List lt.ty=>PV.sl (aA r) (lt.enc r))];refine wg af λi h1 h2=> ?_;have h3:i<aA L:=by simpa using h2
  rw[kz,kz,List.getElem_range,fY,fQ h3];rfl
 unfold eK;rw[e1];simp only[tU,e2,e3,fk,Fh];rw[jB];grind
def aBr{x:Nat}{y:SV}(h:EU d σ x n=aD (ps,y))(hp:∀p∈ps,p):∃q,eK (d+1) σ.a (SV.owF x n).av=aD q/\y.av= .p q:=by
 unfold EU at h;split at h
 .rename_i d ty ity L hs;cases h;have hn:n=aA L:=hp _ aH;exact⟨_,PN hs hn,by rw[hn];rfl⟩
 .rename_i d ty ity L hs;cases h;have hn:n=aA L:=hp _ aH;exact⟨_,PN hs hn,by rw[hn];rfl⟩
 .cases h
def Hw:∀{d:Nat} {x:SV} {ps:List Prop} {y:SV},mU d σ x=aD (ps,y)->(∀p∈ps,p)->∃q,eK d σ.a x.av=aD q/\y.av= .p q:=by
 intro d;induction d with
 |zero=>
  intro x ps y h hp;cases x<;>first
   |(change aD ([],SV.sl 0 [])=aD (ps,y)at h;cases h;exact⟨.sl 0 [],rfl,rfl⟩)
   |exact M7 h
 |succ d ih=>
  intro x ps y h hp;have ihl:= @AZ d σ (mU d σ) aH;cases x with
  |nil=>cases h;exact⟨.sl 0 [],rfl,rfl⟩
  |own s t n=>
   change (match σ s with|some (.row _ lt l)=>aD ([n=aA l],SV.lst lt l)|_=>aM)=_ at h;split at h<;>cases h;rename_i ty lt l hs;have hn:n=aA l:=hp _ aH;refine⟨_,?_,rfl⟩;show eK (d+1) (Sg.a σ) (.own (aa s) 0 n)=_;unfold eK;have:Sg.a σ (aa s)=aD ⟨ty,lt.w,(lt.enc l).map .p⟩:=by rw[Sg.ct,hs];rfl
   rw[this];simp only[tU,vm,fk,Fh];rw[jB (by rw[lt.wide.length,hn];omega),hn]
  |owns s lt2 o n=>
   change (match σ s with|some (.row _ lt l)=>(match bZ lt2.w lt.w with|true=>aD ([o+n<=aA l],SV.lst lt ((l.drop o).take n))|false=>aM)|_=>aM)=_ at h;split at h
   case h_2=>cases h
   rename_i ty lt l hs;split at h<;>cases h;rename_i hw;have hw:=eL hw;have hn:o+n<=aA l:=hp _ aH;refine⟨_,?_,rfl⟩;show eK (d+1) (Sg.a σ) (.own (aa s) (o*lt2.w) n)=_;unfold eK;have:Sg.a σ (aa s)=aD ⟨ty,lt.w,(lt.enc l).map .p⟩:=by rw[Sg.ct,hs];rfl
   rw[this];simp only[tU,vm,fk];rw[hw,lt.wide.drop,lt.wide.take];grind
  |ownx s n=>
   change (match σ s with|some (.arr _ ez cs)=>(match bZ (aA cs) (n*ez),mB (mU d σ) cs with|true,aD (ps,m)=>aD (ps,SV.sl n m)|_,_=>aM)|_=>aM)=_ at h;split at h
   case h_2=>cases h
   rename_i ty ez cs hs;split at h<;>cases h;rename_i m hl hm;obtain⟨q,e1,e2⟩:=ihl hm hp;refine⟨.sl n q,?_,by show(match bm (avs m)with|some q=>AV.p (.sl n q)|none=> .any)=_;rw[e2,eW]⟩;show eK (d+1) (Sg.a σ) (.own (aa s) 0 n)=_;unfold eK;have:Sg.a σ (aa s)=aD ⟨ty,ez,avs cs⟩:=by rw[Sg.ct,hs];rfl
   rw[this];simp only[tU,e1,fk,Fh];rw[jB (by rw[<-(qj e1).1,lD,eL hl];omega)]
  |ptr s off=>
   change (match σ s with|some (.box _ cs)=>(match mB (mU d σ) cs with|some (ps,m)=>aD (ps,SV.pro m off)|none=>aM)|_=>aM)=_ at h;split at h
   case h_2=>cases h
   rename_i ty cs hs;split at h<;>cases h;rename_i m hm;obtain⟨q,e1,e2⟩:=ihl hm hp;refine⟨.pro q off,?_,by show(match bm (avs m)with|some q=>AV.p (.pro q off)|none=> .any)=_;rw[e2,eW]⟩;show eK (d+1) (Sg.a σ) (.ptr (aa s) off)=_;unfold eK;have:Sg.a σ (aa s)=aD ⟨ty,0,avs cs⟩:=by rw[Sg.ct,hs];rfl
   grind
  |ownf x t a n=>
   change (match σ x with|some (.fam _ _ lt L ov)=>aD ((a<aA L)::(n=aA (L.getD a []))::pO ov a,SV.lst lt (L.getD a []))|_=>aM)=_ at h;split at h<;>cases h;rename_i ty ity lt L ov hs;have ha:a<aA L:=hp _ aH;have hn:n=aA (L.getD a []):=hp _ aH;have ho:ov.lookup a=aM:=vQ aH;exact⟨_,M8 hs ha hn ho,rfl⟩
  |owF x n=>exact aBr (show EU d σ x n=_ from h) hp
  |agg l=>
   change (match mB (mU d σ) l with|some (ps,m)=>aD (ps,SV.agg m)|none=>aM)=_ at h;split at h<;>cases h;rename_i m hm;obtain⟨q,e1,e2⟩:=ihl hm hp;refine⟨.agg q,?_,by show fg (avs m)=_;rw[e2,vL]⟩;show eK (d+1) (Sg.a σ) (fg (avs l))=_;unfold fg;cases hq:bm (avs l)with
   |some q'=>
    rw[kN hq,vm]at e1;cases e1;exact Ja _ _ _
   |none=>unfold eK;rw[e1];rfl
  |fn f a b=>
   change (match mB (mU d σ) a,mB (mU d σ) b with|some (p,x),aD (q,y)=>aD (p++q,SV.fnp f x y)|_,_=>aM)=_ at h;split at h<;>cases h;rename_i p x q y h1 h2;obtain⟨u,e1,e2⟩:=ihl h1 (λr hr=>hp r aH);obtain⟨v,e3,e4⟩:=ihl h2 (λr hr=>hp r aH);refine⟨.fn (.func f) u v,?_,by show(match bm (avs x),bm (avs y)with|some x,aD y=>AV.p (.fn (.func f) x y)|_,_=> .any)=_;rw[e2,e4,eW,eW]⟩;show eK (d+1) (Sg.a σ) (.fn (.func f) (avs a) (avs b))=_;unfold eK;grind
  |_=>exact M7 h
def eQ:Nat->Sg->SV->List Nat
 |0,_,_=>[]
 |d+1,σ,x=>
  let O:Nat->List Nat:=λs=>match σ s with
   |some (.box _ cs)=>bl (eQ d σ) cs
   |some (.arr _ _ cs)=>bl (eQ d σ) cs
   |some (.fam _ _ _ _ ov)=>bl (λq:Nat×SV=>eQ d σ q.2) ov
   |_=>[]
  match x with
  | .own s _ _=>s::O s
  | .owns s _ _ _=>s::O s
  | .ownx s _=>s::O s
  | .ptr s _=>s::O s
  | .pte s _ _ _=>s::O s
  | .ptf s _=>s::O s
  | .owF s _=>s::O s
  | .ownf s _ _ _=>[s]
  | .ptef s _ _ _ _=>[s]
  | .agg l=>bl (eQ d σ) l
  | .fn _ a b=>bl (eQ d σ) a++bl (eQ d σ) b
  |_=>[]
def oJ:Nat->Sg->SV->Bool
 |0,_,_=>aE
 |d+1,σ,x=>
  let O:Nat->Bool:=λs=>match σ s with
   |some (.box _ cs)=>cs.all (oJ d σ)
   |some (.arr _ _ cs)=>cs.all (oJ d σ)
   |some (.fam ..)=>aK
   |_=>aE
  match x with
  | .own s _ _=>O s
  | .owns s _ _ _=>O s
  | .ownx s _=>O s
  | .ptr s _=>O s
  | .pte s _ _ _=>O s
  | .ptf s _=>O s
  | .owF s _=>O s
  | .ownf .. =>aK
  | .ptef .. =>aK
  | .agg l=>l.all (oJ d σ)
  | .fn _ a b=>a.all (oJ d σ)&&b.all (oJ d σ)
  |_=>aE
def td{g:Nat->Option Ob}{y:AV}(h:(∃q,y= .p q)\/y= .any\/(∃l,y= .tup l)):cu (d+1) g y=[] :=by rcases h with⟨q,rfl⟩|rfl|⟨l,rfl⟩<;>rfl
def uI(x:SV):(match x with| .tup _| .sl .. | .pro .. | .fnp .. =>True|_=>False)->(∃q,x.av= .p q)\/x.av= .any\/(∃l,x.av= .tup l):=by
 intro h;cases x<;>first|exact h.elim|skip
 .show(∃q,l7 _= .p q)\/l7 _= .any\/∃m,l7 _= .tup m;unfold l7;grind
 all_goals
  simp only[SV.av];split
  .exact .inl ⟨_,rfl⟩
  .exact .inr (.inl rfl)
def Pk{g:Nat->Option Ob}(l:List SV):cu (d+1) g (fg (avs l))=bl (cu d g) (avs l):=by
 unfold fg;cases hq:bm (avs l)with
 |none=>rfl
 |some q=>rw[kN hq,sI];rfl
def R4{A B Ac Bc:List Nat}(h1:inC A Ac)(h2:inC B Bc):inC (A++B) (Ac++Bc):=λs hs=>by
 rcases bz.1 hs with h|h
 .exact iS _ (h1 s h)
 .exact iF _ (h2 s h)
def uC{d:Nat}{σ:Sg}(ih:∀x:SV,inC (cu d σ.a x.av) ((eQ d σ x).map ncl)):∀l:List SV,inC (bl (cu d σ.a) (avs l)) ((bl (eQ d σ) l).map ncl)
 |[] =>λs hs=>(cp hs).elim
 |x::l=>by rw[avs,bl,bl,dV];exact R4 (ih x) (uC ih l)
def aBH(ih:∀x:SV,inC (cu d σ.a x.av) ((eQ d σ x).map ncl)):∀s:Nat,inC (aa s::(match σ.a (aa s)with|some ob=>bl (cu d σ.a) ob.cells|none=>[])) ((s::(match σ s with|some (.box _ cs)=>bl (eQ d σ) cs|some (.arr _ _ cs)=>bl (eQ d σ) cs|some (.fam _ _ _ _ ov)=>bl (λq:Nat×SV=>eQ d σ q.2) ov|_=>[])).map ncl):=by
 intro s t ht;rw[Sg.ct]at ht;rcases bO.1 ht with rfl|ht
 .rw[show cls (aa s)=ncl s from gm s 0];grind
 cases hs:σ s with
 |none=>grind
 |some ob=>
  rw[hs]at ht;cases ob with
  |box ty cs=>exact cM _ (uC ih cs t ht)
  |row ty lt l=>
   have ht:t∈bl (cu d σ.a) ((lt.enc l).map .p):=ht;rw[sI]at ht;grind
  |arr ty ez cs=>exact cM _ (uC ih cs t ht)
  |mp ks=>
   have ht:t∈bl (cu d σ.a) (ic (iz ks)):=ht;rw[vR,sI]at ht;grind
  |fam ty ity lt L ov=>
   have ht:t∈bl (cu d σ.a) ((bT (aA L)).map (kE s L ov)):=ht;have:∀l:List Nat,t∈bl (cu d σ.a) (l.map (kE s L ov))->cls t∈ncl s::((bl (λq:Nat×SV=>eQ d σ q.2) ov).map ncl):=λl=>by
    induction l with
    |nil=>intro h;exact(cp h).elim
    |cons i l ihl=>
     intro h;rcases bz.1 h with h|h
     .unfold kE at h;split at h
      .rename_i v hv;obtain⟨y,hy,e⟩:=bn.1 (ih v t h);refine cM _ (bn.2 ⟨y,qf (x:=(i,v)) ?_ hy,e⟩);have key:∀ov:List (Nat×SV),ov.lookup i=aD v->(i,v)∈ov:=λov hv=>by
        induction ov with
        |nil=>cases hv
        |cons q ov ihv=>
         grind
       grind
      .cases d with
       |zero=>exact(cp h).elim
       |succ d=>
        rcases bO.1 h with rfl|h
        .rw[gm];grind
        .rw[Sg.iB,hs]at h;have h:t∈(match(match ov.lookup i with|some _=>aM|none=>(L[i]?).map λl=>(⟨ity,lt.w,(lt.enc l).map .p⟩:Ob))with|some ob=>bl (cu d σ.a) ob.cells|none=>[]):=h;split at h
         .rename_i ob hob;split at hob
          .cases hob
          .cases hL:L[i]? with
           |none=>grind
           |some l=>rw[hL]at hob;cases hob;rw[sI]at h;grind
         grind
     grind
   grind
def YQ:∀s a:Nat,inC (inn s (a+1)::(match σ.a (inn s (a+1))with|some ob=>bl (cu d σ.a) ob.cells|none=>[])) ([s].map ncl):=by
 intro s a t ht;rcases bO.1 ht with rfl|ht
 .rw[gm];grind
 .rw[Sg.iB]at ht;cases hs:σ s with
  |none=>grind
  |some ob=>
   rw[hs]at ht;cases ob with
   |fam ty ity lt L ov=>
    have ht:t∈(match(match ov.lookup a with|some _=>aM|none=>(L[a]?).map λl=>(⟨ity,lt.w,(lt.enc l).map .p⟩:Ob))with|some ob=>bl (cu d σ.a) ob.cells|none=>[]):=ht;split at ht
    .rename_i ob hob;split at hob
     .cases hob
     .cases hL:L[a]? with
      |none=>grind
      |some l=>rw[hL]at hob;cases hob;rw[sI]at ht;grind
    grind
   |_=>exact(cp ht).elim
def RL:∀(d:Nat) (x:SV),inC (cu d σ.a x.av) ((eQ d σ x).map ncl):=by
 intro d;induction d with
 |zero=>intro x s hs;exact(cp hs).elim
 |succ d ih=>
  intro x;have obs:=aBH ih;have inner:=YQ (σ:=σ) (d:=d);have non:∀{y:SV} {l:List Nat},cu (d+1) σ.a y.av=[]->inC (cu (d+1) σ.a y.av) l:=λh=>by rw[h];exact λs hs=>aH
  cases x with
  |own s t n=>exact obs s
  |owns s t o n=>exact obs s
  |ownx s n=>exact obs s
  |ptr s off=>exact obs s
  |pte s t i off=>exact obs s
  |ptf s a=>exact obs s
  |owF s n=>exact obs s
  |ownf s t a n=>exact inner s a
  |ptef s t a i off=>exact inner s a
  |agg l=>
   show inC (cu (d+1) σ.a (fg (avs l))) _;rw[Pk];exact uC ih l
  |fn f a b=>
   show inC (bl (cu d σ.a) (avs a)++bl (cu d σ.a) (avs b)) ((bl (eQ d σ) a++bl (eQ d σ) b).map ncl);rw[dV];exact R4 (uC ih a) (uC ih b)
  |tup l=>exact non (td (uI _ trivial))
  |sl n cs=>exact non (td (uI _ trivial))
  |pro cs off=>exact non (td (uI _ trivial))
  |fnp f a b=>exact non (td (uI _ trivial))
  |_=>exact non rfl
def vT{d:Nat}{σ:Sg}(ih:∀x:SV,oJ d σ x=aE->cu d σ.a x.av=(eQ d σ x).map aa/\∀y∈eQ d σ x,ss (σ y)=aE):∀l:List SV,l.all (oJ d σ)=aE->bl (cu d σ.a) (avs l)=(bl (eQ d σ) l).map aa/\∀y∈bl (eQ d σ) l,ss (σ y)=aE
 |[],_=>⟨rfl,λy hy=>(cp hy).elim⟩
 |x::l,h=>by
  rw[List.all_cons,cD]at h;obtain⟨a1,a2⟩:=ih x h.1;obtain⟨b1,b2⟩:=vT ih l h.2;rw[avs,bl,bl,dV,a1,b1];grind
def Zu:∀(d:Nat) (x:SV),oJ d σ x=aE->cu d σ.a x.av=(eQ d σ x).map aa/\∀y∈eQ d σ x,ss (σ y)=aE:=by
 intro d;induction d with
 |zero=>intro x _;exact⟨rfl,λy hy=>(cp hy).elim⟩
 |succ d ih=>
  intro x hx;have obs:∀s:Nat,(match σ s with|some (.box _ cs)=>cs.all (oJ d σ)|some (.arr _ _ cs)=>cs.all (oJ d σ)|some (.fam ..)=>aK|_=>aE)=aE->
    (aa s::(match σ.a (aa s)with|some ob=>bl (cu d σ.a) ob.cells|none=>[]))=(s::(match σ s with|some (.box _ cs)=>bl (eQ d σ) cs|some (.arr _ _ cs)=>bl (eQ d σ) cs|some (.fam _ _ _ _ ov)=>bl (λq:Nat×SV=>eQ d σ q.2) ov|_=>[])).map aa/\
    ∀y∈(s::(match σ s with|some (.box _ cs)=>bl (eQ d σ) cs|some (.arr _ _ cs)=>bl (eQ d σ) cs|some (.fam _ _ _ _ ov)=>bl (λq:Nat×SV=>eQ d σ q.2) ov|_=>[])),ss (σ y)=aE:=by
   intro s h;rw[Sg.ct,dU];cases hs:σ s with
   |none=>exact⟨rfl,λy hy=>by rw[cI.1 hy,hs];rfl⟩
   |some ob=>
    rw[hs]at h;cases ob with
    |box ty cs=>
     obtain⟨a1,a2⟩:=vT ih cs h;refine⟨congrArg (aa s:: ·) a1,λy hy=> ?_⟩;rcases bO.1 hy with rfl|hy
     .rw[hs];rfl
     grind
    |row ty lt l=>exact⟨congrArg (aa s:: ·) (sI _ _ _),λy hy=>by rw[cI.1 hy,hs];rfl⟩
    |arr ty ez cs=>
     obtain⟨a1,a2⟩:=vT ih cs h;refine⟨congrArg (aa s:: ·) a1,λy hy=> ?_⟩;rcases bO.1 hy with rfl|hy
     .rw[hs];rfl
     grind
    |mp ks=>
     refine⟨congrArg (aa s:: ·) ?_,λy hy=>by rw[cI.1 hy,hs];rfl⟩;show bl (cu d σ.a) (ic (iz ks))=_;rw[vR];exact sI _ _ _
    |fam=>cases h
  have non:∀{y:SV},cu (d+1) σ.a y.av=[]->eQ (d+1) σ y=[]->cu (d+1) σ.a y.av=(eQ (d+1) σ y).map aa/\∀z∈eQ (d+1) σ y,ss (σ z)=aE:=aH;cases x with
  |own s t n=>exact obs s hx
  |owns s t o n=>exact obs s hx
  |ownx s n=>exact obs s hx
  |ptr s off=>exact obs s hx
  |pte s t i off=>exact obs s hx
  |ptf s a=>exact obs s hx
  |owF s n=>exact obs s hx
  |ownf s t a n=>cases hx
  |ptef s t a i off=>cases hx
  |agg l=>
   show cu (d+1) σ.a (fg (avs l))=_/\_;rw[Pk];exact vT ih l hx
  |fn f a b=>
   have hx:(a.all (oJ d σ)&&b.all (oJ d σ))=aE:=hx;rw[cD]at hx;obtain⟨a1,a2⟩:=vT ih a hx.1;obtain⟨b1,b2⟩:=vT ih b hx.2;show bl (cu d σ.a) (avs a)++bl (cu d σ.a) (avs b)=(bl (eQ d σ) a++bl (eQ d σ) b).map aa/\∀y∈bl (eQ d σ) a++bl (eQ d σ) b,_;grind
  |tup l=>exact non (td (uI _ trivial)) rfl
  |sl n cs=>exact non (td (uI _ trivial)) rfl
  |pro cs off=>exact non (td (uI _ trivial)) rfl
  |fnp f a b=>exact non (td (uI _ trivial)) rfl
  |_=>exact non rfl rfl
inductive RK(X:Type) where
 |val (fr:Bool) (res:X->SV)
 |own (ty:TypeId) (t:LT) (l:X->List t.ty) (ys:X->List SV)
 |ownN (ty:TypeId) (t:LT) (l:X->List t.ty)
 |mutR (t:LT) (ty:TypeId) (l':X->List t.ty)
 |mutB (ty:TypeId) (cells':X->List SV)
 |tree (res:X->SV) (obs:X->ag)
 |rowB (t:LT) (ty:TypeId) (l':X->List t.ty)
structure Con where
 X:Type
 dec:List SV->Option X
 pre:X->List Prop
 rk:RK X
def aFW(P:Program)(f:Nat){X:Type}(dec:List SV->Option X)(pre:X->List Prop):RK X->Prop
 | .val fr res=>∀xs x,dec xs=aD x->(∀p∈pre x,p)->∃A r,avs xs=A.map .p/\(res x).av= .p r/\Sat P fr f A r
 | .own ty t l ys=>∀xs x,dec xs=aD x->(∀p∈pre x,p)->∃A Y,avs xs=A.map .p/\avs (ys x)=Y.map .p/\yo P f A ty t.w (t.enc (l x)) (aA (l x)) Y
 | .ownN ty t l=>∀xs x,dec xs=aD x->(∀p∈pre x,p)->∃A,avs xs= .nil::A.map .p/\LF P f A ty t.w (t.enc (l x)) (aA (l x)) []
 | .mutR t ty l'=>∀l rest x,dec (.lst t l::rest)=aD x->(∀p∈pre x,p)->∃A,avs rest=A.map .p/\pS P f (aD (aA l)) A ty t.w (t.enc l) (t.enc (l' x))
 | .mutB ty cells'=>∀cs rest x,dec (.agg cs::rest)=aD x->(∀p∈pre x,p)->∃A q q',avs rest=A.map .p/\avs cs=q.map .p/\avs (cells' x)=q'.map .p/\pS P f aM A ty 0 q q'
 | .tree res obs=>∀xs x,dec xs=aD x->(∀p∈pre x,p)->∃A,avs xs=A.map .p/\LE P f A (res x).av (Sg.a (ag.at (obs x)))
 | .rowB t ty l'=>∀l rest x,dec (.lst t l::rest)=aD x->(∀p∈pre x,p)->∃A,avs rest=A.map .p/\LG P f (aA l) A ty t.w (t.enc l) (t.enc (l' x)) (aA (l' x))
def Con.Ok(P:Program)(f:Nat)(c:Con):Prop:=aFW P f c.dec c.pre c.rk
abbrev Tab:=Nat->Option Con
def Tab.Ok(P:Program)(T:Tab):Prop:=∀f c,T f=aD c->c.Ok P f
def LT.argP:(t:LT)->t.ty->PV
 | .V=>λv=> .agg [.int .i64 v.x,.int .i64 v.y]
 | .S=>λs=> .agg [.int .i64 s.a.x,.int .i64 s.a.y,.int .i64 s.b.x,.int .i64 s.b.y]
 | .R=>λr=> .sl (aA r) (iR r)
 | .I=>λn=> .int .i64 n
 | .B=>λb=> .bool b
 | .P=>λp=> .agg [.int .i64 p.1,.int .i64 p.2]
 | .Q=>λr=> .sl (aA r) (K7 r)
def LT.one:LT->Bool
 | .V=>aK
 | .S=>aK
 | .P=>aK
 |_=>aE
def BX(t:LT)(v:SV):Option t.ty:=match t.one with
 |true=>t.dec [v]
 |false=>(match v with| .agg l=>t.dec l|_=>aM)
def JP{t:LT}{v:SV}{x:t.ty}(h:BX t v=aD x):v.av= .p (t.argP x):=by
 have agg:∀l:List SV,v= .agg l->t.dec l=aD x->v.av= .p (.agg (t.rowP x)):=by intro l e hd;subst e;show fg (avs l)=_;rw[LT.A9 hd,vL]
 have one:t.dec [v] =aD x->∀c,t.rowP x=[c]->v.av= .p c:=by intro hd c hc;have:=LT.A9 hd;rw[hc]at this;simp only[avs,dU,qV,re,and_true]at this;exact this
 unfold BX at h;cases t<;>simp only[LT.one]at h<;>first
  |exact one h _ rfl
  |(split at h<;>first|exact agg _ rfl h|cases h)
def aFo(P:Program)(pv:PV)(t:LT)(q:t.ty->Bool)(dom:t.ty->Prop):Prop:=∃f first caps,pv= .fn (.func f) first caps/\∀x,dom x->∃fr,Sat P fr f (first++[t.argP x] ++caps) (.bool (q x))
def aFn(P:Program)(pv:PV)(t:LT)(q:t.ty->t.ty->Int)(dom:t.ty->t.ty->Prop):Prop:=∃f first caps,pv= .fn (.func f) first caps/\∀x y,dom x y->∃fr,Sat P fr f (first++[t.argP x,t.argP y] ++caps) (.int .i64 (q x y))
def Ka(x:SV):Bool:=match x.av with
 | .p r=>r.flat
 |_=>aK
def EV(T:Tab)(n:Nat)(σ:Sg)(f:Nat)(xs:List SV):SR:=match T f with
 |none=>aM
 |some ⟨_,dec,pre,rk⟩=>(match rk with
  | .val fr res=>(match mB (mU 3 σ) xs with
    |some (ps,bs)=>(match dec bs with
     |some x=>(match(res x).ape,bm (avs xs)with
      |false,aD _=>aD (ps++pre x,res x,[],[])
      |false,aM=>(match fr,Ka (res x)with
       |false,aK=>(match xs.all (oJ 3 σ)with|true=>aD (ps++pre x,res x,bl (eQ 3 σ) xs,(bl (eQ 3 σ) xs).map (·,aM))|false=>aM)
       |_,_=>aD (ps++pre x,res x,bl (eQ 3 σ) xs,[]))
      |_,_=>aM)
     |none=>aM)
    |none=>aM)
  | .own ty t l ys=>(match bm (avs xs),dec xs,frs σ n with
    |some _,aD x,aE=>(match ys x with
     |[] =>aD (pre x,.own n t (aA (l x)),[],[(n,aD (.row ty t (l x)))])
     |y::r=>(match bZ (aA (y::r)) 0 with|_=>aD (pre x,.tup (.own n t (aA (l x))::y::r),[],[(n,aD (.row ty t (l x)))])))
    |_,_,_=>aM)
  | .ownN ty t l=>(match xs with
    | .nil::rest=>(match bm (avs rest),dec (.nil::rest),frs σ n with
      |some _,aD x,aE=>aD (pre x,.own n t (aA (l x)),[],[(n,aD (.row ty t (l x)))])
      |_,_,_=>aM)
    |_=>aM)
  | .mutR t ty l'=>(match xs with
    | .own s _ m::rest=>(match σ s,bm (avs rest)with
      |some (.row ty' t' l),aD _=>(match decEq t' t,bZ ty' ty with
       | .isTrue h,aE=>(match dec (.lst t (h▸l)::rest)with
         |some x=>aD ((m=aA l)::pre x,.undef,[s],[(s,aD (.row ty t (l' x)))])
         |none=>aM)
       |_,_=>aM)
      |_,_=>aM)
    |_=>aM)
  | .mutB ty cells'=>(match xs with
    | .ptr s 0::rest=>(match σ s,bm (avs rest)with
      |some (.box ty' cs),aD _=>(match bZ ty' ty,dec (.agg cs::rest)with
       |true,aD x=>aD (pre x,.undef,[s],[(s,aD (.box ty (cells' x)))])
       |_,_=>aM)
      |_,_=>aM)
    |_=>aM)
  | .tree .. =>aM
  | .rowB .. =>aM)
variable{r:SV}{rd:List Nat}{W:ag}
def PZ{P:Program}{T:Tab}(hT:T.Ok P){f:Nat}{xs:List SV}(h:EV T n σ f xs=aD (ps,r,rd,W))(hp:∀p∈ps,p):
  (sP P σ.a f (avs xs) (λr' R' W'=>r'=r.av/\bw σ rd W R' W')\/De P n f (avs xs) (λr' R' W'=>r'=r.av/\bw σ rd W R' W'))/\r.ok:=by
 unfold EV at h;split at h
 .cases h
 rename_i X dec pre rk hTf;have hc:=hT f _ hTf;unfold Con.Ok at hc;split at h
 .rename_i fr res;split at h
  case h_2=>cases h
  rename_i qs bs hb;split at h
  case h_2=>cases h
  rename_i x hx;have fin:(∀p∈qs++pre x,p)->∃A r,fM (eK 3 σ.a) (avs xs)=aD A/\(res x).av= .p r/\Sat P fr f A r:=by
   intro hp;obtain⟨A,r,h1,h2,h3⟩:=hc bs x hx (λp h=>hp p aH);obtain⟨q,h4,h5⟩:=AZ (λx ps y=>Hw) hb (λp h=>hp p aH);rw[h1]at h5;have:A=q:=by have:=congrArg bm h5;rw[eW,eW]at this;cases this;rfl
   subst this;grind
  have hR:bw σ (bl (eQ 3 σ) xs) [] (bl (cu 3 σ.a) (avs xs)) [] :=⟨uC (RL 3) xs,λs hs=>aH,rfl⟩;split at h
  .rename_i A' hape hA';cases h;obtain⟨A,r,h1,h2,h3⟩:=fin hp;refine⟨.inl ?_,SV.qJ hape⟩;rw[h2];rw[kN hA',vm]at h1;cases h1;exact GK h3 hA' ⟨rfl,bw.read σ []⟩
  .rename_i hape hA';cases hfr:fr with
   |true=>
    rw[hfr]at h;cases h;obtain⟨A,r,h1,h2,h3⟩:=fin hp;refine⟨.inl ?_,SV.qJ hape⟩;rw[h2];rw[hfr]at h3;exact MQ h3 h1 rfl ⟨rfl,hR⟩
   |false=>
    cases hfl:Ka (res x)with
    |true=>
     rw[hfr,hfl]at h;cases h;obtain⟨A,r,h1,h2,h3⟩:=fin hp;refine⟨.inl ?_,SV.qJ hape⟩;unfold Ka at hfl;rw[h2]at hfl|-;exact MQ (h3.fresh hfl) h1 rfl ⟨rfl,hR⟩
    |false=>
     rw[hfr,hfl]at h;dsimp only at h;split at h<;>cases h;rename_i hall;obtain⟨A,r,h1,h2,h3⟩:=fin hp;refine⟨.inl ?_,SV.qJ hape⟩;rw[h2];obtain⟨e1,e2⟩:=vT (Zu 3) xs hall;refine Xh h3 h1 e1 ⟨rfl,?_⟩;have e3:((bl (eQ 3 σ) xs).map aa).map (·,(aM:Option Ob))=ag.sto ((bl (eQ 3 σ) xs).map (·,aM)):=by unfold ag.sto;rw[du,du];rfl
     rw[e3];exact bw.flat λq hq=>by obtain⟨y,hy,rfl⟩:=bn.1 hq;exact⟨e2 y hy,rfl⟩
  .cases h
 .rename_i ty t l ys;split at h
  case h_2=>cases h
  rename_i A' x hA' hx hfr;obtain⟨f1,f2⟩:=o6 hfr;have fin:(∀p∈pre x,p)->∃Y,avs (ys x)=Y.map .p/\yo P f A' ty t.w (t.enc (l x)) (aA (l x)) Y:=by intro hp;obtain⟨A,Y,h1,h2,h3⟩:=hc xs x hx hp;rw[h1,eW]at hA';cases hA';exact⟨Y,h2,h3⟩
  split at h
  .rename_i hy;cases h;obtain⟨Y,h1,h2⟩:=fin hp;rw[hy]at h1;have hY:Y=[] :=by have:=congrArg aA h1;simp[avs]at this;grind
   subst hY;exact⟨.inr ⟨A',ty,t.w,t.enc (l x),aA (l x),[],aH,by show _=AV.own (aa n) 0 _;rw[f1];rfl,bw.new (ob:= .row ty t (l x)) f2 f1 rfl⟩,trivial⟩
  .rename_i y r' hy;cases h;obtain⟨Y,h1,h2⟩:=fin hp;rw[hy]at h1;refine⟨.inr ⟨A',ty,t.w,t.enc (l x),aA (l x),Y,aH,?_,bw.new (ob:= .row ty t (l x)) f2 f1 rfl⟩,trivial⟩;show Ew n (aA (l x)) Y=l7 (avs (.own n t (aA (l x))::y::r'));cases Y with
   |nil=>simp[avs]at h1
   |cons y0 Y=>
    rw[avs,h1];unfold Ew l7;rw[<-f1];rfl
 .rename_i ty t l;split at h
  case h_2=>cases h
  rename_i rest;split at h<;>cases h;rename_i A' x hA' hx hfr;obtain⟨f1,f2⟩:=o6 hfr;obtain⟨A,h1,h2⟩:=hc _ x hx hp;have hA2:A'=A:=by have h1:AV.nil::avs rest= .nil::A.map .p:=h1;rw[re]at h1;rw[h1.2,eW]at hA';cases hA';rfl
  subst hA2;exact⟨.inr ⟨A',ty,t.w,t.enc (l x),aA (l x),[],.inr ⟨avs rest,rfl,hA',h2⟩,by show _=AV.own (aa n) 0 _;rw[f1];rfl,bw.new (ob:= .row ty t (l x)) f2 f1 rfl⟩,trivial⟩
 .rename_i t ty l';split at h
  case h_2=>cases h
  rename_i s t2 m rest;split at h
  case h_2=>cases h
  rename_i ty' t' l A' hs hA';split at h
  case h_2=>cases h
  rename_i he _ hty;subst he;split at h<;>cases h;rename_i x hx;have hm:m=aA l:=hp _ af;obtain⟨A,h1,h2⟩:=hc l rest x hx aH;have hty:=eL hty;refine⟨.inl (.inr ?_),trivial⟩;refine⟨ty,t'.w,t'.enc l,by rw[Sg.ct,hs,hty];rfl,Nat.ne_of_gt t'.mS,A,t'.enc (l' x),by rw[h1,eW],aH,rfl,?_⟩;exact bw.flat (rd:=[s]) (W:=[(s,aD (.row ty t' (l' x)))]) λq hq=>by rw[cI.1 hq,hs];exact⟨rfl,rfl⟩
 .rename_i ty cells';split at h
  case h_2=>cases h
  rename_i s rest;split at h
  case h_2=>cases h
  rename_i ty' cs A' hs hA';split at h<;>cases h;rename_i x hty hx;obtain⟨A,q,q',h1,h2,h3,h4⟩:=hc cs rest x hx hp;have hty:=eL hty;refine⟨.inl (.inr ?_),trivial⟩;refine⟨ty,q,by rw[Sg.ct,hs,hty];show aD (⟨ty,0,avs cs⟩:Ob)=_;rw[h2],A,q',by rw[h1,eW],h4,rfl,?_⟩;rw[<-h3];exact bw.flat (rd:=[s]) (W:=[(s,aD (.box ty (cells' x)))]) λq hq=>by rw[cI.1 hq,hs];exact⟨rfl,rfl⟩
 .cases h
 .cases h
def Ix(P:Program)(T:Tab)(n:Nat)(σ:Sg)(fv:SV)(xs:List SV):SR:=match fv with
 | .fn g a b=>EV T n σ g (a++xs++b)
 | .fnp g a b=>(match bm (avs a),bm (avs b)with|some _,aD _=>EV T n σ g (a++xs++b)|_,_=>aM)
 | .clo1 pv t q dom=>(match xs with
   |[v] =>(match BX t v with|some x=>aD ([dom x/\aFo P pv t q dom],.bool (q x),[],[])|none=>aM)
   |_=>aM)
 | .clo2 pv t q dom=>(match xs with
   |[v,u] =>(match BX t v,BX t u with|some x,aD y=>aD ([dom x y/\aFn P pv t q dom],.int .i64 (q x y),[],[])|_,_=>aM)
   |_=>aM)
 |_=>aM
def YH{P:Program}{T:Tab}(hT:T.Ok P){fv:SV}{xs:List SV}(h:Ix P T n σ fv xs=aD (ps,r,rd,W))(hp:∀p∈ps,p):
  (El P σ.a fv.av (avs xs) (λr' R' W'=>r'=r.av/\bw σ rd W R' W')\/Ek P n fv.av (avs xs) (λr' R' W'=>r'=r.av/\bw σ rd W R' W'))/\r.ok:=by
 unfold Ix at h;split at h
 .have:=PZ hT h hp;rw[vN,vN]at this;exact this
 .rename_i g a b;split at h
  case h_2=>cases h
  rename_i x y h1 h2;have:=PZ hT h hp;rw[vN,vN,kN h1,kN h2]at this;have e:(SV.fnp g a b).av= .p (.fn (.func g) x y):=by simp only[SV.av,h1,h2]
  rw[e];exact this
 .rename_i pv t q dom;split at h
  case h_2=>cases h
  rename_i v;split at h<;>cases h;rename_i x hx;obtain⟨h1,f,first,caps,rfl,h2⟩:=hp _ (cI.2 rfl);obtain⟨fr,h3⟩:=h2 x h1;refine⟨.inl ?_,trivial⟩;show sP P σ.a f (first.map .p++[v.av] ++caps.map .p) _;have e:first.map AV.p++[v.av] ++caps.map AV.p=(first++[t.argP x] ++caps).map .p:=by rw[JP hx,dV,dV];rfl
  rw[e];exact GK h3 (eW _) ⟨rfl,bw.read σ []⟩
 .rename_i pv t q dom;split at h
  case h_2=>cases h
  rename_i v u;split at h<;>cases h;rename_i x y hx hy;obtain⟨h1,f,first,caps,rfl,h2⟩:=hp _ (cI.2 rfl);obtain⟨fr,h3⟩:=h2 x y h1;refine⟨.inl ?_,trivial⟩;show sP P σ.a f (first.map .p++[v.av,u.av] ++caps.map .p) _;have e:first.map AV.p++[v.av,u.av] ++caps.map AV.p=(first++[t.argP x,t.argP y] ++caps).map .p:=by rw[JP hx,JP hy,dV,dV];rfl
  rw[e];exact GK h3 (eW _) ⟨rfl,bw.read σ []⟩
 .cases h
structure Cx where
 P:Program
 T:Tab
 lt:TypeId->Option LT
 q:EqT
 mt:TypeId->Bool
 inl:Nat->Bool
def Vw(P:Program)(t:TypeId):Prop:=∃k e,P.underlying t=aD (.map k e)/\MKey P k 2/\∀w,(zeroValue e).run P w= .ok (.bool aK) w
def Cx.Ok(X:Cx):Prop:=X.T.Ok X.P/\X.q.Ok X.P/\∀t,X.mt t=aE->Vw X.P t
def ur:Option SV->SR
 |some r=>(match r.ape with|false=>aD ([],r,[],[])|true=>aM)
 |none=>aM
def xS{o:Option SV}(h:ur o=aD (ps,r,rd,W)):o=aD r/\r.ok/\ps=[]/\rd=[]/\W=[] :=by
 unfold ur at h;split at h
 .split at h<;>cases h;rename_i hh;exact⟨rfl,SV.qJ hh,rfl,rfl,rfl⟩
 .cases h
def yT:Option (List Prop×SV)->SR
 |some (ps,r)=>(match r.ape with|false=>aD (ps,r,[],[])|true=>aM)
 |none=>aM
def Cb{o:Option (List Prop×SV)}(h:yT o=aD (ps,r,rd,W)):o=aD (ps,r)/\r.ok/\rd=[]/\W=[] :=by
 unfold yT at h;split at h
 .split at h<;>cases h;rename_i hh;exact⟨rfl,SV.qJ hh,rfl,rfl⟩
 .cases h
def yS:SR->SR
 |some (ps,r,rd,W)=>(match r.ape with|false=>aD (ps,r,rd,W)|true=>aM)
 |none=>aM
def Gd{o:SR}(h:yS o=aD (ps,r,rd,W)):o=aD (ps,r,rd,W)/\r.ok:=by
 unfold yS at h;split at h
 .split at h<;>cases h;rename_i hh;exact⟨rfl,SV.qJ hh⟩
 .cases h
def VV(raw:Bool)(x:SV):SV:=match raw with
 |true=>(match x with| .nil=> .sl 0 [] |y=>y)
 |false=>x
def sop(X:Cx)(raw:Bool)(n:Nat)(o:Op)(E:SE)(σ:Sg):SR:=match o with
 | .move x=>aD ([],E x,[],[])
 | .assign x=>aD ([],VV raw (E x),[],[])
 | .pick c a b=>ur (KF (E c) (E a) (E b))
 | .alloc t=>D5 X.P σ n t
 | .box t x=>Eu σ n t (E x)
 | .build t parts=>D4 X.P t (parts.toList.map λq=>(q.1,E q.2))
 | .buildSlice t len parts=>Db X.P σ n t len (parts.toList.map λq=>(q.1,E q.2))
 | .load t x=>yS (KJ X.P t (E x) σ)
 | .store t a x=>D2 X.P t (E a) (E x) σ
 | .nilCheck x=>(match E2 (E x).av with|true=>aD ([],E x,[],[])|false=>aM)
 | .binOp op t x y _=>yT (Ko X.P X.q raw op t (E x) (E y))
 | .unOp op _ x=>yT (sun raw op (E x))
 | .convert s d x=>yT (KM X.P raw s d (E x))
 | .makeFunc (.func f) first caps=>aD ([],.fn f (first.toList.map E) (caps.toList.map E),[],[])
 | .slice t x lo hi aM=>(match E7 E lo,E7 E hi with|some a,aD b=>yT (JZ X.P t (E x) a b)|_,_=>aM)
 | .fieldAddr t x f=>(match Jd X.P t (E x) f with|some r=>aD ([],r,[],[])|none=>aM)
 | .field t x f=>ur (Jc X.P t (E x) f)
 | .indexAddr t x i=>(match Jb X.P t (E x) (E i)with|some (ps,r)=>aD (ps,r,[],[])|none=>aM)
 | .extract x i=>ur (KK (E x) i)
 | .call {callee:= .value f,args, .. }=>Ix X.P X.T n σ (E f) (args.toList.map E)
 | .call {callee:= .builtin .len,args:=⟨[x]⟩,argTypes:=⟨[t]⟩}=>ur (Kn X.P t (E x))
 | .call {callee:= .builtin .append,args:=⟨[x,y]⟩,argTypes:=⟨[t,t']⟩}=>Ev X.P X.lt n t t' σ (E x) (E y)
 | .call {callee:= .builtin .min,args:=⟨[x,y]⟩, .. }=>ur (smm min (E x) (E y))
 | .call {callee:= .builtin .max,args:=⟨[x,y]⟩, .. }=>ur (smm max (E x) (E y))
 | .makeSlice t a b=>yS (KH X.P X.lt σ n t (E a) (E b))
 |_=>aM
def aEH{X:Cx}(hX:X.Ok){raw:Bool}{o:Oper}{E:SE}(hE:∀x,(E x).ok)(h:sop X raw n o.op E σ=aD (ps,r,rd,W))(hp:∀p∈ps,p):
  AOp X.P n o E.a σ.a (λr' R' W'=>r'=r.av/\bw σ rd W R' W')/\r.ok:=by
 obtain⟨hT,hq,_⟩:=hX;generalize ho:o.op=op at h;have A:∀{R:SR},ui X.P n o E σ R->R=aD (ps,r,rd,W)->AOp X.P n o E.a σ.a (λr' R' W'=>r'=r.av/\bw σ rd W R' W'):=λhs e=>hs _ _ _ _ e hp;have avl:∀l:List Operand,avs (l.map E)=l.map E.a:=λl=>by rw[kQ,du];rfl
 unfold sop at h;split at h
 .rename_i x;cases h;exact⟨by unfold AOp;rw[ho];exact⟨rfl,bw.read σ []⟩,hE x⟩
 .rename_i x;cases h;unfold VV;split
  .split
   .rename_i hx;exact⟨by unfold AOp;rw[ho];exact .inr ⟨by show(E x).av= .nil;rw[hx];rfl,rfl,bw.read σ []⟩,trivial⟩
   .exact⟨by unfold AOp;rw[ho];exact .inl ⟨rfl,bw.read σ []⟩,hE x⟩
  .exact⟨by unfold AOp;rw[ho];exact .inl ⟨rfl,bw.read σ []⟩,hE x⟩
 .obtain⟨h1,h2,rfl,rfl,rfl⟩:=xS h;exact⟨by unfold AOp;rw[ho];exact aBn h1 ⟨rfl,bw.read σ []⟩,h2⟩
 .refine⟨A (Zj ho) h,?_⟩;unfold D5 at h;split at h<;>cases h;trivial
 .refine⟨A (aDf ho) h,?_⟩;unfold Eu at h;split at h<;>cases h;trivial
 .refine⟨A (Zf ho) h,?_⟩;unfold D4 at h;split at h
  .split at h<;>cases h;trivial
  .cases h
 .refine⟨A (YI ho) h,?_⟩;unfold Db at h;split at h
  .split at h
   .split at h<;>cases h;trivial
   .cases h
  .cases h
 .rename_i t x;obtain⟨h1,h2⟩:=Gd h;exact⟨A (aBu ho (hE x)) h1,h2⟩
 .refine⟨A (ZV ho) h,?_⟩;unfold D2 at h;split at h
  .split at h
   .split at h
    .split at h
     .split at h<;>cases h;trivial
     .split at h<;>cases h;trivial
     .cases h
    .split at h
     .split at h<;>cases h;trivial
     .cases h
    .split at h<;>cases h;trivial
    .cases h
   .cases h
  .cases h
 .rename_i x;split at h<;>cases h;rename_i hn;exact⟨by unfold AOp;rw[ho];exact⟨hn,rfl,bw.read σ []⟩,hE x⟩
 .obtain⟨h1,h2,rfl,rfl⟩:=Cb h;exact⟨by unfold AOp;rw[ho];exact aDg hq h1 hp ⟨rfl,bw.read σ []⟩,h2⟩
 .obtain⟨h1,h2,rfl,rfl⟩:=Cb h;exact⟨by unfold AOp;rw[ho];exact aEE h1 hp ⟨rfl,bw.read σ []⟩,h2⟩
 .obtain⟨h1,h2,rfl,rfl⟩:=Cb h;exact⟨by unfold AOp;rw[ho];exact aBx h1 hp ⟨rfl,bw.read σ []⟩,h2⟩
 .cases h;refine⟨?_,trivial⟩;unfold AOp;rw[ho];refine⟨?_,bw.read σ []⟩;show _=AV.fn _ (avs _) (avs _);rw[avl,avl]
 .rename_i t x lo hi;split at h
  case h_2=>cases h
  rename_i a b ha hb;obtain⟨h1,h2,rfl,rfl⟩:=Cb h;refine⟨?_,h2⟩;unfold AOp;rw[ho];dsimp only;have key:∀(z:Option Operand) (c:Option Int) (d:Int),E7 E z=aD c->loA E.a z d=aD (c.getD d):=by
   intro z c d hz;cases z with
   |none=>cases hz;rfl
   |some z=>
    unfold E7 at hz;dsimp only at hz;split at hz<;>cases hz;rename_i k hk;exact aDS hk
  rw[key lo a 0 ha,key hi b _ hb];exact ZW h1 hp ⟨rfl,bw.read σ []⟩
 .rename_i t x f;split at h<;>cases h;rename_i h1;have:=Zc h1 (K:=λr'=>r'=r.av/\bw σ [] [] [] []) ⟨rfl,bw.read σ []⟩;exact⟨by unfold AOp;rw[ho];exact this.1,this.2 (hE x)⟩
 .obtain⟨h1,h2,rfl,rfl,rfl⟩:=xS h;exact⟨by unfold AOp;rw[ho];exact Zb h1 ⟨rfl,bw.read σ []⟩,h2⟩
 .split at h<;>cases h;rename_i h1;have:=Za h1 hp (K:=λr'=>r'=r.av/\bw σ [] [] [] []) ⟨rfl,bw.read σ []⟩;exact⟨by unfold AOp;rw[ho];exact this.1,this.2⟩
 .obtain⟨h1,h2,rfl,rfl,rfl⟩:=xS h;exact⟨by unfold AOp;rw[ho];exact aBv h1 ⟨rfl,bw.read σ []⟩,h2⟩
 .have:=YH hT h hp;rw[avl]at this;exact⟨by unfold AOp;rw[ho];exact this.1,this.2⟩
 .obtain⟨h1,h2,rfl,rfl,rfl⟩:=xS h;exact⟨by unfold AOp;rw[ho];exact aDc h1 ⟨rfl,bw.read σ []⟩,h2⟩
 .have:=aDh h hp;refine⟨by unfold AOp;rw[ho];exact this,?_⟩;unfold Ev at h;split at h
  .unfold EW at h;split at h
   .split at h<;>cases h;trivial
   .cases h
  .unfold EX at h;split at h
   .split at h
    .split at h<;>cases h;trivial
    .cases h
   .cases h
 .obtain⟨h1,h2,rfl,rfl,rfl⟩:=xS h;exact⟨by unfold AOp;rw[ho];exact Sa h1 ⟨rfl,bw.read σ []⟩,h2⟩
 .obtain⟨h1,h2,rfl,rfl,rfl⟩:=xS h;exact⟨by unfold AOp;rw[ho];exact Sa h1 ⟨rfl,bw.read σ []⟩,h2⟩
 .obtain⟨h1,h2⟩:=Gd h;exact⟨A (aBs ho) h1,h2⟩
 .cases h
end
section
variable {P:Program} {o:Oper} {E:Operand->AV} {σ:Nat->Option Ob} {n:Nat}
def aAT{c:Call}{f:Operand}{fid:FuncId}{A cells:List PV}{m ty esz:Nat}(ho:o.op= .call c)(hc:c.callee= .value f)(hfv:E f= .p (.fn (.func fid) [] []))
  (hA:fM (eK 3 σ) (c.args.toList.map E)=aD A) (hfl:cells.all flat1=aE) (hS:yo P fid A ty esz cells m []):bq P o E σ n (.own (sit n 0) 0 m) (bl (cu 3 σ) (c.args.toList.map E)) [(sit n 0,aD ⟨ty,esz,cells.map .p⟩)] :=by
 have hfm:f∈o.op.operands.toList:=by rw[ho];simp[dM,k9,hc]
 have ham:∀x∈c.args.toList,x∈o.op.operands.toList:=by intro x hx;rw[ho];simp[dM,k9];exact .inr aH
 obtain⟨hok,he,hcalls⟩:=hS;intro C0 ρ g V w B hs hB hR hn hgn hE;have hn:=hn _ (jV n 0);have hgn:=hgn _ (jV n 0);have hcl:∀s,cls s≠n->s≠sit n 0:=λs h e=>h (by rw[e];exact jV n 0);have hargs:∀l:List Operand,(∀x∈l,x∈o.op.operands.toList)->bY ρ (bV C0 B w ρ g) (l.map E) (l.map (bj V)):=by
  intro l;induction l with
  |nil=>intro _;simp only[qV];unfold bY;rfl
  |cons x l ih=>
   intro hx;simp only[dU];unfold bY;grind
 have hall:=hargs _ ham;have hsnap:bk (λb o v=>w.cell? ⟨b,o,aM⟩=aD v) A (c.args.toList.map (bj V)):=by
  obtain⟨g1,g2⟩:=qj hA;refine bk.of _ _ aH λi y hi=> ?_;have hlt:i<aA (c.args.toList.map E):=by rw[g1];exact(Bs.1 hi).1
  obtain⟨y',h5,h6⟩:=g2 i _ (fQ hlt);rw[hi]at h5;cases h5;obtain⟨v,k1,k2⟩:=hall.get _ _ i _ (fQ hlt);exact⟨v,k1,Hv hs _ (λ_=>True) (λb o v h=>h.1) (λs ob b c _ _ _ _ o v h=>h) 3 _ _ v h6 (λs hs'=>⟨trivial,hR s (qf (List.getElem_mem hlt) hs')⟩) k2⟩
 have hvf:bj V f= .func (.func fid) #[] #[] :=by have:=hE f hfm;rw[hfv]at this;unfold ai bE at this;obtain⟨v1,v2,h1,h2,h3⟩:=this;unfold bk at h2 h3;rw[h1,h2,h3]
 have hrun:(execOp (bj V) o).run P w= .ok (.enter fid (c.args.toList.map (bj V)).toArray) w:=by
  unfold execOp;rw[ho];have e2: #[] ++wq (bj V) c.args++ #[] =(c.args.toList.map (bj V)).toArray:=by apply rY.1;simp
  simp only[resolve,hc,hvf,wu,dY,fD,dr,invoke,nP hok,e2]
 have hlive:∀s ob b c,g s=aD ob->ρ s=aD (aD b,c)->b<w.heap.size:=by intro s ob b c e1 e2;obtain⟨_,arr,e3⟩:=hs.at e1 e2;exact e3.lt
 unfold cv;rw[hrun];dsimp only;refine(hcalls _ w _ (λb o v h=>h) hsnap).mono ?_;rintro e w' ⟨v,us,q,c,rfl,hbel,hys,hrow⟩;have hus:us=[] :=by have:=hys.length;simpa using this
 subst hus;have hqb:∀b,q=aD b->w.heap.size<=b:=by
  intro b hb;rcases hrow with⟨h1,_⟩|⟨b',arr,h1,_,_,h4,_⟩
  .grind
  .grind
 have hold:∀b,b<w.heap.size->w'.heap[b]? =w.heap[b]? :=λb hb=>hbel.block b hb;generalize hnS:sit n 0=nS at*
 let ρ':Ren:=λs=>if s=nS then aD (q,c)else ρ s
 have hρn:ρ' nS=aD (q,c):=if_pos rfl;have hρs:∀s,s≠nS->ρ' s=ρ s:=λs h=>if_neg h;have hup:∀s,s≠nS->bM g [(nS,aD ⟨ty,esz,cells.map .p⟩)] s=g s:=by intro s h;unfold bM;simp[jS,beq_eq_false_iff_ne.2 h]
 have hmono:∀b o' x,bV C0 B w ρ g b o' x->bV C0 B w' ρ' (bM g [(nS,aD ⟨ty,esz,cells.map .p⟩)]) b o' x:=by
  intro b o' x ⟨e1,e2,e0⟩;have hlt:=lj w ⟨b,o',aM⟩ e1;refine⟨(kc (hold b hlt)).trans e1,λs c' e3=> ?_,e0⟩;by_cases hsn:s=nS
  .grind
  .grind
 refine⟨_,rfl,ρ',λs hs=>hρs s (hcl s hs),hmono,?_,?_,hbel.mono hB⟩
 .refine hs.step (λs o' _ hgs=>hρs s (λh=>aH)) (λs q' hq=>aH) hmono ?_ ?_ λk es clock hk=>hold k (vp hk)
  .grind
  .intro s o' hso;have hsn:s=nS:=by
    rcases rb s nS with h|h
    .grind
    .exact h
   subst hsn;simp[jS]at hso;subst hso;refine⟨q,c,hρn,?_⟩;rcases hrow with⟨h1,h2,h3,h4,h5⟩|⟨b,arr,h1,h2,h3,h4,h5,h6,h7,h8,h9⟩
   .grind
   .refine .inr ⟨b,arr,h1,cZ hB h4,⟨h5,λh=>absurd h he,λ_=>⟨h6,aH,h8⟩,λi x hi=> ?_⟩,λs' o2 c' hne hg' hr'=> ?_⟩
    .have hi:(cells.map AV.p)[i]? =aD x:=hi;rw[ip]at hi;cases hci:cells[i]? with
     |none=>grind
     |some y=>
      rw[hci]at hi;simp only[fk,iG]at hi;subst hi;obtain⟨u,k1,k2,k3⟩:=h9 i y hci;exact⟨u,k1,k2,by unfold ai;exact HU (cC.1 hfl y (List.mem_of_getElem? hci)) k3⟩
    grind
 .unfold ai;refine⟨q,c,hρn,?_⟩;rcases hrow with⟨h1,h2,h3,_⟩|⟨b,arr,h1,h2,h3,_⟩
  .exact .inl ⟨h1,h2,h3,rfl⟩
  .exact .inr ⟨b,0,c,h1,h2,h3,λ_=>rfl,λ_=>⟨rfl,rfl⟩⟩
end
end Go.Proofs.YthbofdolalagjaaGreat
