/- What the statement stands on: contracts of functions, plain laws. Part 3 of 6, no condition of its own. (N21 N22 N23 E1 E3 N16 X1 X2 X3 X4 N24 X12 X5 X6 X7 X11 N25 X13 X8) -/
import Derived.Test.YtdaeofhdgabhjaaGreatCP2
import Derived.MapKept
import Derived.IntWalk
set_option linter.all false
set_option maxRecDepth 100000
set_option maxHeartbeats 8000000
open List renaming getD_eq_getElem?_getD->du,getElem?_eq_none->l7,replicate->cS,map_cons->dB,cons.injEq->pP,all_eq_true->bk,getElem_of_mem->jX,mem_map->bZ,pairwise_cons->iB,lookup->iE,getElem?_eq_getElem->dp,getElem?_eq_some_iff->rX,ext_getElem?->Cl,getElem?_set->yl,mem_append_left->iC,mem_append_right->fb,getElem?_map->gW,flatMap_cons->fM,length_cons->gk,length_take->l6,take_left->Cp,take_append_drop->vu,take_of_length_le->fT,drop_eq_nil_of_le->SU,map_nil->lC,mem_singleton->bi,range->bQ,length_map->da,map_append->dM,map_drop->Cq,map_take->Cr,getElem?_range->IQ,lookup_cons->dV,map_map->dq,mem_cons_self->cI,mem_cons_of_mem->cE,ext_getElem->rT,append_assoc->jw,mem_cons->bT,map_congr_left->nZ,replicate_succ->vn,length->dA,take_length->ke,drop_zero->Cs,mem_append->bg,getElem_map->jG,not_mem_nil->cn,isEmpty_iff->IT,mem_flatMap->cZ,length_set->vw,cons_append->kM,mem_filterMap->IR
open Go.Op renaming operands->ce
open Go.Call renaming operands->jY
open Array renaming map->tZ,toList_inj->pN,getElem?_setIfInBounds->vh
open Go.Deferred renaming ofValue->tc
open Go.Sem renaming run_bind->cp,run_pure->db,run->fo
open Go.Result renaming andThen_ok->ct,andThen->vo
open Go.World renaming block_lt_of_cell?->jz,cell?_of_block->jI
open Go.Value renaming int->cg
open Prod renaming mk.injEq->tW
open Nat renaming decEq->pO,lt_or_ge->nY,zero_add->jy,add_mul->yn,min_eq_left->IS,mul_le_mul_right->Cm,sub_add_cancel->H7,mod_eq_of_lt->dZ,beq->bH,ne_of_beq_eq_false->l8,blt->ib,ble->mi,le_of_ble_eq_true->mA,eq_of_beq_eq_true->dI,add_assoc->rS,ne_of_gt->nk
open Go.Obj renaming map->vm
open Option renaming some.injEq->fc,bind_eq_some_iff->qQ,map_eq_some_iff->l5,map_some->eO,bind_some->qP,some.inj->mj
open Go.Proofs.Tryz renaming prog->bE
open Go.IntKind renaming i64->i7
open Bool renaming and_eq_true->bw
open Int renaming toNat_natCast->iF,le_refl->jH
open Go.RowKit
open Go.Proofs.YtdaeofhdgabhjaaGreat.Geo
open Go.Proofs.YtdaeofhdgabhjaaGreat.Geo renaming nth->aEY
namespace Go.Proofs.YtdaeofhdgabhjaaGreat
section
abbrev Rf:=Nat->Option (Option Nat)
mutual
def cU(m:Rf):AV->AV->Prop
 | .any,_=>True
 | .p x,y=>y= .p x
 | .nil,y=>y= .nil
 | .undef,y=>y= .undef
 | .ptr s off,y=>∃o,m s=some (some o)/\y= .ptr o off
 | .own s o n,y=>(∃s',m s=some (some s')/\y= .own s' o n)\/(m s=some none/\y= .nil/\o=0/\n=0)
 | .agg l,y=>∃r,(y= .agg r\/∃q:List PV,y= .p (.agg q)/\r=q.map .p)/\fJ m l r
 | .tup l,y=>∃r,(y= .tup r\/∃q:List PV,y= .p (.tup q)/\r=q.map .p)/\fJ m l r
 | .fn f a b,y=>∃a2 b2,y= .fn f a2 b2/\fJ m a a2/\fJ m b b2
 | .mp s,y=>∃o,m s=some (some o)/\y= .mp o
def fJ(m:Rf):List AV->List AV->Prop
 |[],r=>r=[]
 |x::l,r=>∃y r',r=y::r'/\cU m x y/\fJ m l r'
end
def jW(m:Rf)(ρ:Ren):Ren:=λs=>match m s with
 |some (some o)=>ρ o
 |some none=>some (none,0)
 |none=>none
mutual
theorem uK{m:Rf}{ρ:Ren}{C C':bG}(hC:∀b o v,C b o v->C' b o v):∀(x y:AV) (v:Value),cU m x y->aW ρ C y v->aW (jW m ρ) C' x v
 | .any,y,v,_,_=>by trivial
 | .p x,y,v,h,hv=>by subst h;exact aX.mono hC _ v hv
 | .nil,y,v,h,hv=>by subst h;exact hv
 | .undef,y,v,h,hv=>by subst h;exact hv
 | .ptr s off,y,v,h,hv=>by
   obtain⟨o,h1,rfl⟩:=h;obtain⟨b,c,h2,h3⟩:=hv;exact⟨b,c,by unfold jW;grind,h3⟩
 | .own s o n,y,v,h,hv=>by
   rcases h with⟨s',h1,rfl⟩|⟨h1,rfl,rfl,rfl⟩
   .obtain⟨q,c,h2,h3⟩:=hv;exact⟨q,c,by unfold jW;grind,h3⟩
   .exact⟨none,0,by unfold jW;rw[h1],.inl ⟨rfl,hv,rfl,rfl⟩⟩
 | .agg l,y,v,h,hv=>by
   obtain⟨r,hy,hr⟩:=h;have:∃vs:List Value,v= .agg vs.toArray/\bB ρ C r vs/\gi vs:=by
    rcases hy with rfl|⟨q,rfl,rfl⟩
    .exact hv
    .obtain⟨vs,h1,h2,h3⟩:=hv;exact⟨vs,h1,h2.toA,h3⟩
   obtain⟨vs,h1,h2,h3⟩:=this;exact⟨vs,h1,uD hC l r vs hr h2,h3⟩
 | .tup l,y,v,h,hv=>by
   obtain⟨r,hy,hr⟩:=h;have:∃vs:List Value,v= .tuple vs.toArray/\bB ρ C r vs:=by
    rcases hy with rfl|⟨q,rfl,rfl⟩
    .exact hv
    .obtain⟨vs,h1,h2⟩:=hv;exact⟨vs,h1,h2.toA⟩
   obtain⟨vs,h1,h2⟩:=this;exact⟨vs,h1,uD hC l r vs hr h2⟩
 | .fn f a b,y,v,h,hv=>by
   obtain⟨a2,b2,rfl,h1,h2⟩:=h;obtain⟨vs1,vs2,h3,h4,h5⟩:=hv;exact⟨vs1,vs2,h3,uD hC a a2 vs1 h1 h4,uD hC b b2 vs2 h2 h5⟩
 | .mp s,y,v,h,hv=>by
   obtain⟨o,h1,rfl⟩:=h;obtain⟨c,h2,h3⟩:=hv;exact⟨c,by unfold jW;grind,h3⟩
theorem uD{m:Rf}{ρ:Ren}{C C':bG}(hC:∀b o v,C b o v->C' b o v):∀(l r:List AV) (vs:List Value),fJ m l r->bB ρ C r vs->bB (jW m ρ) C' l vs
 |[],r,vs,h,hv=>by subst h;exact hv
 |x::l,r,vs,h,hv=>by
  obtain⟨y,r',rfl,h1,h2⟩:=h;obtain⟨v,vs',rfl,h3,h4⟩:=hv;exact⟨v,vs',rfl,uK hC x y v h1 h3,uD hC l r' vs' h2 h4⟩
end
def KO{m:Rf}:∀{l r:List AV},fJ m l r->l.length=r.length/\∀(i:Nat) x,l[i]? =some x->∃y,r[i]? =some y/\cU m x y
 |[],r,h=>by unfold fJ at h;grind
 |x::l,r,h=>by
  obtain⟨y,r',rfl,h1,h2⟩:=h;obtain⟨h3,h4⟩:=KO h2;grind
def qB(m:Rf)(ob' ob:Ob):Prop:=ob'.ty=ob.ty/\ob'.esz=ob.esz/\fJ m ob'.cells ob.cells
def StR.rf{C0:bG}{B:Nat}{ρ:Ren}{w:World}{L L':Sto}(m:Rf)(hinj:∀s s' o,m s=some (some o)->m s'=some (some o)->s=s')
  (hL:∀s ob',L' s=some ob'->match m s with|some (some o)=>∃ob,L o=some ob/\qB m ob' ob|some none=>ob'.esz≠0/\ob'.cells=[] |none=>False) (s1:StR C0 ρ L w B):
  (∀b o v,bF C0 B w ρ L b o v->bF C0 B w (jW m ρ) L' b o v)/\StR C0 (jW m ρ) L' w B:=by
 have hCC:∀b o v,bF C0 B w ρ L b o v->bF C0 B w (jW m ρ) L' b o v:=by
  intro b o v ⟨e1,e2,e3⟩;refine⟨e1,λs c hs=> ?_,e3⟩;cases hl:L' s with
  |none=>rfl
  |some ob'=>
   unfold jW at hs;grind
 refine⟨hCC,?_,?_,?_⟩
 .intro s ob' hl;have:=hL s ob' hl;split at this
  .rename_i o ho;obtain⟨ob,h1,h2,h3,h4⟩:=this;obtain⟨q,c,k1,k2⟩:=s1.ob o ob h1;refine⟨q,c,by unfold jW;grind,?_⟩;obtain⟨g1,g2⟩:=KO h4;rcases k2 with⟨k2,⟨k3,k4,k5⟩|⟨k3,k4⟩⟩|⟨b,arr,k2,k3,k4⟩
   .grind
   .refine .inl ⟨k2,.inr ⟨by omega,?_⟩⟩;rcases k4 with⟨e1,e2,e3⟩|⟨e1,e2,es,clock,e3,e4⟩
    .refine .inl ⟨by grind,λi x' hi v hv=> ?_,by grind⟩;obtain⟨x,hx,hr⟩:=g2 i x' hi;exact uK hCC _ _ v hr (e2 i x hx v hv)
    .exact .inr ⟨by grind,e2,es,clock,e3,uD hCC _ _ _ h4 e4⟩
   .refine .inr ⟨b,arr,k2,k3,⟨by rw[h2];exact k4.blk,λhz=>by rw[g1];exact k4.box (by omega),λhz=>by rw[h3,g1];exact k4.row (by omega),?_⟩⟩;intro i x' hi;obtain⟨x,hx,hr⟩:=g2 i x' hi;obtain⟨v,g3,g4,g5⟩:=k4.cells i x hx;exact⟨v,g3,g4,uK hCC _ _ v hr g5⟩
  .rename_i ho;exact⟨none,0,by unfold jW;rw[ho],by grind⟩
  grind
 .intro s s' o o' b c c' h1 h2 h3 h4;have g1:=hL s o h1;have g2:=hL s' o' h2;unfold jW at h3 h4;split at h3
  .rename_i x hx;rw[hx]at g1;obtain⟨ob,k1,_⟩:=g1;split at h4
   .rename_i x' hx';rw[hx']at g2;obtain⟨ob',k2,_⟩:=g2;have:=s1.inj x x' ob ob' b c c' k1 k2 h3 h4;grind
   .cases h4
   .cases h4
  .cases h3
  .cases h3
 .intro s s' o o' c c' h1 h2 m1 m2 h3 h4 hT;have g1:=hL s o h1;have g2:=hL s' o' h2;unfold jW at h3 h4;split at h3
  .rename_i x hx;rw[hx]at g1;obtain⟨ob,k1,k2,k3,_⟩:=g1;split at h4
   .rename_i x' hx';rw[hx']at g2;obtain⟨ob',q1,q2,q3,_⟩:=g2;have:=s1.mpi x x' ob ob' c c' k1 q1 (by omega) (by omega) h3 h4 (by unfold rP at*;grind);grind
   .grind
   .cases h4
  .grind
  .cases h3
def Mu{F F':List AV}{L L':Sto}{N N':Nat}(m:Rf)(hlt:∀s x,m s=some x->cls s<N')(hinj:∀s s' o,m s=some (some o)->m s'=some (some o)->s=s')
  (hlen:F'.length=F.length) (hF:∀t,t<F.length->cU m (F'.getD t .any) (F.getD t .any))
  (hL:∀s ob',L' s=some ob'->match m s with|some (some o)=>∃ob,L o=some ob/\qB m ob' ob|some none=>ob'.esz≠0/\ob'.cells=[] |none=>False):fa F L N F' L' N':=by
 intro C0 B wI a w ⟨⟨ρ,s1,s2,s3⟩,s4,s5,s6,s7⟩;obtain⟨hCC,hst⟩:=s1.rf m hinj hL;refine⟨⟨jW m ρ,hst,?_,?_⟩,s4,s5,by rw[s6,hlen],s7⟩
 .intro s hs;cases hr:m s with
  |none=>unfold jW;rw[hr]
  |some x=>grind
 .intro t;by_cases ht:t<F.length
  .exact uK hCC _ _ _ (hF t ht) (s3 t)
  .rw[du,l7 (by omega)];trivial
variable {P:Program}
def Hu(P:Program)(f:FuncId)(A:List PV)(r:AV)(σ1:Sto):Prop:=jo P f=true/\
 ∀(C:bG) (w:World) (vs:List Value),(∀b o v,C b o v->w.cell? ⟨b,o,none⟩=some v)->az C A vs->
  Calls P f vs.toArray w λe w'=>∃v ρ1,e= .returned v/\StR C ρ1 σ1 w' w.heap.size/\aW ρ1 (bF C w.heap.size w' ρ1 σ1) r v/\Below w.heap.size w w'
def yL(m:Rf)(L' L:Sto):Prop:=(∀s s' o,m s=some (some o)->m s'=some (some o)->s=s')/\
 ∀s ob',L' s=some ob'->match m s with|some (some o)=>∃ob,L o=some ob/\qB m ob' ob|some none=>ob'.esz≠0/\ob'.cells=[] |none=>False
def Ha(P:Program)(rs:List ResultVar)(r:AV)(σ1:Sto):oh:=λe F L _=>match e with
 | .normal| .ret=>iz P rs F L λl=>∃m:Rf,yL m σ1 L/\cU m r (rM l)
 |_=>False
def Tt{f:FuncId}{fn:Func}{c:Code}{A:List PV}{r:AV}{σ1:Sto}(hok:jo P f=true)(hf:P.funcs[f]? =some fn)(hb:fn.body=some c)
  {L0:Sto} {N0:Nat} (h0:sn L0 N0) (h:awp P c (Ha P fn.results.toList r σ1) (A.map .p++cS (fn.ntmps-A.length) .undef) L0 N0):Hu P f A r σ1:=by
 refine⟨hok,λC w vs hC hrep=>KC hf hb hC hrep h0 h ?_⟩;rintro e a w' F L N hq ⟨⟨ρ,s1,s2,s3⟩,s4,s5,s6,s7⟩;have fin:iz P fn.results.toList F L (λl=>∃m:Rf,yL m σ1 L/\cU m r (rM l))->a.defers=[]/\∃v,(results fn a.tmps).run P w'= .ok v w'/\∃v' ρ1,Ending.returned v= .returned v'/\StR C ρ1 σ1 w' w.heap.size/\aW ρ1 (bF C w.heap.size w' ρ1 σ1) r v'/\Below w.heap.size w w':=by intro h;obtain⟨l,v,⟨m,⟨h1,h2⟩,h3⟩,hres,hrep⟩:=NR s1 s3 h;obtain⟨k1,k2⟩:=s1.rf m h1 h2;exact⟨s5,v,hres,v,_,rfl,k2,uK k1 _ _ v h3 hrep,s7⟩
 cases e<;>first|exact fin hq|exact hq.elim
variable {o:Oper} {E:Operand->AV} {σ:Nat->Option Ob} {n:Nat}
def Wy{c:Call}{f:Operand}{fid:FuncId}{A:List PV}{r r':AV}{σ1:Sto}{m1:Rf}{W':List (Nat×Option Ob)}(ho:o.op= .call c)(hc:c.callee= .value f)(hfv:E f= .p (.fn (.func fid) [] []))
  (hA:bM (c.args.toList.map E)=some A) (hS:Hu P fid A r σ1) (hcl:∀s x,m1 s=some x->cls s=n) (hWn:∀s,W'.lookup s≠none->cls s=n/\W'.lookup s≠some none) (hR:yL m1 (λs=>(W'.lookup s).join) σ1)
  (hty:∀s ob,W'.lookup s=some (some ob)->¬(ob.esz=0/\ob.ty=0)) (hr:cU m1 r' r):bR P o E σ n r' [] W':=by
 have hfm:f∈o.op.operands.toList:=by rw[ho];simp[ce,jY,hc]
 have ham:∀x∈c.args.toList,x∈o.op.operands.toList:=by intro x hx;rw[ho];simp[ce,jY];exact .inr (by grind)
 intro C0 ρ g V w B hs hB _ hn hgn hE;have hargs:∀l:List Operand,(∀x∈l,x∈o.op.operands.toList)->bB ρ (bF C0 B w ρ g) (l.map E) (l.map (bK V)):=by
  intro l;induction l with
  |nil=>intro _;rfl
  |cons x l ih=>
   unfold bB;grind
 have hall:=qo hA (hargs _ ham);have hvf:bK V f= .func (.func fid) #[] #[] :=by have:=hE f hfm;rw[hfv]at this;unfold aW aX at this;obtain⟨v1,v2,h1,h2,h3⟩:=this;unfold az at h2 h3;rw[h1,h2,h3]
 obtain⟨hok,hcalls⟩:=hS;have hrun:(execOp (bK V) o).run P w= .ok (.enter fid (c.args.toList.map (bK V)).toArray) w:=by
  unfold execOp;rw[ho];have e2: #[] ++tZ (bK V) c.args++ #[] =(c.args.toList.map (bK V)).toArray:=by apply pN.1;simp
  simp only[resolve,hc,hvf,tc,cp,db,ct,invoke,lK hok,e2]
 have hlive:∀s ob b c,g s=some ob->ρ s=some (some b,c)->b<w.heap.size:=by intro s ob b c e1 e2;obtain⟨_,arr,e3⟩:=hs.at e1 e2;exact e3.lt
 unfold cN;rw[hrun];dsimp only;refine(hcalls (bF C0 B w ρ g) w _ (λb o v h=>h.1) hall).mono ?_;rintro e w' ⟨v,ρ1,rfl,t1,t2,hbel⟩;obtain⟨j1,j2⟩:=t1.rf m1 hR.1 hR.2;have hold:∀b,b<w.heap.size->w'.heap[b]? =w.heap[b]? :=λb hb=>hbel.block b hb;generalize hρL:jW m1 ρ1=ρL at*;have hLn:∀s q,ρL s=some q->cls s=n:=by
  intro s q hq;rw[<-hρL]at hq;unfold jW at hq;cases hm:m1 s with
  |none=>grind
  |some x=>grind
 let ρ':Ren:=λs=>if cls s=n then ρL s else ρ s
 have hρn:∀s,cls s=n->ρ' s=ρL s:=by grind
 have hρs:∀s,cls s≠n->ρ' s=ρ s:=by grind
 have hL':∀s ob,W'.lookup s=some (some ob)->(λs=>(W'.lookup s).join) s=some ob:=by grind
 have hup:∀s,W'.lookup s=none->bC g W' s=g s:=λs h=>by unfold bC;rw[h]
 have hupn:∀s,cls s≠n->bC g W' s=g s:=by grind
 have hnew:∀s ob,bC g W' s=some ob->cls s=n->W'.lookup s=some (some ob):=by
  intro s ob h hs';unfold bC at h;cases hl:W'.lookup s with
  |none=>grind
  |some x=>grind
 have hext:∀s q,ρ s=some q->ρ' s=some q:=by grind
 have hextL:∀s q,ρL s=some q->ρ' s=some q:=by grind
 have hge:∀s ob b c,W'.lookup s=some (some ob)->ρL s=some (some b,c)->w.heap.size<=b:=λs ob b c h1 h2=>(j2.at (hL' s ob h1) h2).1;have hmono:∀b o' x,bF C0 B w ρ g b o' x->bF C0 B w' ρ' (bC g W') b o' x:=by
  intro b o' x ⟨e1,e2,e3⟩;have hb:b<w.heap.size:=jz w ⟨b,o',none⟩ e1;refine⟨(jI (hold b hb)).trans e1,λs c' e4=> ?_,e3⟩;by_cases hsn:cls s=n
  .cases hu:bC g W' s with
   |none=>rfl
   |some ob=>grind
  .grind
 have hCL:∀b o' x,bF (bF C0 B w ρ g) w.heap.size w' ρL (λs=>(W'.lookup s).join) b o' x->bF C0 B w' ρ' (bC g W') b o' x:=by
  intro b o' x ⟨e1,e2,e3⟩;refine⟨e1,λs c' e4=> ?_,?_⟩
  .by_cases hsn:cls s=n
   .rw[hρn s hsn]at e4;cases hu:bC g W' s with
    |none=>rfl
    |some ob=>grind
   .rw[hρs s hsn]at e4;rw[hupn s hsn];rcases e3 with e3|e3
    .cases hg:g s with
     |none=>rfl
     |some ob=>grind
    .exact e3.2.1 s c' e4
  .rcases e3 with e3|e3
   .omega
   .exact e3.2.2
 refine⟨_,rfl,ρ',hρs,hmono,?_,aW.mono hextL hCL _ _ (by rw[<-hρL];exact uK (by grind) _ _ _ hr t2),hbel.mono hB⟩;refine hs.stepG (by grind) hext hmono (by grind) (by grind) ?_;intro s ob hso;obtain⟨q,c',h1,⟨h2,h3|⟨h3,h4⟩⟩|⟨b,arr,h2,h3,h4⟩⟩:=j2.ob s ob (hL' s ob hso)
 .grind
 .refine⟨q,c',by grind,.inr (.inl ⟨h2,h3,?_,?_⟩)⟩
  .rcases h4 with⟨h5,_⟩|⟨h5,h6,es,clock,h7,h8⟩
   .grind
   .exact .inr ⟨h5,by grind,es,clock,h7,bB.mono hextL hCL _ _ h8⟩
  .intro s' ob' c2 hne hu he hρ2 hT;have hT1:ob.ty=1/\ob'.ty=1/\c'=c2:=by
    rcases hT with hT|hT
    .exact hT
    .grind
   by_cases hsn':cls s'=n
   .rw[hρn s' hsn']at hρ2;subst h2;exact hne (j2.mpi s s' ob ob' c' c2 (hL' s ob hso) (by grind) h3 he h1 hρ2 hT).symm
   .rw[hρs s' hsn']at hρ2;rw[hupn s' hsn']at hu;obtain⟨q2,c3,k1,⟨_,⟨k2,_⟩|⟨_,k2⟩⟩|⟨b,arr,k2,_⟩⟩:=hs.ob s' ob' hu
    .exact k2 he
    .rw[hρ2]at k1;cases k1;rcases k2 with⟨k3,_⟩|⟨_,_,es,clock,k3,_⟩
     .grind
     .have hlt:=qz k3;rcases h4 with⟨h5,_⟩|⟨_,h6,_⟩
      .grind
      omega
    grind
 .refine⟨q,c',by grind,.inr (.inr ⟨b,arr,h2,by grind,⟨h4.blk,h4.box,h4.row,λi x hi=> ?_⟩,?_⟩)⟩
  .obtain⟨u,g1,g2,g3⟩:=h4.cells i x hi;exact⟨u,g1,g2,aW.mono hextL hCL x u g3⟩
  .intro s' ob' c2 hne hu hρ2;subst h2;by_cases hsn':cls s'=n
   .rw[hρn s' hsn']at hρ2;exact hne (j2.inj s s' ob ob' b c' c2 (hL' s ob hso) (by grind) h1 hρ2).symm
   grind
end
section
def agI(xs:List Int):Value:= .agg (xs.map (cg .i64)).toArray
structure MKey(P:Program)(k:TypeId)(m:Nat):Prop where
 check:∀(w:World) (em:Bool) (xs:List Int),xs.length=m->(Instr.checkKey em 10000 k (agI xs)).run P w= .ok () w
 eq:∀(w:World) (xs ys:List Int),xs.length=m->ys.length=m->(Op.equal k (agI xs) (agI ys)).run P w= .ok (xs==ys) w
 now:∃d,P.underlying k=some d/\∀a b:Array Value,Instr.sameNow d (.agg a) (.agg b)=none
variable {P:Program}
def jn(es:List MapEntry)(ks:List (List Int×Value)):Prop:=es.map (λe=>(e.key,e.val))=ks.map λq=>(agI q.1,q.2)
def MT{k:TypeId}{m:Nat}(K:MKey P k m)(w:World)(xs:List Int)(hx:xs.length=m):∀(es:List MapEntry) (ks:List (List Int×Value)) (i:Nat),jn es ks->(∀q∈ks,q.1.length=m)->
  ((Instr.findAsking k (agI xs) es i).run P w= .ok none w/\∀q∈ks,q.1≠xs)\/∃j v,(Instr.findAsking k (agI xs) es i).run P w= .ok (some (i+j,v)) w/\ks[j]? =some (xs,v)
 |[],ks,i,h,_=>by
  have:ks=[] :=by simpa using h.symm
  subst this;exact .inl ⟨rfl,by grind⟩
 |e::es,ks,i,h,hl=>by
  cases ks with
  |nil=>unfold jn at h;simp at h
  |cons q ks=>
   unfold jn at h;simp only[dB,pP,tW]at h;obtain⟨⟨h1,h2⟩,h3⟩:=h;unfold Instr.findAsking;simp only[cp,h1,K.eq w xs q.1 hx (by grind),ct];by_cases hq:xs=q.1
   .right;refine⟨0,q.2,?_,by rw[hq];rfl⟩;simp_all
   .rcases MT K w xs hx es ks (i+1) h3 (by grind)with⟨h4,h5⟩|⟨j,v,h4,h5⟩
    .grind
    .exact .inr ⟨j+1,v,by grind,h5⟩
def MS{k:TypeId}{m:Nat}(K:MKey P k m)(w:World)(xs:List Int)(hx:xs.length=m)(es:List MapEntry)(ks:List (List Int×Value))(h:jn es ks)(hl:∀q∈ks,q.1.length=m):
  ((Instr.findKey k (agI xs) es).run P w= .ok none w/\∀q∈ks,q.1≠xs)\/∃j v,(Instr.findKey k (agI xs) es).run P w= .ok (some (j,v)) w/\ks[j]? =some (xs,v):=by
 obtain⟨d,hd,hn⟩:=K.now;unfold Instr.findKey;simp only[cp,run_underlying hd,ct];cases es with
 |nil=>
  left;have:ks=[] :=by simpa using h.symm
  subst this;exact⟨rfl,by grind⟩
 |cons e es=>
  have h1:Instr.findNow d (agI xs) (e::es) 0=none:=by
   unfold Instr.findNow;cases ks with
   |nil=>unfold jn at h;simp at h
   |cons q ks=>
    unfold jn at h;simp only[dB,pP,tW]at h;rw[h.1.1];unfold agI;rw[hn]
  rw[h1];simpa using MT K w xs hx (e::es) ks 0 h hl
def TD(xs:List Int):Instr.sameBits 10000 (agI xs) (agI xs)=true:=by unfold agI Instr.sameBits;simp only[beq_self_eq_true,Bool.true_and,bk];rintro⟨x,y⟩ h;obtain⟨i,hi,e⟩:=jX h;simp only[List.getElem_zip,tW]at e;obtain⟨rfl,rfl⟩:=e;simp[Instr.sameBits]
def WS(xs:List Int)(w:World):(Instr.keyThatStays (agI xs) (agI xs)).run P w= .ok (agI xs) w:=by unfold Instr.keyThatStays;rw[if_pos (TD xs)];rfl
def fu(ks:List (List Int×AV)):List AV:=ks.flatMap λq=>[.p (.agg (ky q.1)),q.2]
def MK{C:bG}:∀{xs:List Int} {vs:List Value},az C (ky xs) vs->vs=xs.map (cg .i64)
 |[],vs,h=>by exact h
 |x::xs,vs,h=>by
  unfold ky at h;obtain⟨v,r,rfl,h1,h2⟩:=h;rw[h1,MK (xs:=xs) h2];rfl
def Fp{ρ:Ren}{C:bG}{xs:List Int}{v:Value}(h:aW ρ C (.p (.agg (ky xs))) v):v=agI xs:=by obtain⟨vs,rfl,h1,_⟩:=h;rw[MK h1];rfl
def YH{ρ:Ren}{C:bG}(xs:List Int):aW ρ C (.p (.agg (ky xs))) (agI xs):=by
 refine⟨_,rfl,?_,λu hu=> ?_⟩
 .induction xs with
  |nil=>rfl
  |cons x xs ih=>exact⟨_,_,rfl,by rfl,ih⟩
 .obtain⟨x,_,rfl⟩:=bZ.1 hu;rfl
def E3{ρ:Ren}{C:bG}:∀{ks:List (List Int×AV)} {es:List MapEntry},bB ρ C (fu ks) (es.flatMap λe=>[e.key,e.val])->
  ∃kv:List (List Int×Value),jn es kv/\kv.length=ks.length/\∀(j:Nat) q,ks[j]? =some q->∃v,kv[j]? =some (q.1,v)/\aW ρ C q.2 v
 |[],es,h=>by
  unfold fu at h;unfold bB at h;cases es with
  |nil=>exact⟨[],rfl,rfl,by grind⟩
  |cons e es=>simp at h
 |q::ks,es,h=>by
  unfold fu at h;cases es with
  |nil=>unfold bB at h;grind
  |cons e es=>
   obtain⟨v,r,h1,h2,h3⟩:=h;cases h1;obtain⟨v,r,h1,h4,h5⟩:=h3;cases h1;obtain⟨kv,g1,g2,g3⟩:=E3 (ks:=ks) (es:=es) h5;refine⟨(q.1,e.val)::kv,?_,by simp[g2],?_⟩
   .unfold jn at*;simp only[dB,g1,Fp h2]
   grind
def Ny{ρ:Ren}{C:bG}:∀{ks:List (List Int×AV)} {es:List MapEntry} {kv:List (List Int×Value)},jn es kv->kv.length=ks.length->(∀(j:Nat) q,ks[j]? =some q->∃v,kv[j]? =some (q.1,v)/\aW ρ C q.2 v)->
  bB ρ C (fu ks) (es.flatMap λe=>[e.key,e.val])
 |[],es,kv,h,hl,_=>by
  have:kv=[] :=by grind
  subst this;unfold jn at h;have:es=[] :=by simpa using h
  subst this;rfl
 |q::ks,es,kv,h,hl,hk=>by
  cases kv with
  |nil=>simp at hl
  |cons p kv=>
   cases es with
   |nil=>unfold jn at h;simp at h
   |cons e es=>
    unfold jn at h;simp only[dB,pP,tW]at h;obtain⟨⟨h1,h2⟩,h3⟩:=h;obtain⟨v,h4,h5⟩:=hk 0 q rfl;simp at h4;subst h4;refine⟨_,_,rfl,by rw[h1];exact YH q.1,?_⟩;exact⟨_,_,rfl,by grind,Ny (ks:=ks) (kv:=kv) h3 (by grind) λj q' hj=>by simpa using hk (j+1) q' (by grind)⟩
def oW:List (List Int×AV)->List Int->AV->AV
 |[],_,z=>z
 |q::ks,xs,z=>if q.1=xs then q.2 else oW ks xs z
def kD:List (List Int×AV)->List Int->AV->List (List Int×AV)
 |[],xs,v=>[(xs,v)]
 |q::ks,xs,v=>if q.1=xs then(xs,v)::ks else q::kD ks xs v
def rQ(ks:List (List Int×AV)):Prop:=ks.Pairwise λp q=>p.1≠q.1
def Kc:∀{ks:List (List Int×AV)} {xs:List Int} {z:AV},(∀q∈ks,q.1≠xs)->oW ks xs z=z
 |[],_,_,_=>rfl
 |q::ks,xs,z,h=>by unfold oW;rw[if_neg (by grind)];exact Kc (by grind)
def Er:∀{ks:List (List Int×AV)} {xs:List Int} {v:AV},(∀q∈ks,q.1≠xs)->kD ks xs v=ks++[(xs,v)]
 |[],_,_,_=>rfl
 |q::ks,xs,z,h=>by unfold kD;rw[if_neg (by grind),Er (by grind)];rfl
def MF:∀{ks:List (List Int×AV)} {xs:List Int} {v z:AV} {j:Nat},rQ ks->ks[j]? =some (xs,v)->oW ks xs z=v
 |[],_,_,_,_,_,h=>by simp at h
 |q::ks,xs,v,z,0,_,h=>by simp at h;unfold oW;grind
 |q::ks,xs,v,z,j+1,hd,h=>by
  unfold rQ at hd;rw[iB]at hd;unfold oW;rw[if_neg (by grind)];exact MF hd.2 h
def NW:∀{ks:List (List Int×AV)} {xs:List Int} {u v:AV} {j:Nat},rQ ks->ks[j]? =some (xs,u)->kD ks xs v=ks.set j (xs,v)
 |[],_,_,_,_,_,h=>by simp at h
 |q::ks,xs,u,v,0,_,h=>by simp at h;unfold kD;grind
 |q::ks,xs,u,v,j+1,hd,h=>by
  unfold rQ at hd;rw[iB]at hd;unfold kD;rw[if_neg (by grind),NW hd.2 h];rfl
variable {o:Oper} {E:Operand->AV} {σ:Nat->Option Ob} {n:Nat}
def T4{t:TypeId}(ho:o.op= .makeMap t none):bR P o E σ n (.mp (sit n 0)) [] [(sit n 0,some ⟨1,0,[]⟩)] :=by
 intro C0 ρ g V w B hs hB _ hn hgn hE;have hcl:∀s,cls s≠n->s≠sit n 0:=λs h e=>h (by rw[e];exact iH n 0);generalize sit n 0=m at*;have hrun:(execOp (bK V) o).run P w= .ok (.value (.map (some w.heap.size))) (w.alloc (.map #[] 0)):=by unfold execOp;rw[ho];rfl
 unfold cN;rw[hrun];have hblk:(w.alloc (.map #[] 0)).heap[w.heap.size]? =some (.map #[] 0):=heap_alloc_new w _
 let ρ':Ren:=λs=>if s=m then some (none,w.heap.size)else ρ s
 have hext:∀s q,ρ s=some q->ρ' s=some q:=by intro s q hq;show(if s=m then _ else _)=_;rw[if_neg (by grind)];exact hq
 have hold:∀b,b<w.heap.size->(w.alloc (.map #[] 0)).heap[b]? =w.heap[b]? :=λb hb=>Below.heap_alloc w _ b hb;have hlk:∀s,s≠m->[(m,some (⟨1,0,[]⟩:Ob))].lookup s=none:=by intro s hs;simp[iE,beq_eq_false_iff_ne.2 hs]
 have hup:∀s,s≠m->bC g [(m,some ⟨1,0,[]⟩)] s=g s:=by intro s hs;unfold bC;rw[hlk s hs]
 have hmono:∀b o' x,bF C0 B w ρ g b o' x->bF C0 B (w.alloc (.map #[] 0)) ρ' (bC g [(m,some ⟨1,0,[]⟩)]) b o' x:=by
  intro b o' x ⟨e1,e2,e0⟩;have hb:b<w.heap.size:=jz w ⟨b,o',none⟩ e1;refine⟨(jI (hold b hb)).trans e1,?_,e0⟩;intro s c' e3;by_cases e:s=m
  .grind
  .grind
 refine⟨ρ',by grind,hmono,?_,by unfold aW;grind,(Below.refl B w).alloc hB _⟩;refine hs.stepG ?_ hext hmono ?_ (by grind) ?_
 .grind
 .intro s ob' b c' _ e2 e3;obtain⟨_,arr,e4⟩:=hs.at e2 e3;exact hold b e4.lt
 .intro s ob' e;have e1:s=m:=by
   rcases pO s m with h|h
   .grind
   .exact h
  subst e1;have e2:ob'=⟨1,0,[]⟩:=by simp[iE]at e;exact e.symm
  subst e2;refine⟨none,w.heap.size,by simp[ρ'],.inr (.inl ⟨rfl,rfl,.inr ⟨rfl,hB, #[],0,hblk,by rfl⟩,?_⟩)⟩;intro s' o' c' hne e3 e4 e5 hT;rw[hup s' hne]at e3;simp only[ρ',if_neg hne]at e5;obtain⟨q2,c3,k1,⟨_,⟨k2,_⟩|⟨_,k2⟩⟩|⟨b,arr,k2,_⟩⟩:=hs.ob s' o' e3
  .exact k2 e4
  .rw[e5]at k1;rcases hT with⟨_,hT2,hT3⟩|⟨hT,_⟩
   .rcases k2 with⟨k3,_⟩|⟨_,_,es,clock,k3,_⟩
    .grind
    grind
   .cases hT
  grind
def ME{C0:bG}{B:Nat}{ρ:Ren}{g:Nat->Option Ob}{w:World}{s c:Nat}{cells:List AV}(hs:StR C0 ρ g w B)(hg:g s=some ⟨1,0,cells⟩)(hρ:ρ s=some (none,c)):
  B<=c/\∃es clock,w.heap[c]? =some (vm es clock)/\bB ρ (bF C0 B w ρ g) cells (es.toList.flatMap λe=>[e.key,e.val]):=by
 obtain⟨q2,c3,k1,⟨_,⟨k2,_⟩|⟨_,k2⟩⟩|⟨b,arr,k2,_⟩⟩:=hs.ob s _ hg
 .grind
 .rw[hρ]at k1;rcases k2 with⟨k3,_⟩|⟨_,k3,es,clock,k4,k5⟩
  .cases k3
  grind
 grind
def Uy{t k e:TypeId}{x i:Operand}{m s:Nat}{ks:List (List Int×AV)}{xs:List Int}{z:AV}{zv:Value}(ho:o.op= .lookup t x i false)(ht:P.underlying t=some (.map k e))(K:MKey P k m)(hz:∀w,(zeroValue e).run P w= .ok zv w)(hzr:∀ρ C,aW ρ C z zv)
  (hx:E x= .mp s) (hi:E i= .p (.agg (ky xs))) (hxs:xs.length=m) (hob:σ s=some ⟨1,0,fu ks⟩) (hks:∀q∈ks,q.1.length=m) (hd:rQ ks):bR P o E σ n (oW ks xs z) [s] [] :=by
 refine bR.pure λC0 ρ g V w B hs hR hE=> ?_;have hgs:g s=some ⟨1,0,fu ks⟩:=by grind
 have hvx:=hE x (by rw[ho];simp[ce]);have hvi:=hE i (by rw[ho];simp[ce]);rw[hx]at hvx;rw[hi]at hvi;obtain⟨c,hρ,hvx⟩:=hvx;obtain⟨_,es,clock,hb,hrep⟩:=ME hs hgs hρ;obtain⟨kv,g1,g2,g3⟩:=E3 hrep;have hkl:∀q∈kv,q.1.length=m:=by
  intro q hq;obtain⟨j,hj,e1⟩:=jX hq;have hj':j<ks.length:=by omega
  obtain⟨v,h1,_⟩:=g3 j ks[j] (by grind);rw[dp hj,e1]at h1;cases h1;grind
 have hrun:∃v,(Instr.lookup t (.map (some c)) (agI xs) false).run P w= .ok v w/\aW ρ (bF C0 B w ρ g) (oW ks xs z) v:=by
  rcases MS K w xs hxs es.toList kv g1 hkl with⟨h1,h2⟩|⟨j,v,h1,h2⟩
  .refine⟨zv,by simp[Instr.lookup,run_underlying ht,MapKept.run_getObj_map hb,K.check w _ xs hxs,h1,hz,vo],?_⟩;rw[Kc]
   .exact hzr _ _
   .intro q hq e;obtain⟨j,hj,e1⟩:=jX hq;obtain⟨v,h3,_⟩:=g3 j q (by grind);grind
  .refine⟨v,by simp[Instr.lookup,run_underlying ht,MapKept.run_getObj_map hb,K.check w _ xs hxs,h1,vo],?_⟩;have hj:j<ks.length:=by rw[<-g2];grind
   obtain⟨q,hq⟩:∃q,ks[j]? =some q:=⟨_,dp hj⟩;obtain⟨u,h3,h4⟩:=g3 j q hq;rw[h2]at h3;simp only[fc,tW]at h3;obtain⟨e1,rfl⟩:=h3;rw[MF (v:=q.2) hd (by rw[hq,e1])];exact h4
 obtain⟨v,h1,h2⟩:=hrun;unfold cN execOp;rw[ho];simp only[hvx,Fp hvi,cp,h1,ct,db];grind
def jn.get{es:List MapEntry}{kv:List (List Int×Value)}(h:jn es kv){j:Nat}{q:List Int×Value}(hq:kv[j]? =some q):∃e,es[j]? =some e/\e.key=agI q.1/\e.val=q.2:=by have:=congrArg (λl=>l[j]?) h;grind
def TI{t k e:TypeId}{x i y:Operand}{m s:Nat}{ks:List (List Int×AV)}{xs:List Int}(ho:o.op= .mapUpdate t x i y)(ht:P.underlying t=some (.map k e))(K:MKey P k m)
  (hx:E x= .mp s) (hi:E i= .p (.agg (ky xs))) (hxs:xs.length=m) (hob:σ s=some ⟨1,0,fu ks⟩) (hks:∀q∈ks,q.1.length=m) (hd:rQ ks):
  bR P o E σ n .undef [s] [(s,some ⟨1,0,fu (kD ks xs (E y))⟩)] :=by
 intro C0 ρ g V w B hs hB hR hn hgn hE;have hgs:g s=some ⟨1,0,fu ks⟩:=by grind
 have hvx:=hE x (by rw[ho];simp[ce]);have hvi:=hE i (by rw[ho];simp[ce]);have hvy:=hE y (by rw[ho];simp[ce]);rw[hx]at hvx;rw[hi]at hvi;obtain⟨c,hρ,hvx⟩:=hvx;obtain⟨hBc,es,clock,hb,hrep⟩:=ME hs hgs hρ;obtain⟨kv,g1,g2,g3⟩:=E3 hrep;have hkl:∀q∈kv,q.1.length=m:=by
  intro q hq;obtain⟨j,hj,e1⟩:=jX hq;have hj':j<ks.length:=by omega
  obtain⟨v,h1,_⟩:=g3 j ks[j] (by grind);rw[dp hj,e1]at h1;cases h1;grind
 generalize hV:bK V y=vy at*;have hrun:∃(es':Array MapEntry) (clock':Nat),(Instr.mapUpdate t (.map (some c)) (agI xs) vy).run P w= .ok () {w with heap:=w.heap.setIfInBounds c (.map es' clock')}/\
   ∃kv',jn es'.toList kv'/\kv'.length=(kD ks xs (E y)).length/\∀(ρ':Ren) (C':bG),(∀s q,ρ s=some q->ρ' s=some q)->(∀b o x,bF C0 B w ρ g b o x->C' b o x)->∀(j:Nat) q,(kD ks xs (E y))[j]? =some q->∃v,kv'[j]? =some (q.1,v)/\aW ρ' C' q.2 v:=by
  rcases MS K w xs hxs es.toList kv g1 hkl with⟨h1,h2⟩|⟨j,v,h1,h2⟩
  .refine⟨es.push ⟨agI xs,vy,clock⟩,clock+1,?_,kv++[(xs,vy)],?_,?_,?_⟩
   .simp[Instr.mapUpdate,run_underlying ht,MapKept.run_getObj_map hb,K.check w _ xs hxs,h1,MapKept.run_setObj_map _ hb,vo]
   .unfold jn at*;grind
   .rw[Er]
    .simp[g2]
    .intro q hq e;obtain⟨j,hj,e1⟩:=jX hq;obtain⟨v,h3,_⟩:=g3 j q (by grind);grind
   .intro ρ' C' hρ' hC' j q hq;rw[Er]at hq
    .rcases nY j ks.length with hj|hj
     .rw[List.getElem?_append_left hj]at hq;obtain⟨v,h3,h4⟩:=g3 j q hq;exact⟨v,by grind,aW.mono hρ' hC' _ _ h4⟩
     .rw[List.getElem?_append_right hj]at hq;have hj2:j-ks.length=0:=by have:=(rX.1 hq).1;simp at this;omega
      rw[hj2]at hq;simp at hq;subst hq;exact⟨vy,by grind,aW.mono hρ' hC' _ _ hvy⟩
    .intro q hq e;obtain⟨j,hj,e1⟩:=jX hq;obtain⟨v,h3,_⟩:=g3 j q (by grind);grind
  .obtain⟨e0,h5,h6,h7⟩:=g1.get h2;have hj:j<ks.length:=by rw[<-g2];grind
   obtain⟨q0,hq0⟩:∃q,ks[j]? =some q:=⟨_,dp hj⟩;have hput:kD ks xs (E y)=ks.set j (xs,E y):=NW (u:=q0.2) hd (by grind);have hes:es[j]? =some e0:=by simpa using h5
   refine⟨es.modify j (λe=>{e with key:=agI xs,val:=vy}),clock,?_,kv.set j (xs,vy),?_,?_,?_⟩
   .simp[Instr.mapUpdate,run_underlying ht,MapKept.run_getObj_map hb,K.check w _ xs hxs,h1,hes,h6,WS,MapKept.run_setObj_map _ hb,vo]
   .unfold jn at*;have e1:(es.modify j (λe=>{e with key:=agI xs,val:=vy})).toList=es.toList.set j {e0 with key:=agI xs,val:=vy}:=by
     apply Cl;intro i;rw[yl];by_cases hij:j=i
     .grind
     .grind
    simp_all
   .grind
   .intro ρ' C' hρ' hC' i q hq;rw[hput,yl]at hq;split at hq
    .rename_i e1;cases hq;exact⟨vy,by grind,aW.mono hρ' hC' _ _ hvy⟩
    .obtain⟨v,h3,h4⟩:=g3 i q hq;exact⟨v,by grind,aW.mono hρ' hC' _ _ h4⟩
 obtain⟨es',clock',hr,kv',f1,f2,f3⟩:=hrun;have hclt:=qz hb;unfold cN execOp;rw[ho];simp only[hvx,Fp hvi,hV,cp,hr,ct,db];have hold:∀b,b≠c->({w with heap:=w.heap.setIfInBounds c (.map es' clock')}:World).heap[b]? =w.heap[b]? :=by intro b hbc;show(w.heap.setIfInBounds c _)[b]? =_;rw[vh,if_neg (by grind)]
 have hnb:({w with heap:=w.heap.setIfInBounds c (.map es' clock')}:World).heap[c]? =some (vm es' clock'):=by show(w.heap.setIfInBounds c _)[c]? =_;rw[vh,if_pos rfl,if_pos hclt]
 have hsize:({w with heap:=w.heap.setIfInBounds c (.map es' clock')}:World).heap.size=w.heap.size:=by simp
 have hos:({w with heap:=w.heap.setIfInBounds c (.map es' clock')}:World).os=w.os/\({w with heap:=w.heap.setIfInBounds c (.map es' clock')}:World).tape=w.tape/\({w with heap:=w.heap.setIfInBounds c (.map es' clock')}:World).output=w.output:=by grind
 generalize ({w with heap:=w.heap.setIfInBounds c (.map es' clock')}:World)=w' at*;have hlk:∀s',s'≠s->[(s,some (⟨1,0,fu (kD ks xs (E y))⟩:Ob))].lookup s'=none:=by intro s' hs';simp[iE,beq_eq_false_iff_ne.2 hs']
 have hup:∀s',s'≠s->bC g [(s,some ⟨1,0,fu (kD ks xs (E y))⟩)] s'=g s':=by intro s' hs';unfold bC;rw[hlk s' hs']
 have hmono:∀b' o' x',bF C0 B w ρ g b' o' x'->bF C0 B w' ρ (bC g [(s,some ⟨1,0,fu (kD ks xs (E y))⟩)]) b' o' x':=by
  intro b' o' x' ⟨e1,e2,e0⟩;have hne:b'≠c:=by intro e3;subst e3;unfold World.cell? at e1;simp[hb]at e1
  refine⟨(jI (hold b' hne)).trans e1,?_,e0⟩;intro s' c' e3;by_cases e:s'=s
  .grind
  .grind
 refine⟨ρ,λ_ _=>rfl,hmono,?_,by rfl,⟨hos.1,hos.2.1,hos.2.2,by omega,by grind⟩⟩;refine hs.stepG (by grind) (λ_ _ h=>h) hmono ?_ ?_ ?_
 .intro s' o' b' c' e1 e2 e3;refine hold b' λe=> ?_;obtain⟨_,arr,e4⟩:=hs.at e2 e3;exact uj hb e4.blk e.symm
 .intro s' o' c' es2 clock2 e1 e2 e3 e4 e5 e6;refine hold c' λe=> ?_;subst e;have:=hs.mpi s' s o' _ c' c' e2 hgs e3 rfl e5 hρ (.inl (by grind));grind
 .intro s' o' e;have e1:s'=s:=by
   rcases pO s' s with h|h
   .grind
   .exact h
  subst e1;have e2:o'=⟨1,0,fu (kD ks xs (E y))⟩:=by simp[iE]at e;exact e.symm
  subst e2;refine⟨none,c,hρ,.inr (.inl ⟨rfl,rfl,.inr ⟨rfl,hBc,es',clock',hnb,Ny f1 f2 (f3 ρ _ (λ_ _ h=>h) hmono)⟩,?_⟩)⟩;intro s2 o2 c2 hne e3 e4 e5 hT;rw[hup s2 hne]at e3;exact hne (hs.mpi s' s2 _ o2 c c2 hgs e3 rfl e4 hρ e5 (by
   rcases hT with⟨_,h2,h3⟩|⟨h1,_⟩
   .exact .inl ⟨rfl,h2,h3⟩
   .cases h1)).symm
end
section
def gu:Nat->(Nat->Option Ob)->AV->Option PV
 |_,_,.p x=>some x
 |_,_,.nil=>some (.sl 0 [])
 |_,_,.own .. =>some .junk
 |_,_,.any=>some .junk
 |0,_,.ptr .. =>some .junk
 |d+1,σ,.ptr s off=>(σ s).bind λob=>(dj (gu d σ) ob.cells).map λl=> .pro l off
 |d+1,σ,.agg l=>(dj (gu d σ) l).map .agg
 |d+1,σ,.fn f a b=>(dj (gu d σ) a).bind λx=>(dj (gu d σ) b).map λy=> .fn f x y
 |_,_,_=>none
def fg:Nat->(Nat->Option Ob)->AV->List Nat
 |0,_,_=>[]
 |d+1,σ,.ptr s _=>s::(match σ s with|some ob=>bO (fg d σ) ob.cells|none=>[])
 |d+1,σ,.agg l=>bO (fg d σ) l
 |d+1,σ,.fn _ a b=>bO (fg d σ) a++bO (fg d σ) b
 |_,_,_=>[]
def Vn{C0:bG}{ρ:Ren}{g σ:Nat->Option Ob}{w:World}{B s0 b0 c0:Nat}{o0:Ob}(hs:StR C0 ρ g w B)(hg0:g s0=some o0)(hρ0:ρ s0=some (some b0,c0)):
  ∀(d:Nat) (x:AV) (y:PV) (v:Value),gu d σ x=some y->(∀s∈fg d σ x,s≠s0/\g s=σ s)->aW ρ (bF C0 B w ρ g) x v->aX (λb o u=>w.cell? ⟨b,o,none⟩=some u/\b≠b0) y v:=by
 have hfull:∀b o v,bF C0 B w ρ g b o v->w.cell? ⟨b,o,none⟩=some v/\b≠b0:=λb o v h=>⟨h.1,λe=>by subst e;have:=h.2.1 s0 c0 hρ0;grind⟩;intro d;induction d with
 |zero=>
  intro x y v h hr hx;unfold gu at h;split at h<;>first|(cases h;done)|skip
  .cases h;exact aX.mono hfull _ v hx
  .cases h;unfold aW at hx;unfold aX;grind
  .cases h;trivial
  .cases h;trivial
  .cases h;trivial
  all_goals (rename_i e;cases e)
 |succ d ih=>
  have ihL:∀(l:List AV) (m:List PV) (vs:List Value),dj (gu d σ) l=some m->(∀s∈bO (fg d σ) l,s≠s0/\g s=σ s)->bB ρ (bF C0 B w ρ g) l vs->az (λb o u=>w.cell? ⟨b,o,none⟩=some u/\b≠b0) m vs:=by
   intro l m vs h hr hv;obtain⟨h1,h2⟩:=oH h;refine az.of _ _ (by rw[<-h1];exact hv.length) λi y hi=> ?_;have hlt:i<l.length:=by rw[h1];grind
   obtain⟨y',h3,h4⟩:=h2 i l[i] (by grind);rw[hi]at h3;cases h3;obtain⟨v,h5,h6⟩:=hv.get _ _ i l[i] (by grind);exact⟨v,h5,ih _ _ v h4 (λs hs'=>hr s (ny (by grind) hs')) h6⟩
  intro x y v h hr hx;unfold gu at h;split at h<;>first|(cases h;done)|skip
  .cases h;exact aX.mono hfull _ v hx
  .cases h;unfold aW at hx;unfold aX;grind
  .cases h;trivial
  .cases h;trivial
  .omega
  .rename_i σ _ _ _ d' s off e;cases e;simp only[qQ,l5]at h;obtain⟨ob,h1,l,h2,rfl⟩:=h;obtain⟨hne,hg⟩:=hr s (by simp[fg]);have hg:g s=some ob:=hg.trans h1;have hr2:∀s'∈bO (fg d σ) ob.cells,s'≠s0/\g s'=σ s':=λs' hs'=>hr s' (by simp only[fg,h1];grind);obtain⟨b,c,hq,hv⟩:=hx;refine⟨b,0,by grind,?_⟩;obtain⟨hBb,arr,hO⟩:=hs.at hg hq;obtain⟨g1,g2⟩:=oH h2;refine cP.of _ _ _ λi y hi=> ?_;have hlt:i<ob.cells.length:=by rw[g1];grind
   obtain⟨y',h5,h6⟩:=g2 i ob.cells[i] (by grind);rw[hi]at h5;cases h5;obtain⟨v,k1,k2,k3⟩:=hO.cells i ob.cells[i] (by grind);refine⟨v,⟨by rw[jy,hO.cell];exact k1,λe=> ?_⟩,k2,ih _ _ v h6 (λs hs'=>hr2 s (ny (by grind) hs')) k3⟩;subst e;exact hne (hs.inj s s0 _ _ b c c0 hg hg0 hq hρ0)
  .rename_i d' l e;cases e;simp only[l5]at h;obtain⟨m,h2,rfl⟩:=h;obtain⟨vs,h3,h4,h5⟩:=hx;exact⟨vs,h3,ihL l m vs h2 (λs hs'=>hr s hs') h4,h5⟩
  .rename_i d' f a b e;cases e;simp only[qQ,l5]at h;obtain⟨x1,h1,x2,h2,rfl⟩:=h;obtain⟨vs1,vs2,h3,h4,h5⟩:=hx;exact⟨vs1,vs2,h3,ihL a x1 vs1 h1 (λs hs'=>hr s (iC _ hs')) h4,ihL b x2 vs2 h2 (λs hs'=>hr s (fb _ hs')) h5⟩
def JP{C0:bG}{ρ:Ren}{g σ:Nat->Option Ob}{w:World}{B s0 b0 c0 d:Nat}{o0:Ob}(hs:StR C0 ρ g w B)(hg0:g s0=some o0)(hρ0:ρ s0=some (some b0,c0)):
  ∀{l:List AV} {m:List PV} {vs:List Value},dj (gu d σ) l=some m->(∀s∈bO (fg d σ) l,s≠s0/\g s=σ s)->bB ρ (bF C0 B w ρ g) l vs->az (λb o u=>w.cell? ⟨b,o,none⟩=some u/\b≠b0) m vs:=by
 intro l m vs h hr hv;obtain⟨h1,h2⟩:=oH h;refine az.of _ _ (by rw[<-h1];exact hv.length) λi y hi=> ?_;have hlt:i<l.length:=by rw[h1];grind
 obtain⟨y',h3,h4⟩:=h2 i l[i] (by grind);rw[hi]at h3;cases h3;obtain⟨v,h5,h6⟩:=hv.get _ _ i l[i] (by grind);exact⟨v,h5,Vn hs hg0 hρ0 d _ _ v h4 (λs hs'=>hr s (ny (by grind) hs')) h6⟩
variable {P:Program}
def flat1(x:PV):Bool:=match x with
 | .int .. | .bool _| .str _=>true
 |_=>false
def EP{C C':bG}{x:PV}{v:Value}(hf:flat1 x=true)(h:aX C x v):aX C' x v:=by cases x<;>first|(cases hf;done)|(unfold aX at*;exact h)
def Hw(P:Program)(f:FuncId)(n:Nat)(A:List PV)(ty esz:Nat)(cells cells':List PV)(m:Nat):Prop:=jo P f=true/\cells'.length<=cells.length/\m<=n/\cells'.all flat1=true/\
 ∀(C:bG) (w:World) (b c:Nat) (arr:Array Value) (vs:List Value),(∀b' o v,C b' o v->w.cell? ⟨b',o,none⟩=some v/\b'≠b)->Lent C w b c ty esz cells arr->n<=c->az C A vs->
  Calls P f (.slice (some ⟨b,0,none⟩) n c::vs).toArray w λe w'=>∃arr',e= .returned (.slice (some ⟨b,0,none⟩) m c)/\w'.heap[b]? =some (.cells arr' ty (0,0))/\arr'.size=arr.size/\
   (∀(i:Nat) x,cells'[i]? =some x->∃v,arr'[i]? =some v/\v.oneCell'=true/\aX C x v)/\w.grownBy w' (some b)
variable {o:Oper} {E:Operand->AV} {σ:Nat->Option Ob} {n:Nat}
def K8{c:Call}{f:Operand}{fid:FuncId}{s k m ty esz:Nat}{rest:List AV}{A cells cells':List PV}(ho:o.op= .call c)(hc:c.callee= .value f)(hfv:E f= .p (.fn (.func fid) [] []))
  (hargs:c.args.toList.map E= .own s 0 k::rest) (hob:σ s=some ⟨ty,esz,cells.map .p⟩) (he:esz≠0) (hk:0<k) (hA:dj (gu 3 σ) rest=some A) (hns:s∉bO (fg 3 σ) rest) (hS:Hw P fid k A ty esz cells cells' m):
  bR P o E σ n (.own (sit n 0) 0 m) (s::bO (fg 3 σ) rest) [(s,none),(sit n 0,some ⟨ty,esz,cells'.map .p⟩)] :=by
 have hfm:f∈o.op.operands.toList:=by rw[ho];simp[ce,jY,hc]
 have ham:∀x∈c.args.toList,x∈o.op.operands.toList:=by intro x hx;rw[ho];simp[ce,jY];exact .inr (by grind)
 obtain⟨hok,hlen,hmk,hfl,hcall⟩:=hS;intro C0 ρ g V w B hs hB hR hn hgn hE;have hn:=hn _ (iH n 0);have hgn:=hgn _ (iH n 0);have hcl:∀s,cls s≠n->s≠sit n 0:=λs h e=>h (by rw[e];exact iH n 0);have hl:∀l:List Operand,(∀x∈l,x∈o.op.operands.toList)->bB ρ (bF C0 B w ρ g) (l.map E) (l.map (bK V)):=by
  intro l;induction l with
  |nil=>intro _;rfl
  |cons x l ih=>
   unfold bB;grind
 have hall:=hl _ ham;rw[hargs]at hall;unfold bB at hall;obtain⟨v,us,hvs,hv,hus⟩:=hall;have hvf:bK V f= .func (.func fid) #[] #[] :=by have:=hE f hfm;rw[hfv]at this;unfold aW aX at this;obtain⟨v1,v2,h1,h2,h3⟩:=this;unfold az at h2 h3;rw[h1,h2,h3]
 have hrun:(execOp (bK V) o).run P w= .ok (.enter fid (v::us).toArray) w:=by
  unfold execOp;rw[ho];have e2: #[] ++tZ (bK V) c.args++ #[] =(v::us).toArray:=by rw[<-hvs];apply pN.1;simp
  simp only[resolve,hc,hvf,tc,cp,db,ct,invoke,lK hok,e2]
 have hgs:g s=some ⟨ty,esz,cells.map .p⟩:=by grind
 unfold aW at hv;obtain⟨q,cap,hρ,⟨_,_,hk0,_⟩|⟨b,o',c',rfl,rfl,h5,h6,h7⟩⟩:=hv
 .omega
 obtain⟨rfl,rfl⟩:=h7 rfl;obtain⟨hBb,arr,hO⟩:=hs.at hgs hρ;have hL:Lent (λb' o u=>w.cell? ⟨b',o,none⟩=some u/\b'≠b) w b c' ty esz cells arr:=by refine⟨hO.blk,λh=>by omega,λh=>by simpa using hO.row h,λi x hi=> ?_⟩;obtain⟨u,h1,h2,h3⟩:=hO.cells i (.p x) (by grind);unfold aW at h3;exact⟨u,h1,h2,aX.mono (λb' o v h=>⟨h.1,λe=>by subst e;have:=h.2.1 s c' hρ;grind⟩) x u h3⟩
 have hcN:cells.length<=arr.size:=by simpa using(hO.row he).2.1
 unfold cN;rw[hrun];dsimp only;refine(hcall _ w b c' arr us (by grind) hL h5 (JP hs hgs hρ hA (by grind) hus)).mono ?_;rintro e w' ⟨arr',rfl,hblk,hsz,hcells,hG⟩;generalize hnS:sit n 0=nS at*;have hsn:s≠nS:=λe=>by grind
 let ρ':Ren:=λt=>if t=nS then some (some b,c')else ρ t
 have hρn:ρ' nS=some (some b,c'):=if_pos rfl;have hρs:∀t,t≠nS->ρ' t=ρ t:=by grind
 have hext:∀t q,ρ t=some q->ρ' t=some q:=by grind
 have hlk:∀t,t≠s->t≠nS->[(s,none),(nS,some (⟨ty,esz,cells'.map .p⟩:Ob))].lookup t=none:=by intro t h1 h2;simp[iE,beq_eq_false_iff_ne.2 h1,beq_eq_false_iff_ne.2 h2]
 have hup:∀t,t≠s->t≠nS->bC g [(s,none),(nS,some ⟨ty,esz,cells'.map .p⟩)] t=g t:=by intro t h1 h2;unfold bC;rw[hlk t h1 h2]
 have hups:bC g [(s,none),(nS,some ⟨ty,esz,cells'.map .p⟩)] s=none:=by unfold bC;simp[iE]
 have hold:∀k,k<w.heap.size->k≠b->w'.heap[k]? =w.heap[k]? :=λk h1 h2=>hG.block k h1 (by grind);have hmono:∀b' o' x,bF C0 B w ρ g b' o' x->bF C0 B w' ρ' (bC g [(s,none),(nS,some ⟨ty,esz,cells'.map .p⟩)]) b' o' x:=by
  intro b' o' x ⟨e1,e2,e0⟩;have hne:b'≠b:=λe=>by grind
  refine⟨(jI (hold b' (jz w ⟨b',o',none⟩ e1) hne)).trans e1,?_,e0⟩;intro t c2 e3;by_cases h1:t=nS
  .grind
  .grind
 refine⟨_,rfl,ρ',by grind,hmono,?_,by unfold aW;grind,⟨hG.os,hG.tape,hG.output,hG.size,by grind⟩⟩;refine hs.step (by grind) hext hmono ?_ ?_ λk es clock hk=>hold k (qz hk) (uj hk hO.blk)
 .intro t ob b' c2 e1 e2 e3;obtain⟨_,arr2,e4⟩:=hs.at e2 e3;refine hold b' e4.lt λe=> ?_;subst e;have:=hs.inj t s ob _ b' c2 c' e2 hgs e3 hρ;grind
 .intro t ob e1;have e2:t=nS:=by
   rcases pO t nS with h1|h1
   .grind
   .exact h1
  subst e2;have e3:ob=⟨ty,esz,cells'.map .p⟩:=by simp[iE,beq_eq_false_iff_ne.2 (Ne.symm hsn)]at e1;exact e1.symm
  subst e3;obtain⟨r1,r2,r3⟩:=hO.row he;refine⟨some b,c',hρn,.inr ⟨b,arr',rfl,hBb,⟨hblk,by grind,by grind,λi x hi=> ?_⟩,?_⟩⟩
  .rw[gW]at hi;cases hc2:cells'[i]? with
   |none=>grind
   |some y=>
    rw[hc2]at hi;simp only[eO,fc]at hi;subst hi;obtain⟨u,h1,h2,h3⟩:=hcells i y hc2;exact⟨u,h1,h2,by exact EP (by grind) h3⟩
  .intro t' ob' c2 hne hg' hr';rw[hρs t' hne]at hr';by_cases h2:t'=s
   .grind
   .rw[hup t' h2 hne]at hg';exact h2 (hs.inj t' s ob' _ b c2 c' hg' hgs hr' hρ)
def K6{c:Call}{f:Operand}{fid:FuncId}{s k ty esz:Nat}{rest:List AV}{A cells cells':List PV}(ho:o.op= .call c)(hc:c.callee= .value f)(hfv:E f= .p (.fn (.func fid) [] []))
  (hargs:c.args.toList.map E= .own s 0 k::rest) (hob:σ s=some ⟨ty,esz,cells.map .p⟩) (he:esz≠0) (hk:0<k) (hA:dj (gu 3 σ) rest=some A) (hns:s∉bO (fg 3 σ) rest) (hfl:cells'.all flat1=true) (hS:mX P fid (some k) A ty esz cells cells'):
  bR P o E σ n .undef (s::bO (fg 3 σ) rest) [(s,some ⟨ty,esz,cells'.map .p⟩)] :=by
 have hfm:f∈o.op.operands.toList:=by rw[ho];simp[ce,jY,hc]
 have ham:∀x∈c.args.toList,x∈o.op.operands.toList:=by intro x hx;rw[ho];simp[ce,jY];exact .inr (by grind)
 obtain⟨hok,hlen,hcall,_⟩:=hS;intro C0 ρ g V w B hs hB hR hn hgn hE;have hl:∀l:List Operand,(∀x∈l,x∈o.op.operands.toList)->bB ρ (bF C0 B w ρ g) (l.map E) (l.map (bK V)):=by
  intro l;induction l with
  |nil=>intro _;rfl
  |cons x l ih=>
   unfold bB;grind
 have hall:=hl _ ham;rw[hargs]at hall;obtain⟨v,us,hvs,hv,hus⟩:=hall;have hvf:bK V f= .func (.func fid) #[] #[] :=by have:=hE f hfm;rw[hfv]at this;unfold aW aX at this;obtain⟨v1,v2,h1,h2,h3⟩:=this;unfold az at h2 h3;rw[h1,h2,h3]
 have hrun:(execOp (bK V) o).run P w= .ok (.enter fid (v::us).toArray) w:=by
  unfold execOp;rw[ho];have e2: #[] ++tZ (bK V) c.args++ #[] =(v::us).toArray:=by rw[<-hvs];apply pN.1;simp
  simp only[resolve,hc,hvf,tc,cp,db,ct,invoke,lK hok,e2]
 have hgs:g s=some ⟨ty,esz,cells.map .p⟩:=by grind
 obtain⟨q,cap,hρ,⟨_,_,hk0,_⟩|⟨b,o',c',rfl,rfl,h5,h6,h7⟩⟩:=hv
 .omega
 obtain⟨rfl,rfl⟩:=h7 rfl;obtain⟨hBb,arr,hO⟩:=hs.at hgs hρ;have hL:Lent (λb' o u=>w.cell? ⟨b',o,none⟩=some u/\b'≠b) w b c' ty esz cells arr:=by refine⟨hO.blk,λh=>by omega,λh=>by simpa using hO.row h,λi x hi=> ?_⟩;obtain⟨u,h1,h2,h3⟩:=hO.cells i (.p x) (by grind);unfold aW at h3;exact⟨u,h1,h2,aX.mono (λb' o v h=>⟨h.1,λe=>by subst e;have:=h.2.1 s c' hρ;grind⟩) x u h3⟩
 unfold cN;rw[hrun];refine(hcall _ w b c' arr us (by grind) hL (by grind) (JP hs hgs hρ hA (by grind) hus)).mono ?_;rintro e w' ⟨arr',rfl,hL',hG⟩;have hlk:∀t,t≠s->[(s,some (⟨ty,esz,cells'.map .p⟩:Ob))].lookup t=none:=by intro t h1;simp[iE,beq_eq_false_iff_ne.2 h1]
 have hup:∀t,t≠s->bC g [(s,some ⟨ty,esz,cells'.map .p⟩)] t=g t:=by intro t h1;unfold bC;rw[hlk t h1]
 have hold:∀k,k<w.heap.size->k≠b->w'.heap[k]? =w.heap[k]? :=λk h1 h2=>hG.block k h1 (by grind);have hmono:∀b' o' x,bF C0 B w ρ g b' o' x->bF C0 B w' ρ (bC g [(s,some ⟨ty,esz,cells'.map .p⟩)]) b' o' x:=by
  intro b' o' x ⟨e1,e2,e0⟩;have hne:b'≠b:=λe=>by grind
  refine⟨(jI (hold b' (jz w ⟨b',o',none⟩ e1) hne)).trans e1,?_,e0⟩;intro t c2 e3;by_cases h2:t=s
  .grind
  .grind
 refine⟨_,rfl,ρ,λ_ _=>rfl,hmono,?_,by rfl,⟨hG.os,hG.tape,hG.output,hG.size,by grind⟩⟩;refine hs.step (by grind) (λ_ _ h=>h) hmono ?_ ?_ λk es clock hk=>hold k (qz hk) (uj hk hO.blk)
 .intro t ob b' c2 e1 e2 e3;obtain⟨_,arr2,e4⟩:=hs.at e2 e3;refine hold b' e4.lt λe=> ?_;subst e;have:=hs.inj t s ob _ b' c2 c' e2 hgs e3 hρ;grind
 .intro t ob e1;have e2:t=s:=by
   rcases pO t s with h1|h1
   .grind
   .exact h1
  subst e2;have e3:ob=⟨ty,esz,cells'.map .p⟩:=by simp[iE]at e1;exact e1.symm
  subst e3;refine⟨some b,c',hρ,.inr ⟨b,arr',rfl,hBb,⟨hL'.blk,by grind,λh=>by simpa using hL'.row h,λi x hi=> ?_⟩,?_⟩⟩
  .rw[gW]at hi;cases hc2:cells'[i]? with
   |none=>grind
   |some y=>
    rw[hc2]at hi;simp only[eO,fc]at hi;subst hi;obtain⟨u,h1,h2,h3⟩:=hL'.cells i y hc2;exact⟨u,h1,h2,by exact EP (by grind) h3⟩
  .intro t' ob' c2 hne hg' hr';rw[hup t' hne]at hg';exact hne (hs.inj t' t ob' _ b c2 c' hg' hgs hr' hρ)
end
def fF(x y:Int):Int:=if x<y then-1 else if y<x then 1 else 0
def aBo(ax ay bx b_y:Int)(w:World):fo bE (binOp .eql 44 (.agg #[.int .i64 ax,.int .i64 ay]) (.agg #[.int .i64 bx,.int .i64 b_y])) w= .ok (.bool (ax==bx&&ay==b_y)) w:=by
 have u3:=Tryz.underlying3;have a3:=Tryz.isAgg3;have z3:=Tryz.sizeOf3;have hS:bE.underlying 44=some (.struct (bE.fieldsOf 44)):=by kernel_rfl
 have hp:bE.stoodInHeld 44=false:=by kernel_rfl
 rw[run_eql_struct,show(10000:Nat)=9999+1 from rfl,run_equalIn_agg w 9999 44 _ _ hS hp];simp only[Program.fieldsOf,Tryz.underlying44]
 go_simp
 grind
section
def fZ(r:List V):List PV:=r.flatMap λv=>[.int .i64 v.x,.int .i64 v.y]
def CQ(l:List S):List PV:=l.flatMap λs=>[.int .i64 s.a.x,.int .i64 s.a.y,.int .i64 s.b.x,.int .i64 s.b.y]
def gR(r:List V):PV:= .sl r.length (fZ r)
def Gz(l:List S):PV:= .sl l.length (CQ l)
def oR(l:List aH):PV:= .sl l.length (l.map gR)
def kS(s:Shape):PV:= .agg [gR s.outer,oR s.holes]
def jt{α:Type}(m:Nat)(enc:List α->List PV)(e:α->List PV):Prop:=∀l,enc l=l.flatMap e/\∀x,(e x).length=m
section
variable {α:Type} {m:Nat} {enc:List α->List PV} {e:α->List PV}
def jt.length(h:jt m enc e)(l:List α):(enc l).length=l.length*m:=by
 rw[(h l).1];induction l with
 |nil=>simp
 |cons x l ih=>simp only[fM,List.length_append,ih,(h []).2 x,gk,yn];omega
def jt.append(h:jt m enc e)(l k:List α):enc (l++k)=enc l++enc k:=by rw[(h _).1,(h l).1,(h k).1,List.flatMap_append]
def jt.at(h:jt m enc e)(l:List α)(i:Nat)(hi:i<l.length):((enc l).drop (i*m)).take m=e l[i] :=by
 have h1:l=l.take i++l[i] ::l.drop (i+1):=by rw[List.getElem_cons_drop];simp
 have h2:enc l=enc (l.take i)++(e l[i] ++enc (l.drop (i+1))):=by
  conv=>lhs;rw[h1]
  rw[h.append,(h (l[i] ::_)).1,fM,<-(h _).1]
 have h3:=h.length (l.take i);rw[l6,IS (by omega)]at h3;rw[h2,<-h3,List.drop_left,<-(h []).2 l[i],Cp]
def jt.take(h:jt m enc e)(l:List α)(k:Nat):(enc l).take (k*m)=enc (l.take k):=by
 by_cases hk:k<=l.length
 .have h3:=h.length (l.take k);rw[l6,IS hk]at h3
  conv=>lhs;rw[<-vu k l,h.append,<-h3,Cp]
 .rw[fT (by rw[h.length];exact Cm _ (by omega)),fT (by omega)]
def jt.drop(h:jt m enc e)(l:List α)(k:Nat):(enc l).drop (k*m)=enc (l.drop k):=by
 by_cases hk:k<=l.length
 .have h3:=h.length (l.take k);rw[l6,IS hk]at h3
  conv=>lhs;rw[<-vu k l,h.append,<-h3,List.drop_left]
 .have e1:l.drop k=[] :=SU (by omega);rw[e1,SU (by rw[h.length];exact Cm _ (by omega)),(h []).1];rfl
end
def ur:jt 2 fZ λv=>[.int .i64 v.x,.int .i64 v.y] :=λ_=>⟨rfl,λ_=>rfl⟩
def aA8:jt 4 CQ λs=>[.int .i64 s.a.x,.int .i64 s.a.y,.int .i64 s.b.x,.int .i64 s.b.y] :=λ_=>⟨rfl,λ_=>rfl⟩
def nth_eq{v:List V}{i:Nat}(h:i<v.length):aEY v i=v[i] :=by unfold aEY;grind
def Z0{v:List V}{i:Nat}(h:i<v.length):((fZ v).drop (i*2)).take 2=[.int .i64 (aEY v i).x,.int .i64 (aEY v i).y] :=by rw[nth_eq h];exact ur.at v i h
def Yd:x6 bE 44 2:=by
 intro xs ys x y w hx hy;match xs,ys,hx,hy with
 |[a,b],[c,d],_,_=>
  have h1:=aBo a b c d w;refine⟨?_,?_⟩
  .simp only[dB,lC];simp[eqGuard,h1]
  .simp only[dB,lC];simp[eqGuard];rw[run_neq_struct];rw[run_eql_struct]at h1;revert h1;generalize fo bE (Op.equalIn 10000 44 (Value.agg #[cg i7 a,cg i7 b]) (Value.agg #[cg i7 c,cg i7 d])) w=R;intro h1;cases R with
   |ok q w'=>
    simp[vo]at h1;obtain⟨rfl,rfl⟩:=h1;simp[vo];grind
   |_=>simp_all
def aK(l:List S)(i:Nat):S:=l.getD i default
def aZ(l:List (Nat×Nat))(i:Nat):Nat×Nat:=l.getD i default
def cv(l:List Int)(i:Nat):Int:=l.getD i 0
def iQ(l:List Bool)(i:Nat):Bool:=l.getD i false
def oO{α:Type}{l:List α}{i:Nat}{d:α}(h:i<l.length):l.getD i d=l[i] :=by grind
def eZ{l:List S}{i:Nat}(h:i<l.length):aK l i=l[i] :=oO h
def je{l:List aH}{i:Nat}(h:i<l.length):aC l i=l[i] :=oO h
def mJ{l:List (Nat×Nat)}{i:Nat}(h:i<l.length):aZ l i=l[i] :=oO h
def Ev{l:List S}{i:Nat}(h:i<l.length):aK l i∈l:=by rw[eZ h];grind
section
variable {α:Type} {m:Nat} {enc:List α->List PV} {e:α->List PV}
def jt.sub(h:jt m enc e)(l:List α){k:Nat}(hk:k<l.length)(j n:Nat)(hj:j+n<=m):((enc l).drop (k*m+j)).take n=((e l[k]).drop j).take n:=by
 have h1:=h.at l k hk;have h2:(((enc l).drop (k*m)).drop j).take n=((((enc l).drop (k*m)).take m).drop j).take n:=by
  rw[List.drop_take,List.take_take]
  congr 1;omega
 simp_all
def jt.get(h:jt m enc e)(l:List α){k:Nat}(hk:k<l.length)(j:Nat)(hj:j<m):(enc l)[k*m+j]? =(e l[k])[j]? :=by have h1:=h.at l k hk;grind
end
section
variable {α:Type} {m:Nat} {enc:List α->List PV} {e:α->List PV}
end
def BI:(∀a b:Bool,((a&&b)=true)=(a=true/\b=true))/\(∀a b:Bool,((a||b)=true)=(a=true\/b=true))/\(∀a b:Bool,((a&&b)=false)=(a=false\/b=false))/\(∀a b:Bool,((a||b)=false)=(a=false/\b=false))/\(∀b:Bool,((!b)=true)=(b=false))/\(∀b:Bool,((!b)=false)=(b=true))/\(∀(p:Prop) [Decidable p],(decide p=true)=p)/\(∀(p:Prop) [Decidable p],(decide p=false)=¬p)/\(∀{α:Type} [BEq α] [LawfulBEq α] (a b:α),((a==b)=true)=(a=b))/\(∀{α:Type} [BEq α] [LawfulBEq α] (a b:α),((a==b)=false)=(a≠b))/\(∀{α:Type} [BEq α] [LawfulBEq α] (a b:α),((a !=b)=true)=(a≠b))/\(∀{α:Type} [BEq α] [LawfulBEq α] (a b:α),((a !=b)=false)=(a=b)):=
 ⟨by simp,by simp,by simp,by simp,by simp,by simp,λp _=>by simp,λp _=>by simp,λa b=>by simp,λa b=>by simp,λa b=>by simp,λa b=>by simp⟩
end
section
noncomputable section
inductive Fm:Type 1
 |tt
 |stuck (n:Nat)
 |need (p:Prop) (f:Fm)
 |imp (p:Prop) (f:Fm)
 |both (f g:Fm)
 |all (X:Type) (f:X->Fm)
 |ex (X:Type) (f:X->Fm)
def Fm.isTT:Fm->Bool
 | .tt=>true
 |_=>false
def Fm.holds:Fm->Prop
 | .tt=>True
 | .stuck _=>False
 | .need p f=>(match f.isTT with|true=>p|false=>p/\f.holds)
 | .imp p f=>p->f.holds
 | .both f g=>(match f.isTT,g.isTT with|true,_=>g.holds|false,true=>f.holds|false,false=>f.holds/\g.holds)
 | .all X f=>∀x:X,(f x).holds
 | .ex X f=>∃x:X,(f x).holds
def Fm.Gm{f:Fm}(h:f.isTT=true):f.holds:=by cases f<;>first|trivial|cases h
def Fm.Ut{p:Prop}{f:Fm}(h:(Fm.need p f).holds):p/\f.holds:=by
 unfold Fm.holds at h;split at h
 .rename_i e;exact⟨h,Fm.Gm e⟩
 .exact h
def Fm.tz{f g:Fm}(h:(Fm.both f g).holds):f.holds/\g.holds:=by
 unfold Fm.holds at h;split at h
 .rename_i e;exact⟨Fm.Gm e,h⟩
 .rename_i e;exact⟨h,Fm.Gm e⟩
 .exact h
def rC:List Prop->Fm->Fm
 |[],f=>f
 |p::l,f=> .need p (rC l f)
def rm:∀{l:List Prop} {f:Fm},(rC l f).holds->(∀p∈l,p)/\f.holds
 |[],f,h=>⟨by grind,h⟩
 |q::l,f,h=>by
  obtain⟨h1,h2⟩:=Fm.Ut h;obtain⟨h3,h4⟩:=rm h2;grind
def o8:List Prop->Prop
 |[] =>True
 |[p] =>p
 |p::l=>p/\o8 l
def jd:∀{l:List Prop},o8 l↔∀p∈l,p
 |[] =>⟨by grind,λ_=>trivial⟩
 |[p] =>⟨λh q hq=>(by rw[bi.1 hq];exact h),λh=>h p (by grind)⟩
 |p::q::l=>by
  show p/\o8 (q::l)↔_;rw[jd];exact⟨by grind,λh=>⟨h p (by grind),by grind⟩⟩
def Hh(l:List Prop)(f:Fm):Fm:=match l with
 |[] =>f
 |p::l=> .imp (o8 (p::l)) f
def Jm{l:List Prop}{f:Fm}(h:(Hh l f).holds)(hl:∀p∈l,p):f.holds:=by
 cases l with
 |nil=>exact h
 |cons p l=>exact(h:o8 (p::l)->_) (jd.2 hl)
inductive LT where
 |V|S|R|I|B|P|Q
deriving DecidableEq
@[reducible] def LT.ty : LT → Type
  | .V => Geo.V
  | .S => Geo.S
  | .R => aH
  | .I => Int
  | .B => Bool
  | .P => Nat × Nat
  | .Q => List Int
def LT.w:LT->Nat
 | .V=>2
 | .S=>4
 | .R=>1
 | .I=>1
 | .B=>1
 | .P=>2
 | .Q=>1
def CS(l:List Int):List PV:=l.flatMap λn=>[.int .i64 n]
def ai(l:List (List Int))(i:Nat):List Int:=l.getD i []
def LT.rowP:(t:LT)->t.ty->List PV
 | .V=>λv=>[.int .i64 v.x,.int .i64 v.y]
 | .S=>λs=>[.int .i64 s.a.x,.int .i64 s.a.y,.int .i64 s.b.x,.int .i64 s.b.y]
 | .R=>λr=>[.sl r.length (fZ r)]
 | .I=>λn=>[.int .i64 n]
 | .B=>λb=>[.bool b]
 | .P=>λp=>[.int .i64 p.1,.int .i64 p.2]
 | .Q=>λr=>[.sl r.length (CS r)]
def LT.enc(t:LT)(l:List t.ty):List PV:=l.flatMap t.rowP
def LT.wide(t:LT):jt t.w t.enc t.rowP:=λ_=>⟨rfl,λx=>by cases t<;>rfl⟩
def LT.kU(t:LT):0<t.w:=by cases t<;>decide
def LT.nth:(t:LT)->List t.ty->Nat->t.ty
 | .V=>aEY
 | .S=>aK
 | .R=>aC
 | .I=>cv
 | .B=>iQ
 | .P=>aZ
 | .Q=>ai
def LT.nth_eq(t:LT)(l:List t.ty){i:Nat}(h:i<l.length):t.nth l i=l[i] :=by
 cases t
 .exact Go.Proofs.YtdaeofhdgabhjaaGreat.nth_eq h
 .exact eZ h
 .exact je h
 .exact oO h
 .exact oO h
 .exact mJ h
 .exact oO h
inductive SV where
 |any|undef|nil
 |int (k:IntKind) (n:Int)
 |bool (b:Bool)
 |lit (b:Bool)
 |prop (p:Prop) (d:Decidable p)
 |str (s:ByteArray)
 |agg (l:List SV)
 |tup (l:List SV)
 |lst (t:LT) (l:List t.ty)
 |sl (n:Nat) (cells:List SV)
 |pe (t:LT) (l:List t.ty) (i off:Nat)
 |pro (cells:List SV) (off:Nat)
 |fn (f:Nat) (first caps:List SV)
 |fnp (f:Nat) (first caps:List SV)
 |clo1 (pv:PV) (t:LT) (q:t.ty->Bool) (dom:t.ty->Prop)
 |clo2 (pv:PV) (t:LT) (q:t.ty->t.ty->Int) (dom:t.ty->t.ty->Prop)
 |ptr (s off:Nat)
 |pte (s:Nat) (t:LT) (i off:Nat)
 |own (s:Nat) (t:LT) (n:Nat)
 |owns (s:Nat) (t:LT) (o n:Nat)
 |ownx (s n:Nat)
 |ptb (F:Nat->Bool) (n off:Nat)
 |ownf (x:Nat) (t:LT) (a n:Nat)
 |ptef (x:Nat) (t:LT) (a i off:Nat)
 |ptf (x a:Nat)
 |owF (x n:Nat)
 |junk
 |mp (s:Nat)
def NM:Nat:=1000000
def ncl(x:Nat):Nat:=x % NM
def idx(s:Nat):Nat:=(s/2^cls s-1)/2
def Fq(n i:Nat):idx (sit n i)=i:=by unfold idx;rw[iH];unfold sit;rw[Nat.mul_div_cancel_left _ (by grind)];omega
def NH(n i:Nat):0<sit n i:=Nat.mul_pos (by grind) (by omega)
structure Sites where
 inn:Nat->Nat->Nat
 nm:Nat->Nat
 sub:Nat->Nat
 h1:∀x a,nm (inn x a)=x
 h2:∀x a,sub (inn x a)=a
 h3:∀x a,cls (inn x a)=ncl x
 h4:∀x,x<NM->inn x 0=sit x 0
theorem Ug:Nonempty Sites:=⟨⟨λx a=>sit (x % NM) (sit (x/NM) a-1),λs=>cls (idx s+1)*NM+cls s,λs=>idx (idx s+1),
 λx a=>by rw[Fq,iH,H7 (NH _ _),iH];exact Nat.div_add_mod' x NM,
 λx a=>by rw[Fq,H7 (NH _ _),Fq],
 λx a=>iH _ _,
 λx h=>by rw[dZ h,Nat.div_eq_of_lt h];rfl⟩⟩
def sites:Sites:=Classical.choice Ug
def inn(x a:Nat):Nat:=sites.inn x a
def aR(x:Nat):Nat:=inn x 0
def nm(s:Nat):Nat:=sites.nm s
def sub(s:Nat):Nat:=sites.sub s
def sk(x a:Nat):nm (inn x a)=x:=sites.h1 x a
def sU(x a:Nat):sub (inn x a)=a:=sites.h2 x a
def fO(x a:Nat):cls (inn x a)=ncl x:=sites.h3 x a
def fL{x y a b:Nat}(h:inn x a=inn y b):x=y/\a=b:=⟨by rw[<-sk x a,h,sk],by rw[<-sU x a,h,sU]⟩
def lM{x y:Nat}(h:aR x=aR y):x=y:=(fL h).1
def zW{x:Nat}(h:x<NM):aR x=sit x 0:=sites.h4 x h
def B8(n:Nat)(F:Nat->Bool):List PV:=(bQ n).map λk=> .bool (F k)
def XO(F:Nat->Bool){n k:Nat}(h:k<n):(B8 n F)[k]? =some (.bool (F k)):=by unfold B8;grind
def kA(l:List AV):AV:=match bM l with|some q=> .p (.tup q)|none=> .tup l
mutual
def SV.av:SV->AV
 | .any=> .any
 | .undef=> .undef
 | .nil=> .nil
 | .int k n=> .p (.int k n)
 | .bool b=> .p (.bool b)
 | .lit b=> .p (.bool b)
 | .prop p d=> .p (.bool (@decide p d))
 | .str s=> .p (.str s)
 | .agg l=>eR (avs l)
 | .tup l=>kA (avs l)
 | .lst t l=> .p (.sl l.length (t.enc l))
 | .sl n cs=>(match bM (avs cs)with|some q=> .p (.sl n q)|none=> .any)
 | .pe t l i off=> .p (.pro (t.enc l) (i*t.w+off))
 | .pro cs off=>(match bM (avs cs)with|some q=> .p (.pro q off)|none=> .any)
 | .fn f a b=> .fn (.func f) (avs a) (avs b)
 | .fnp f a b=>(match bM (avs a),bM (avs b)with|some x,some y=> .p (.fn (.func f) x y)|_,_=> .any)
 | .clo1 pv _ _ _=> .p pv
 | .clo2 pv _ _ _=> .p pv
 | .ptr s off=> .ptr (aR s) off
 | .pte s t i off=> .ptr (aR s) (i*t.w+off)
 | .own s _ n=> .own (aR s) 0 n
 | .owns s t o n=> .own (aR s) (o*t.w) n
 | .ownx s n=> .own (aR s) 0 n
 | .ptb F n off=> .p (.pro (B8 n F) off)
 | .ownf x _ a n=> .own (inn x (a+1)) 0 n
 | .ptef x t a i off=> .ptr (inn x (a+1)) (i*t.w+off)
 | .ptf x a=> .ptr (aR x) a
 | .owF x n=> .own (aR x) 0 n
 | .junk=> .p .junk
 | .mp s=> .mp (aR s)
def avs:List SV->List AV
 |[] =>[]
 |x::l=>x.av::avs l
end
def jA:∀l:List SV,avs l=l.map SV.av
 |[] =>rfl
 |x::l=>by rw[avs,jA l];rfl
def ja(l:List SV):(avs l).length=l.length:=by rw[jA,da]
def sF(l m:List SV):avs (l++m)=avs l++avs m:=by rw[jA,jA,jA,dM]
def FJ(l:List SV)(k:Nat):avs (l.drop k)=(avs l).drop k:=by rw[jA,jA,Cq]
def FI(l:List SV)(k:Nat):avs (l.take k)=(avs l).take k:=by rw[jA,jA,Cr]
def xZ(l:List SV)(k:Nat):(avs l)[k]? =(l[k]?).map SV.av:=by rw[jA,gW]
def OT(l:List SV)(k:Nat)(x:SV):avs (l.set k x)=(avs l).set k x.av:=by rw[jA,jA,List.map_set]
def LT.row:(t:LT)->t.ty->List SV
 | .V=>λv=>[.int .i64 v.x,.int .i64 v.y]
 | .S=>λs=>[.int .i64 s.a.x,.int .i64 s.a.y,.int .i64 s.b.x,.int .i64 s.b.y]
 | .R=>λr=>[.lst .V r]
 | .I=>λn=>[.int .i64 n]
 | .B=>λb=>[.bool b]
 | .P=>λp=>[.int .i64 p.1,.int .i64 p.2]
 | .Q=>λr=>[.lst .I r]
def LT.BN(t:LT)(x:t.ty):avs (t.row x)=(t.rowP x).map .p:=by cases t<;>rfl
def LT.dec:(t:LT)->List SV->Option t.ty
 | .V,[.int .i64 x,.int .i64 y] =>some ⟨x,y⟩
 | .S,[.int .i64 a,.int .i64 b,.int .i64 c,.int .i64 d] =>some ⟨⟨a,b⟩,⟨c,d⟩⟩
 | .R,[.lst .V r] =>some r
 | .R,[.nil] =>none
 | .I,[.int .i64 n] =>some n
 | .Q,[.lst .I r] =>some r
 | .B,[.bool b] =>some b
 | .B,[.lit b] =>some b
 | .B,[.prop p d] =>some (@decide p d)
 | .P,[.int .i64 (.ofNat a),.int .i64 (.ofNat b)] =>some (a,b)
 |_,_=>none
def LT.x4{t:LT}{cs:List SV}{x:t.ty}(h:t.dec cs=some x):avs cs=(t.rowP x).map .p:=by unfold LT.dec at h;split at h<;>first|(cases h;done)|(cases h;rfl)
def LT.decs(t:LT):Nat->List SV->Option (List t.ty)
 |0,[] =>some []
 |0,_=>none
 |n+1,cs=>match t.dec (cs.take t.w),t.decs n (cs.drop t.w)with
  |some x,some l=>some (x::l)
  |_,_=>none
def LT.ud{t:LT}:∀{n:Nat} {cs:List SV} {l:List t.ty},t.decs n cs=some l->l.length=n/\avs cs=(t.enc l).map .p
 |0,[],l,h=>by simp only[LT.decs,fc]at h;subst h;exact⟨rfl,rfl⟩
 |0,_::_,l,h=>by simp[LT.decs]at h
 |n+1,cs,l,h=>by
  unfold LT.decs at h;split at h
  .rename_i x l' h1 h2;cases h;obtain⟨h3,h4⟩:=LT.ud h2;have h5:=LT.x4 h1;refine⟨by simp[h3],?_⟩;have h6:avs cs=avs (cs.take t.w)++avs (cs.drop t.w):=by rw[<-sF,vu]
   rw[h6,h5,h4];simp only[LT.enc,fM,dM]
  .cases h
def dU:∀l:List PV,bM (l.map .p)=some l
 |[] =>rfl
 |x::l=>by simp only[dB,bM,dU l,eO]
def ry(l:List PV):eR (l.map .p)= .p (.agg l):=by unfold eR;rw[dU]
def LT.sub(t:LT)(l:List t.ty){i:Nat}(h:i<l.length)(off m:Nat)(hm:off+m<=t.w):
  ((t.enc l).drop (i*t.w+off)).take m=((t.rowP (t.nth l i)).drop off).take m:=by
 rw[LT.nth_eq t l h];exact t.wide.sub l h off m hm
def LT.get(t:LT)(l:List t.ty){i:Nat}(h:i<l.length)(off:Nat)(hm:off<t.w):
  (t.enc l)[i*t.w+off]? =(t.rowP (t.nth l i))[off]? :=by
 have h1:=congrArg (λl=>l[0]?) (LT.sub t l h off 1 (by omega));grind
def svK:Value->SV
 | .int k n=> .int k n
 | .bool b=> .lit b
 | .string s=> .str s
 | .slice none 0 0=> .nil
 |_=> .any
def Oa(v:Value):(svK v).av=kT v:=by unfold svK;split<;>simp only[SV.av,kT]
def FR:∀vs:List Value,avs (vs.map svK)=vs.map kT
 |[] =>rfl
 |v::vs=>by simp only[dB,avs,Oa,FR vs]
def svC:Value->SV
 | .agg cs=>if cs.toList.all (·.oneCell')=true then .agg (cs.toList.map svK)else .any
 | .tuple vs=>if vs.toList=[]then .undef else .any
 |v=>svK v
def aAq(v:Value):(svC v).av=sV v:=by
 unfold svC;split
 .split<;>rename_i h<;>simp only[sV,SV.av,FR,h] <;>rfl
 .split<;>rename_i h<;>simp only[sV,SV.av,h,if_true,if_false]
 .rw[Oa];unfold sV;grind
abbrev Frm:=List (Nat×SV)
def Frm.at:Frm->Nat->SV
 |[],_=> .undef
 |(d,v)::F,t=>match bH t d with|true=>v|false=>Frm.at F t
def Frm.lV(d:Nat)(v:SV)(F:Frm)(t:Nat):Frm.at ((d,v)::F) t=if t=d then v else Frm.at F t:=by
 conv=>lhs;unfold Frm.at
 split
 .simp_all
 .rename_i h;rw[if_neg (l8 h)]
def Frm.av(n:Nat)(F:Frm):List AV:=(bQ n).map λt=>(F.at t).av
def Frm.jM(n:Nat)(F:Frm):(F.av n).length=n:=by simp[Frm.av]
def Frm.mM{n:Nat}{F:Frm}{t:Nat}(h:t<n):(F.av n).getD t .any=(F.at t).av:=by unfold Frm.av;grind
def Frm.aA3{n:Nat}{F:Frm}{d:Nat}{v:SV}(h:d<n):eT (F.av n) (some d) v.av=Frm.av n ((d,v)::F):=by
 unfold eT;apply Cl;intro i;rw[yl];by_cases hi:i<n
 .by_cases e:d=i
  .subst e;rw[if_pos rfl,if_pos (by rw[Frm.jM];exact h)];unfold Frm.av;rw[gW,IQ h,eO,Frm.lV,if_pos rfl]
  .rw[if_neg e];unfold Frm.av;rw[gW,gW,IQ hi,eO,eO,Frm.lV,if_neg (by grind)]
 .have h1:(Frm.av n ((d,v)::F))[i]? =none:=l7 (by rw[Frm.jM];omega);have h2:(F.av n)[i]? =none:=l7 (by rw[Frm.jM];omega);grind
def tF(n:Nat)(F:Frm):Operand->SV
 | .tmp t=>(match ib t n with|true=>F.at t|false=> .any)
 | .const v=>svC v
 | .func f=> .fnp f [] []
 | .global _=> .any
def FB{n:Nat}{F:Frm}(x:Operand):(tF n F x).av=kC (F.av n) x:=by
 cases x with
 |tmp t=>
  show(match ib t n with|true=>F.at t|false=>SV.any).av=(F.av n).getD t .any;cases h:ib t n with
  |true=>rw[Frm.mM (by simp_all)]
  |false=>
   have h2:¬(t+1<=n):=λhh=>by have:=Nat.ble_eq_true_of_le hh;rw[show ib t n=mi (t+1) n from rfl]at h;grind
   rw[du,l7 (by rw[Frm.jM];grind)];rfl
 |const v=>exact aAq v
 |func f=>rfl
 |global g=>rfl
inductive SOb where
 |box (ty:TypeId) (cells:List SV)
 |row (ty:TypeId) (t:LT) (l:List t.ty)
 |arr (ty esz:Nat) (cells:List SV)
 |fam (ty ity:TypeId) (t:LT) (L:List (List t.ty)) (ov:List (Nat×SV))
 |mp (ks:List (Nat×Nat))
def i5(x:Nat){α:Type}(L:List (List α))(ov:List (Nat×SV))(i:Nat):AV:=match ov.lookup i with
 |some v=>v.av
 |none=> .own (inn x (i+1)) 0 (L.getD i []).length
def gY(ks:List (Nat×Nat)):List (List Int×AV):=ks.map λk=>([(k.1:Int),(k.2:Int)],.p (.bool true))
def sI:∀ks:List (Nat×Nat),fu (gY ks)=(ks.flatMap λk=>[PV.agg (ky [(k.1:Int),(k.2:Int)]),.bool true]).map .p
 |[] =>rfl
 |k::ks=>by
  have:=sI ks;unfold fu gY at*;grind
def SOb.ob(x:Nat):SOb->Ob
 | .box ty cs=>⟨ty,0,avs cs⟩
 | .row ty t l=>⟨ty,t.w,(t.enc l).map .p⟩
 | .arr ty esz cs=>⟨ty,esz,avs cs⟩
 | .fam ty _ _ L ov=>⟨ty,1,(bQ L.length).map (i5 x L ov)⟩
 | .mp ks=>⟨1,0,fu (gY ks)⟩
def SOb.inner(a:Nat):SOb->Option Ob
 | .fam _ ity t L ov=>(match ov.lookup a with|some _=>none|none=>(L[a]?).map λl=>⟨ity,t.w,(t.enc l).map .p⟩)
 |_=>none
def SOb.flat:SOb->Bool
 | .fam .. =>false
 |_=>true
def SOb.zY{ob:SOb}(h:ob.flat=true)(a:Nat):ob.inner a=none:=by cases ob<;>first|rfl|cases h
abbrev aU:=List (Nat×Option SOb)
def aU.at:aU->Nat->Option SOb
 |[],_=>none
 |(k,x)::L,s=>match bH s k with|true=>x|false=>aU.at L s
abbrev Sg:=Nat->Option SOb
open Classical in
def Sg.a(σ:Sg):Sto:=λs=>if inn (nm s) (sub s)=s then(match sub s with
 |0=>(σ (nm s)).map (SOb.ob (nm s))
 |a+1=>(σ (nm s)).bind (SOb.inner a))else none
def Sg.cM(σ:Sg)(x:Nat):σ.a (aR x)=(σ x).map (SOb.ob x):=by unfold Sg.a aR;rw[sU,sk,if_pos rfl]
def Sg.fW(σ:Sg)(x a:Nat):σ.a (inn x (a+1))=(σ x).bind (SOb.inner a):=by unfold Sg.a;rw[sU,sk,if_pos rfl]
def Sg.js(σ:Sg){s:Nat}(h:∀x a,s≠inn x a):σ.a s=none:=by unfold Sg.a;grind
def kP(s:Nat):(∃x,s=aR x)\/(∃x a,s=inn x (a+1))\/∀x a,s≠inn x a:=by
 by_cases h:∃x a,s=inn x a
 .obtain⟨x,a,rfl⟩:=h;cases a with
  |zero=>exact .inl ⟨x,rfl⟩
  |succ a=>grind
 grind
def aU.up(W:aU)(σ:Sg):Sg:=λs=>match W.lookup s with|some x=>x|none=>σ s
def aU.Bg(W L:aU):W.up L.at=(W++L).at:=by
 funext s
 unfold aU.up;induction W with
 |nil=>rfl
 |cons q W ih=>
  obtain⟨k,x⟩:=q;show _=(match bH s k with|true=>x|false=>aU.at (W++L) s);rw[dV];cases h:bH s k with
  |true=>simp_all
  |false=>rw[beq_eq_false_iff_ne.2 (l8 h)];exact ih
def bY(σ:Sg)(rd:List Nat)(W:aU)(R':List Nat)(W':List (Nat×Option Ob)):Prop:=
 inC R' (rd.map ncl)/\inC (W'.map (·.1)) (W.map λq=>ncl q.1)/\bC σ.a W'=(W.up σ).a
def bY.read(σ:Sg)(rd:List Nat):bY σ rd [] (rd.map aR) [] :=by refine⟨λs hs=> ?_,λs hs=>by grind,rfl⟩;obtain⟨x,hx,rfl⟩:=bZ.1 hs;rw[show cls (aR x)=ncl x from fO x 0];grind
def frs(σ:Sg)(n:Nat):Bool:=match ib n NM,σ n with
 |true,none=>true
 |_,_=>false
def mL{σ:Sg}{n:Nat}(h:frs σ n=true):aR n=sit n 0/\σ n=none:=by
 unfold frs at h;split at h
 .rename_i h1 h2;exact⟨zW (by simp_all),h2⟩
 .cases h
def qD:Option SOb->Bool
 |some ob=>ob.flat
 |none=>true
def aU.sto(W:aU):List (Nat×Option Ob):=W.map λq=>(aR q.1,q.2.map (SOb.ob q.1))
def Ux(W:aU)(x:Nat):W.sto.lookup (aR x)=(W.lookup x).map λo=>o.map (SOb.ob x):=by
 induction W with
 |nil=>rfl
 |cons q W ih=>
  obtain⟨k,o⟩:=q;show((aR k,o.map (SOb.ob k))::aU.sto W).lookup (aR x)=_;rw[dV,dV];by_cases h:x=k
  .subst h;simp
  .rw[beq_eq_false_iff_ne.2 h,beq_eq_false_iff_ne.2 λe=>h (lM e)];exact ih
def JL{W:aU}{s:Nat}(h:∀x,s≠aR x):W.sto.lookup s=none:=by
 induction W with
 |nil=>rfl
 |cons q W ih=>
  show((aR q.1,q.2.map (SOb.ob q.1))::aU.sto W).lookup s=_;grind
def bY.flat{σ:Sg}{rd:List Nat}{W:aU}(h:∀q∈W,qD (σ q.1)=true/\qD q.2=true):bY σ rd W (rd.map aR) W.sto:=by
 refine⟨(bY.read σ rd).1,λs hs=> ?_,?_⟩
 .unfold aU.sto at hs;rw[dq]at hs;obtain⟨q,hq,rfl⟩:=bZ.1 hs;show cls (aR q.1)∈_;rw[show cls (aR q.1)=ncl q.1 from fO q.1 0];grind
 .funext s
  unfold bC;rcases kP s with⟨x,rfl⟩|⟨x,a,rfl⟩|hno
  .rw[Ux,Sg.cM,Sg.cM];unfold aU.up;grind
  .rw[JL λy e=>by have:=(fL e).2;omega,Sg.fW,Sg.fW];unfold aU.up;cases hl:W.lookup x with
   |none=>rfl
   |some o=>
    have hm:(x,o)∈W:=by
     clear h;induction W with
     |nil=>cases hl
     |cons q W ih=>
      grind
    obtain⟨h1,h2⟩:=h _ hm;have nofam:∀p:Option SOb,qD p=true->p.bind (SOb.inner a)=none:=λp hp=>by
     cases p with
     |none=>rfl
     |some ob=>exact SOb.zY hp a
    grind
  .rw[JL λy e=>hno y 0 e,Sg.js σ hno,Sg.js _ hno]
end
end
noncomputable section
def aE(x:Int):Prop:= -9223372036854775808<=x/\x<=9223372036854775807
def uA{x:Int}(h:aE x):i7.wrap x=x:=by unfold aE at h;exact IntWalk.i64_in _ (by omega)
def ix(a:Int)(n:Nat):Prop:=0<=a/\a<(n:Int)
def dQ{k n:Nat}(h:k<n):ix k n:=⟨by omega,by omega⟩
def gH{k n:Nat}(h:0<n):ix (((k % n:Nat):Int)) n:=dQ (Nat.mod_lt _ h)
abbrev SR:=Option (List Prop×SV×List Nat×aU)
abbrev SE:=Operand->SV
def SE.a(E:SE):Operand->AV:=λx=>(E x).av
def rH(P:Program)(n:Nat)(o:Oper)(E:SE)(σ:Sg)(R:SR):Prop:=
 ∀ps r rd W,R=some (ps,r,rd,W)->(∀p∈ps,p)->AOp P n o E.a σ.a λr' R' W'=>r'=r.av/\bY σ rd W R' W'
def SV.ok:SV->Prop
 | .pe _ l i _=>i<l.length
 |_=>True
def SV.ape:SV->Bool
 | .pe .. =>true
 |_=>false
def SV.nI{v:SV}(h:v.ape=false):v.ok:=by cases v<;>first|trivial|cases h
def x5(x:SV):Option (List SV):=match x with
 | .agg l=>some l
 | .tup _=>none
 | .any=>none
 | .undef=>none
 | .sl n cs=>(match bM (avs cs)with|some _=>some [.sl n cs] |none=>none)
 | .pro cs o=>(match bM (avs cs)with|some _=>some [.pro cs o] |none=>none)
 | .fnp f a b=>(match bM (avs a),bM (avs b)with|some _,some _=>some [.fnp f a b] |_,_=>none)
 | .clo1 .. =>none
 | .clo2 .. =>none
 | .junk=>none
 |x=>some [x]
def Tb(l:List AV):lg (eR l)=some l:=by
 unfold eR;cases h:bM l with
 |some q=>rw[show lg (.p (.agg q))=some (q.map .p)from rfl,<-i9 h]
 |none=>rfl
def EY{x:SV}{l:List SV}(h:x5 x=some l):lg x.av=some (avs l):=by
 cases x<;>simp only[x5,reduceCtorEq,fc]at h<;>first|(subst h;rfl)|skip
 .subst h;exact Tb _
 .rename_i n cs;cases hq:bM (avs cs)with
  |none=>grind
  |some q=>rw[hq]at h;cases h;simp only[avs,SV.av,hq,lg]
 .rename_i cs o;cases hq:bM (avs cs)with
  |none=>grind
  |some q=>rw[hq]at h;cases h;simp only[avs,SV.av,hq,lg]
 .rename_i f a b;cases ha:bM (avs a)<;>cases hb:bM (avs b)<;>rw[ha,hb]at h<;>simp only[reduceCtorEq,fc]at h;subst h;simp only[avs,SV.av,ha,hb,lg]
def qI(cs:List SV)(off:Nat):List SV->List SV
 |[] =>cs
 |x::l=>qI (cs.set off x) (off+1) l
def xP:∀(l cs:List SV) (off:Nat),avs (qI cs off l)=gZ (avs cs) off (avs l)
 |[],cs,off=>rfl
 |x::l,cs,off=>by rw[qI,xP l,OT];rfl
def u8(place:Nat->Option (Nat×Nat))(cells:List SV):List (Nat×SV)->Option (List SV)
 |[] =>some cells
 |(i,v)::rest=>match place i,x5 v with
  |some (off,size),some l=>(match bH l.length size,mi (off+size) cells.length with
   |true,true=>u8 place (qI cells off l) rest
   |_,_=>none)
  |_,_=>none
def E9{place:Nat->Option (Nat×Nat)}:∀(parts:List (Nat×SV)) {cells l:List SV},u8 place cells parts=some l->nL place (avs cells) (parts.map λq=>(q.1,q.2.av))=some (avs l)
 |[],cells,l,h=>by simp only[u8,fc]at h;subst h;rfl
 |(i,v)::rest,cells,l,h=>by
  unfold u8 at h;split at h
  .rename_i off size m h1 h2;split at h
   .have:=E9 rest h;show(match place i,lg v.av with|some (off,size),some l=>if l.length=size/\off+size<=(avs cells).length then nL place (gZ (avs cells) off l) (rest.map λ(q:Nat×SV)=>(q.1,q.2.av))else none|_,_=>none)=_;rw[h1,EY h2];dsimp only;rw[if_pos ⟨by rw[ja];simp_all,by rw[ja];simp_all⟩,<-xP];exact this
   .cases h
  .cases h
def oZ(P:Program)(t:TypeId)(cs:List SV)(off:Nat):Option SV:=match tok P t,iU P t with
 |true,true=>(match bH ((cs.drop off).take (af P t)).length (af P t)with|true=>some (.agg ((cs.drop off).take (af P t)))|false=>none)
 |true,false=>cs[off]?
 |false,_=>none
def qh{P:Program}{t:TypeId}{cs:List SV}{off:Nat}{r:SV}(h:oZ P t cs off=some r){K:AV->Prop}(hK:K r.av):rD P t (avs cs) off K:=by
 unfold oZ at h;split at h
 .rename_i h1 h2;split at h
  .cases h;refine⟨h1,?_⟩;rw[if_pos h2];refine⟨_,rfl,?_,?_⟩
   .rw[<-FJ,<-FI,ja];simp_all
   .rw[<-FJ,<-FI];exact hK
  .cases h
 .rename_i h1 h2;refine⟨h1,?_⟩;rw[if_neg (by rw[h2];simp)];exact⟨r.av,by rw[xZ,h];rfl,hK⟩
 .cases h
def E4{P:Program}{t:TypeId}{cs:List PV}{off:Nat}{K:AV->Prop}(h:rD P t (cs.map .p) off K):G8 P t cs off λr=>K (.p r):=by
 obtain⟨h1,h2⟩:=h;refine⟨h1,?_⟩;split at h2
 .rename_i hg;rw[if_pos hg];obtain⟨l,h3,h4,h5⟩:=h2;refine⟨(cs.drop off).take (af P t),rfl,?_,?_⟩
  .grind
  .rw[<-h3,<-Cq,<-Cr,ry]at h5;exact h5
 grind
def EC{P:Program}{t:TypeId}{lt:LT}{l:List lt.ty}{i off:Nat}(hi:i<l.length)(hoff:off+(match iU P t with|true=>af P t|false=>1)<=lt.w){f:List PV->List AV}(hf:f=List.map .p){K:AV->Prop}
  (h:rD P t (f (lt.rowP (lt.nth l i))) off K):rD P t (f (lt.enc l)) (i*lt.w+off) K:=by
 subst hf;obtain⟨h1,h2⟩:=h;refine⟨h1,?_⟩;split at h2
 .rename_i hg;rw[hg]at hoff;rw[if_pos hg];obtain⟨m,h3,h4,h5⟩:=h2;refine⟨m,?_,h4,h5⟩;rw[<-Cq,<-Cr,LT.sub lt l hi off _ hoff,<-h3,Cr,Cq]
 .rename_i hg;have hg':iU P t=false:=by simpa using hg
  rw[if_neg hg];obtain⟨x,h3,h4⟩:=h2;refine⟨x,?_,h4⟩;rw[gW]at h3|-;rw[LT.get lt l hi off (by grind)];exact h3
def mV:List (Nat×SV)->Nat->List Prop
 |[],_=>[]
 |q::l,a=>(a≠q.1)::mV l a
def sH:∀{ov:List (Nat×SV)} {a:Nat},(∀p∈mV ov a,p)->ov.lookup a=none
 |[],_,_=>rfl
 |q::l,a,h=>by
  rw[dV,beq_eq_false_iff_ne.2 (h _ cI)];exact sH λp hp=>h p (cE _ hp)
def bY.readI(σ:Sg)(x a:Nat):bY σ [x] [] [inn x (a+1)] [] :=by refine⟨λs hs=> ?_,λs hs=>by grind,rfl⟩;rw[bi.1 hs,fO];grind
def YZ(x:Nat){α:Type}(L:List (List α))(ov:List (Nat×SV)){a:Nat}(h:a<L.length):((bQ L.length).map (i5 x L ov))[a]? =some (i5 x L ov a):=by grind
def EH{σ:Sg}{x a:Nat}{ty ity:TypeId}{lt:LT}{L:List (List lt.ty)}{ov:List (Nat×SV)}(hs:σ x=some (.fam ty ity lt L ov))(ha:a<L.length)(ho:ov.lookup a=none):σ.a (inn x (a+1))=some ⟨ity,lt.w,(lt.enc (L.getD a [])).map .p⟩:=by rw[Sg.fW,hs];show(match ov.lookup a with|some _=>none|none=>(L[a]?).map λl=>(⟨ity,lt.w,(lt.enc l).map .p⟩:Ob))=_;grind
def bY.cell{σ:Sg}{x:Nat}{ty ity:TypeId}{lt:LT}{L:List (List lt.ty)}{q:Nat×SV}{ov:List (Nat×SV)}{v:SV}(hs:σ x=some (.fam ty ity lt L (q::ov))):
  bY σ [x] [(x,some (.fam ty ity lt L ((q.1,v)::ov)))] [aR x] [(aR x,some ⟨ty,1,((bQ L.length).map (i5 x L (q::ov))).set q.1 v.av⟩)] :=by
 refine⟨(bY.read σ [x]).1,λs hs=> ?_,?_⟩
 .rw[bi.1 hs];rw[show cls (aR x)=ncl x from fO x 0];grind
 .funext s
  unfold bC;rcases kP s with⟨y,rfl⟩|⟨y,b,rfl⟩|hno
  .rw[Sg.cM,Sg.cM,dV];unfold aU.up;rw[dV];by_cases e:y=x
   .subst e;rw[beq_iff_eq.2 rfl,beq_iff_eq.2 rfl];dsimp only[eO]
    congr 1
    congr 1
    refine rT (by simp) λi h1 h2=> ?_;rw[List.getElem_set];unfold i5;grind
   .rw[beq_eq_false_iff_ne.2 e,beq_eq_false_iff_ne.2 λh=>e (lM h)];rfl
  .rw[Sg.fW,Sg.fW,dV,beq_eq_false_iff_ne.2 λh=>by have:=(fL h).2;omega];unfold aU.up;rw[dV];by_cases e:y=x
   .subst e;rw[beq_iff_eq.2 rfl,hs];unfold SOb.inner;grind
   grind
  .rw[Sg.js _ hno,Sg.js _ hno,dV,beq_eq_false_iff_ne.2 (show s≠aR x from λh=>hno x 0 h)];rfl
def Gx(P:Program)(t:TypeId)(x:SV)(σ:Sg):SR:=match x with
 | .pe lt l i off=>(match mi (off+(match iU P t with|true=>af P t|false=>1)) lt.w,oZ P t (lt.row (lt.nth l i)) off with
   |true,some r=>some ([],r,[],[])
   |_,_=>none)
 | .pro cs off=>(match bM (avs cs),oZ P t cs off with
   |some _,some r=>some ([],r,[],[])
   |_,_=>none)
 | .ptb F n off=>(match tok P t,iU P t with
   |true,false=>some ([off<n],.bool (F off),[],[])
   |_,_=>none)
 | .ptr s off=>(match σ s with
   |some (.box _ cs)=>(match oZ P t cs off with|some r=>some ([],r,[s],[])|none=>none)
   |some (.arr _ _ cs)=>(match oZ P t cs off with|some r=>some ([],r,[s],[])|none=>none)
   |_=>none)
 | .pte s lt i off=>(match σ s with
   |some (.row _ lt' l)=>(match decEq lt' lt,mi (off+(match iU P t with|true=>af P t|false=>1)) lt'.w,oZ P t (lt'.row (lt'.nth l i)) off with
    | .isTrue _,true,some r=>some ([i<l.length],r,[s],[])
    |_,_,_=>none)
   |_=>none)
 | .ptf x a=>(match σ x with
   |some (.fam _ _ lt L ov)=>(match tok P t,iU P t with
    |true,false=>some ((a<L.length)::mV ov a,.ownf x lt a (L.getD a []).length,[x],[])
    |_,_=>none)
   |_=>none)
 | .ptef x lt a i off=>(match σ x with
   |some (.fam _ _ lt' L ov)=>(match decEq lt' lt,mi (off+(match iU P t with|true=>af P t|false=>1)) lt'.w,oZ P t (lt'.row (lt'.nth (L.getD a []) i)) off with
    | .isTrue _,true,some r=>some ((a<L.length)::(i<(L.getD a []).length)::mV ov a,r,[x],[])
    |_,_,_=>none)
   |_=>none)
 |_=>none
def Xb{P:Program}{n:Nat}{o:Oper}{E:SE}{σ:Sg}{t:TypeId}{x:Operand}(ho:o.op= .load t x)(hx:(E x).ok):rH P n o E σ (Gx P t (E x) σ):=by
 intro ps r rd W h hp;unfold AOp;rw[ho];dsimp only;unfold Gx at h;split at h
 .rename_i lt l i off e;split at h<;>cases h;rename_i h1 h2;rw[e]at hx;rw[show E.a x= .p (.pro (lt.enc l) (i*lt.w+off)) by unfold SE.a;rw[e];rfl];refine E4 (K:=λr'=>r'=r.av/\_) ?_;refine EC hx (mA h1) rfl ?_;rw[<-LT.BN];exact qh h2 ⟨rfl,bY.read σ []⟩
 .rename_i cs off e;split at h<;>cases h;rename_i q h1 h2;rw[show E.a x= .p (.pro q off) by unfold SE.a;rw[e];simp only[SV.av,h1]];refine E4 (K:=λr'=>r'=r.av/\_) ?_;rw[<-i9 h1];exact qh h2 ⟨rfl,bY.read σ []⟩
 .rename_i F m off e;split at h<;>cases h;rename_i h1 h2;have hlt:off<m:=hp _ (by grind);rw[show E.a x= .p (.pro (B8 m F) off) by unfold SE.a;rw[e];rfl];refine E4 (K:=λr'=>r'=(SV.bool (F off)).av/\_) ?_;exact⟨h1,by rw[if_neg (by rw[h2];simp)];exact⟨.p (.bool (F off)),by rw[gW,XO F hlt];rfl,rfl,bY.read σ []⟩⟩
 .rename_i s off e;rw[show E.a x= .ptr (aR s) off by unfold SE.a;rw[e];rfl];split at h
  .rename_i ty cs hs;split at h<;>cases h;rename_i h2;refine⟨_,by rw[Sg.cM,hs];rfl,?_⟩;exact qh h2 ⟨rfl,bY.read σ [s]⟩
  .rename_i ty ez cs hs;split at h<;>cases h;rename_i h2;refine⟨_,by rw[Sg.cM,hs];rfl,?_⟩;exact qh h2 ⟨rfl,bY.read σ [s]⟩
  .cases h
 .rename_i s lt i off e;rw[show E.a x= .ptr (aR s) (i*lt.w+off) by unfold SE.a;rw[e];rfl];split at h
  .rename_i ty lt' l hs;split at h<;>cases h;rename_i he h1 h2 h3;subst he;refine⟨_,by rw[Sg.cM,hs];rfl,?_⟩;refine EC (hp _ (by simp)) (mA h2) rfl ?_;rw[<-LT.BN];exact qh h3 ⟨rfl,bY.read σ [s]⟩
  .cases h
 .rename_i y a e;rw[show E.a x= .ptr (aR y) a by unfold SE.a;rw[e];rfl];split at h
  .rename_i ty ity lt L ov hs;split at h<;>cases h;rename_i h1 h2;have ha:a<L.length:=hp _ (by grind);have ho:ov.lookup a=none:=sH (by grind);refine⟨_,by rw[Sg.cM,hs];rfl,h1,?_⟩;rw[if_neg (by rw[h2];simp)];refine⟨_,YZ y L ov ha,?_,bY.read σ [y]⟩;unfold i5;rw[ho];rfl
  .cases h
 .rename_i y lt a i off e;rw[show E.a x= .ptr (inn y (a+1)) (i*lt.w+off) by unfold SE.a;rw[e];rfl];split at h
  .rename_i ty ity lt' L ov hs;split at h<;>cases h;rename_i he h1 h2 h3;subst he;have ha:a<L.length:=hp _ (by grind);have hi:i<(L.getD a []).length:=hp _ (by grind);have ho:ov.lookup a=none:=sH (by grind);refine⟨_,EH hs ha ho,?_⟩;refine EC hi (mA h2) rfl ?_;rw[<-LT.BN];exact qh h3 ⟨rfl,bY.readI σ y a⟩
  .cases h
 .cases h
def BJ(P:Program)(t:TypeId)(a v:SV)(σ:Sg):SR:=match x5 v,(P.info? t).isSome with
 |some l,true=>(match bH l.length (af P t)with
  |true=>(match a with
   | .ptr s off=>(match σ s with
     |some (.box ty cs)=>(match mi (off+l.length) cs.length with|true=>some ([],.undef,[s],[(s,some (.box ty (qI cs off l)))])|false=>none)
     |some (.arr ty ez cs)=>(match mi (off+l.length) cs.length with|true=>some ([],.undef,[s],[(s,some (.arr ty ez (qI cs off l)))])|false=>none)
     |_=>none)
   | .pte s lt i off=>(match σ s with
     |some (.row ty lt' m)=>(match decEq lt' lt,mi (off+l.length) lt'.w,lt'.dec (qI (lt'.row (lt'.nth m i)) off l)with
      | .isTrue _,true,some e=>some ([i<m.length],.undef,[s],[(s,some (.row ty lt' (m.set i e)))])
      |_,_,_=>none)
     |_=>none)
   | .ptf x a=>(match l,σ x with
     |[v],some (.fam ty ity lt L (q::ov))=>some ([a=q.1,a<L.length],.undef,[x],[(x,some (.fam ty ity lt L ((q.1,v)::ov)))])
     |_,_=>none)
   |_=>none)
  |false=>none)
 |_,_=>none
def Ts{a b c l:List AV}{k off:Nat}(hk:k=a.length)(hoff:off+l.length<=b.length):gZ (a++b++c) (k+off) l=a++gZ b off l++c:=by
 induction l generalizing b off with
 |nil=>rfl
 |cons x l ih=>
  simp only[gk]at hoff;rw[gZ,gZ,jw,List.set_append_right _ _ (by omega),show k+off-a.length=off by omega,List.set_append_left _ _ (by omega),<-jw,show k+off+1=k+(off+1) by omega,ih (by simp;omega)]
def Zz(t:LT)(l:List t.ty){i:Nat}(h:i<l.length)(e:t.ty):t.enc l=t.enc (l.take i)++t.rowP l[i] ++t.enc (l.drop (i+1))/\t.enc (l.set i e)=t.enc (l.take i)++t.rowP e++t.enc (l.drop (i+1)):=by
 constructor
 .conv=>lhs;rw[<-vu i l,<-List.getElem_cons_drop h]
  unfold LT.enc;grind
 .rw[List.set_eq_take_append_cons_drop,if_pos h];unfold LT.enc;grind
def Vk{P:Program}{n:Nat}{o:Oper}{E:SE}{σ:Sg}{t:TypeId}{a x:Operand}(ho:o.op= .store t a x):rH P n o E σ (BJ P t (E a) (E x) σ):=by
 intro ps r rd W h hp;unfold AOp;rw[ho];dsimp only;unfold BJ at h;split at h
 case h_2=>cases h
 rename_i l hl ht;split at h
 case h_2=>cases h
 rename_i hsz;have hl':lg (E.a x)=some (avs l):=EY hl;have hsz':(avs l).length=af P t:=by rw[ja];exact dI hsz
 split at h
 .rename_i s off e;rw[show E.a a= .ptr (aR s) off by unfold SE.a;rw[e];rfl];unfold uf;split at h
  .rename_i ty cs hs;split at h<;>cases h;refine⟨_,_,by rw[Sg.cM,hs];rfl,hl',hsz',ht,?_,rfl,?_⟩
   .show off+(avs l).length<=(avs cs).length;rw[ja,ja];simp_all
   .show bY _ _ _ _ [(aR s,some (⟨ty,0,gZ (avs cs) off (avs l)⟩:Ob))];rw[<-xP];exact bY.flat (W:=[(s,some (.box ty (qI cs off l)))]) λq hq=>by rw[bi.1 hq,hs];exact⟨rfl,rfl⟩
  .rename_i ty ez cs hs;split at h<;>cases h;refine⟨_,_,by rw[Sg.cM,hs];rfl,hl',hsz',ht,?_,rfl,?_⟩
   .show off+(avs l).length<=(avs cs).length;rw[ja,ja];simp_all
   .show bY _ _ _ _ [(aR s,some (⟨ty,ez,gZ (avs cs) off (avs l)⟩:Ob))];rw[<-xP];exact bY.flat (W:=[(s,some (.arr ty ez (qI cs off l)))]) λq hq=>by rw[bi.1 hq,hs];exact⟨rfl,rfl⟩
  .cases h
 .rename_i s lt i off e;rw[show E.a a= .ptr (aR s) (i*lt.w+off) by unfold SE.a;rw[e];rfl];unfold uf;split at h
  .rename_i ty lt' m hs;split at h<;>cases h;rename_i he h1 _ h2 h3;subst he;have hi:i<m.length:=hp _ (by simp);obtain⟨e1,e2⟩:=Zz lt' m hi h1;have h2':=mA h2;have hlen:(lt'.enc (m.take i)).length=i*lt'.w:=by rw[lt'.wide.length,l6,IS (by omega)]
   refine⟨_,_,by rw[Sg.cM,hs];rfl,hl',hsz',ht,?_,rfl,?_⟩
   .show i*lt'.w+off+(avs l).length<=((lt'.enc m).map AV.p).length;rw[ja,da,lt'.wide.length];have:(i+1)*lt'.w<=m.length*lt'.w:=Cm _ (by omega);grind
   .have e3:gZ ((lt'.enc m).map AV.p) (i*lt'.w+off) (avs l)=(lt'.enc (m.set i h1)).map AV.p:=by
     rw[e2,dM,dM,<-LT.x4 h3,xP,LT.BN,LT.nth_eq lt' m hi]
     conv=>lhs;rw[e1,dM,dM]
     rw[Ts (by grind) (by rw[ja,da,(lt'.wide []).2];exact h2')]
    show bY _ _ _ _ [(aR s,some (⟨ty,lt'.w,gZ ((lt'.enc m).map AV.p) (i*lt'.w+off) (avs l)⟩:Ob))];rw[e3];exact bY.flat (W:=[(s,some (.row ty lt' (m.set i h1)))]) λq hq=>by rw[bi.1 hq,hs];exact⟨rfl,rfl⟩
  .cases h
 .rename_i y b e;rw[show E.a a= .ptr (aR y) b by unfold SE.a;rw[e];rfl];unfold uf;split at h<;>cases h;rename_i v ty ity lt L q ov hs;have hb:b=q.1:=hp _ (by grind);have hL:b<L.length:=hp _ (by grind);refine⟨_,_,by rw[Sg.cM,hs];rfl,hl',hsz',ht,?_,rfl,?_⟩
  .show b+1<=((bQ L.length).map (i5 y L (q::ov))).length;grind
  .subst hb;exact bY.cell hs
 .cases h
def ut(P:Program)(t:TypeId):Option (List SV):=match pq P t with
 |true=>(match P.info? t with
  |some i=>(match i.zero with|some z=>some (z.cells.toList.map svK)|none=>none)
  |none=>none)
 |false=>none
def uH{P:Program}{t:TypeId}{z:List SV}(h:ut P t=some z):pu P t=some (avs z)/\pq P t=true:=by
 unfold ut at h;split at h
 .rename_i hz;split at h
  .rename_i i hi;split at h<;>cases h;rename_i zv hzv;refine⟨?_,hz⟩;unfold pu;rw[hi,qP,hzv,eO,FR]
  .cases h
 .cases h
def bY.new{σ:Sg}{n:Nat}{ob:SOb}(h:σ n=none)(hs:aR n=sit n 0)(hf:ob.flat=true):bY σ [] [(n,some ob)] [] [(sit n 0,some (ob.ob n))] :=by rw[<-hs];exact bY.flat (rd:=[]) (W:=[(n,some ob)]) λq hq=>by rw[bi.1 hq,h];exact⟨rfl,hf⟩
def BM(P:Program)(σ:Sg)(n:Nat)(t:TypeId):SR:=match ut P t,frs σ n with
 |some z,true=>some ([],.ptr n 0,[],[(n,some (.box t z))])
 |_,_=>none
def Vz{P:Program}{n:Nat}{o:Oper}{E:SE}{σ:Sg}{t:TypeId}(ho:o.op= .alloc t):rH P n o E σ (BM P σ n t):=by intro ps r rd W h hp;unfold AOp;rw[ho];unfold BM at h;split at h<;>cases h;rename_i z hz hf;obtain⟨h1,h2⟩:=uH hz;obtain⟨f1,f2⟩:=mL hf;exact⟨_,h1,h2,by show _=AV.ptr (aR n) 0;rw[f1],bY.new f2 f1 rfl⟩
def CB(σ:Sg)(n:Nat)(t:TypeId)(x:SV):SR:=match x5 x,frs σ n with
 |some l,true=>some ([],.ptr n 0,[],[(n,some (.box t l))])
 |_,_=>none
def ZF{P:Program}{n:Nat}{o:Oper}{E:SE}{σ:Sg}{t:TypeId}{x:Operand}(ho:o.op= .box t x):rH P n o E σ (CB σ n t (E x)):=by intro ps r rd W h hp;unfold AOp;rw[ho];unfold CB at h;split at h<;>cases h;rename_i l hl hf;obtain⟨f1,f2⟩:=mL hf;exact⟨_,EY hl,by show _=AV.ptr (aR n) 0;rw[f1],bY.new f2 f1 rfl⟩
def BL(P:Program)(t:TypeId)(parts:List (Nat×SV)):SR:=match ut P t,Fl P t with
 |some z,true=>(match u8 (GT P t) z parts with|some l=>some ([],.agg l,[],[])|none=>none)
 |_,_=>none
def Vv{P:Program}{n:Nat}{o:Oper}{E:SE}{σ:Sg}{t:TypeId}{parts:Array (Nat×Operand)}(ho:o.op= .build t parts):rH P n o E σ (BL P t (parts.toList.map λq=>(q.1,E q.2))):=by
 intro ps r rd W h hp;unfold AOp;rw[ho];unfold BL at h;split at h
 .rename_i z hz hk;split at h<;>cases h;rename_i l hl;obtain⟨h1,h2⟩:=uH hz;have:=E9 _ hl;rw[dq]at this;exact⟨_,h1,h2,hk,_,this,rfl,bY.read σ []⟩
 .cases h
def CF:Nat->List SV->List SV
 |0,_=>[]
 |m+1,z=>z++CF m z
def NS(z:List SV):∀m,avs (CF m z)=mU m (avs z)
 |0=>rfl
 |m+1=>by rw[CF,sF,NS z m];rfl
def Ao(P:Program)(σ:Sg)(n:Nat)(t:TypeId)(len:Nat)(parts:List (Nat×SV)):SR:=match dD P t with
 |some e=>(match ut P e,mi (len*af P e) 1000000,frs σ n with
  |some (z0::zs),true,true=>(match u8 (λi=>some (i*af P e,af P e)) (CF len (z0::zs)) parts with
   |some l=>some ([],.ownx n len,[],[(n,some (.arr e (af P e) l))])
   |none=>none)
  |_,_,_=>none)
 |none=>none
def Ui{P:Program}{n:Nat}{o:Oper}{E:SE}{σ:Sg}{t:TypeId}{len:Nat}{parts:Array (Nat×Operand)}(ho:o.op= .buildSlice t len parts):rH P n o E σ (Ao P σ n t len (parts.toList.map λq=>(q.1,E q.2))):=by
 intro ps r rd W h hp;unfold AOp;rw[ho];unfold Ao at h;split at h
 .rename_i e he;split at h
  .rename_i z0 zs hz hb hf;split at h<;>cases h;rename_i l hl;obtain⟨f1,f2⟩:=mL hf;obtain⟨h1,h2⟩:=uH hz;have:=E9 _ hl;rw[dq,NS]at this;exact⟨e,_,he,h1,h2,(by simp[avs]),mA hb,_,this,by show _=AV.own (aR n) 0 len;rw[f1],bY.new f2 f1 rfl⟩
  .cases h
 .cases h
def Gt(c a b:SV):Option SV:=match c with
 | .lit true=>some a
 | .lit false=>some b
 | .prop p d=>(match a,b with
   | .int .i64 x,.int .i64 y=>some (.int .i64 (@ite _ p d x y))
   | .bool x,.bool y=>some (.bool (@ite _ p d x y))
   | .prop q e,.lit y=>some (.bool (@ite _ p d (@decide q e) y))
   | .lit x,.prop q e=>some (.bool (@ite _ p d x (@decide q e)))
   | .bool x,.lit y=>some (.bool (@ite _ p d x y))
   | .lit x,.bool y=>some (.bool (@ite _ p d x y))
   |_,_=>none)
 | .bool c=>(match a,b with
   | .int .i64 x,.int .i64 y=>some (.int .i64 (if c=true then x else y))
   | .bool x,.bool y=>some (.bool (if c=true then x else y))
   | .bool x,.lit y=>some (.bool (if c=true then x else y))
   | .lit x,.bool y=>some (.bool (if c=true then x else y))
   |_,_=>none)
 |_=>none
def XU{c a b r:SV}(h:Gt c a b=some r){K:AV->Prop}(hK:K r.av):uw c.av a.av b.av K:=by
 unfold Gt at h;split at h
 .cases h;exact hK
 .cases h;exact hK
 .rename_i p d;split at h<;>cases h<;>(simp only[SV.av,uw]at*;cases d<;>rename_i hp<;>simpa[hp]using hK)
 .rename_i c;split at h<;>cases h<;>(simp only[SV.av,uw]at*;cases c<;>simpa using hK)
 .cases h
def GQ(P:Program)(t:TypeId)(x:SV)(f:Nat):Option SV:=match tL P t f with
 |some q=>(match x with
  | .ptr s off=>some (.ptr s (off+q.1))
  | .pe lt l i off=>some (.pe lt l i (off+q.1))
  | .pte s lt i off=>some (.pte s lt i (off+q.1))
  | .pro cs off=>(match bM (avs cs)with|some _=>some (.pro cs (off+q.1))|none=>none)
  |_=>none)
 |none=>none
def Vr{P:Program}{t:TypeId}{x:SV}{f:Nat}{r:SV}(h:GQ P t x f=some r){K:AV->Prop}(hK:K r.av):Ge P t f x.av K/\(x.ok->r.ok):=by
 unfold GQ at h;split at h
 .rename_i q hq;split at h
  .cases h;exact⟨⟨q,hq,hK⟩,λ_=>trivial⟩
  .cases h;exact⟨⟨q,hq,by simpa[SV.av,rS]using hK⟩,λh=>h⟩
  .cases h;exact⟨⟨q,hq,by simpa[SV.av,rS]using hK⟩,λ_=>trivial⟩
  .split at h<;>cases h;rename_i m hm;refine⟨⟨q,hq,?_⟩,λ_=>trivial⟩;simp only[SV.av,hm]at hK|-;exact hK
  .cases h
 .cases h
def GP(P:Program)(t:TypeId)(x:SV)(f:Nat):Option SV:=match tL P t f,x with
 |some q,.agg l=>(match tok P q.2,iU P q.2 with
  |true,true=>some (.agg ((l.drop q.1).take (af P q.2)))
  |true,false=>l[q.1]?
  |false,_=>none)
 |_,_=>none
def Vq{P:Program}{t:TypeId}{x:SV}{f:Nat}{r:SV}(h:GP P t x f=some r){K:AV->Prop}(hK:K r.av):Gc P t f x.av K:=by
 unfold GP at h;split at h
 .rename_i q l hq;refine⟨q,hq,?_⟩;have key:sz P q.2 (avs l) q.1 K:=by
   split at h
   .rename_i h1 h2;cases h;refine⟨h1,?_⟩;rw[if_pos h2];exact⟨_,rfl,by rw[<-FJ,<-FI];exact hK⟩
   .rename_i h1 h2;refine⟨h1,?_⟩;rw[if_neg (by rw[h2];simp)];exact⟨r.av,by rw[xZ,h];rfl,hK⟩
   .cases h
  show(match eR (avs l)with| .agg l=>sz P q.2 l q.1 K| .p (.agg l)=>sz P q.2 (l.map .p) q.1 K|_=>False);unfold eR;cases hq:bM (avs l)with
  |none=>exact key
  |some m=>dsimp only;rw[<-i9 hq];exact key
 .cases h
def GO(P:Program)(t:TypeId)(x i:SV):Option (List Prop×SV):=match i with
 | .int _ a=>(match x with
   | .lst lt l=>(match dD P t with
     |some e=>(match(P.info? e).isSome,bH (af P e) lt.w with|true,true=>some ([ix a l.length],.pe lt l a.toNat 0)|_,_=>none)
     |none=>none)
   | .own s lt n=>(match dD P t with
     |some e=>(match(P.info? e).isSome,bH (af P e) lt.w with|true,true=>some ([ix a n],.pte s lt a.toNat 0)|_,_=>none)
     |none=>none)
   | .owns s lt o n=>(match dD P t with
     |some e=>(match(P.info? e).isSome,bH (af P e) lt.w with|true,true=>some ([ix a n],.pte s lt (o+a.toNat) 0)|_,_=>none)
     |none=>none)
   | .ownx s n=>(match dD P t with
     |some e=>(match(P.info? e).isSome with|true=>some ([ix a n],.ptr s (a.toNat*af P e))|_=>none)
     |none=>none)
   | .owF x n=>(match dD P t with
     |some e=>(match(P.info? e).isSome,bH (af P e) 1 with|true,true=>some ([ix a n],.ptf x a.toNat)|_,_=>none)
     |none=>none)
   | .ownf x lt b n=>(match dD P t with
     |some e=>(match(P.info? e).isSome,bH (af P e) lt.w with|true,true=>some ([ix a n],.ptef x lt b a.toNat 0)|_,_=>none)
     |none=>none)
   | .sl n cs=>(match dD P t,bM (avs cs)with
     |some e,some _=>(match(P.info? e).isSome with|true=>some ([ix a n],.pro cs (a.toNat*af P e))|_=>none)
     |_,_=>none)
   | .ptr s off=>(match rJ P t with
     |some q=>(match(P.info? q.2).isSome with|true=>some ([ix a q.1],.ptr s (off+a.toNat*af P q.2))|_=>none)
     |none=>none)
   | .pe lt l j off=>(match rJ P t with
     |some q=>(match(P.info? q.2).isSome with|true=>some ([ix a q.1,j<l.length],.pe lt l j (off+a.toNat*af P q.2))|_=>none)
     |none=>none)
   | .ptb F m off=>(match rJ P t with
     |some q=>(match(P.info? q.2).isSome with|true=>some ([ix a q.1],.ptb F m (off+a.toNat*af P q.2))|_=>none)
     |none=>none)
   | .pro cs off=>(match rJ P t,bM (avs cs)with
     |some q,some _=>(match(P.info? q.2).isSome with|true=>some ([ix a q.1],.pro cs (off+a.toNat*af P q.2))|_=>none)
     |_,_=>none)
   |_=>none)
 |_=>none
def Vp{P:Program}{t:TypeId}{x i:SV}{ps:List Prop}{r:SV}(h:GO P t x i=some (ps,r))(hp:∀p∈ps,p){K:AV->Prop}(hK:K r.av):BY P t x.av i.av K/\r.ok:=by
 unfold GO at h;split at h
 case h_2=>cases h
 rename_i k a;split at h
 .rename_i lt l;split at h
  .rename_i e he;split at h<;>cases h;rename_i h1 h2;have hb:=hp _ (bi.2 rfl);unfold ix at hb;refine⟨⟨e,he,h1,hb.1,hb.2,?_⟩,show a.toNat<l.length by omega⟩;rw[dI h2];exact hK
  .cases h
 .split at h
  .rename_i e he;split at h<;>cases h;rename_i h1 h2;have hb:=hp _ (bi.2 rfl);refine⟨⟨e,he,h1,hb.1,hb.2,?_⟩,trivial⟩;rw[dI h2,jy];exact hK
  .cases h
 .split at h
  .rename_i e he;split at h<;>cases h;rename_i h1 h2;have hb:=hp _ (bi.2 rfl);refine⟨⟨e,he,h1,hb.1,hb.2,?_⟩,trivial⟩;rw[dI h2,<-yn];exact hK
  .cases h
 .split at h
  .rename_i e he;split at h<;>cases h;rename_i h1;have hb:=hp _ (bi.2 rfl);refine⟨⟨e,he,h1,hb.1,hb.2,?_⟩,trivial⟩;rw[jy];exact hK
  .cases h
 .split at h
  .rename_i e he;split at h<;>cases h;rename_i h1 h2;have hb:=hp _ (bi.2 rfl);refine⟨⟨e,he,h1,hb.1,hb.2,?_⟩,trivial⟩;rw[dI h2,jy,Nat.mul_one];exact hK
  .cases h
 .split at h
  .rename_i e he;split at h<;>cases h;rename_i h1 h2;have hb:=hp _ (bi.2 rfl);refine⟨⟨e,he,h1,hb.1,hb.2,?_⟩,trivial⟩;rw[dI h2,jy];exact hK
  .cases h
 .split at h
  .rename_i e m he hm;split at h<;>cases h;rename_i h1;have hb:=hp _ (bi.2 rfl);refine⟨?_,trivial⟩;simp only[SV.av,hm]at hK|-;exact⟨e,he,h1,hb.1,hb.2,hK⟩
  .cases h
 .split at h
  .rename_i q hq;split at h<;>cases h;rename_i h1;have hb:=hp _ (bi.2 rfl);exact⟨⟨q,hq,h1,hb.1,hb.2,hK⟩,trivial⟩
  .cases h
 .rename_i lt l j off;split at h
  .rename_i q hq;split at h<;>cases h;rename_i h1;have hb:=hp _ (cI);refine⟨⟨q,hq,h1,hb.1,hb.2,?_⟩,hp (j<l.length) (by grind)⟩;rw[rS];exact hK
  .cases h
 .split at h
  .rename_i q hq;split at h<;>cases h;rename_i h1;have hb:=hp _ (bi.2 rfl);exact⟨⟨q,hq,h1,hb.1,hb.2,hK⟩,trivial⟩
  .cases h
 .split at h
  .rename_i q m hq hm;split at h<;>cases h;rename_i h1;have hb:=hp _ (bi.2 rfl);refine⟨?_,trivial⟩;simp only[SV.av,hm]at hK|-;exact⟨q,hq,h1,hb.1,hb.2,hK⟩
  .cases h
 .cases h
def bY.newF{σ:Sg}{n m:Nat}{e ie:TypeId}{lt:LT}(h:σ n=none)(hs:aR n=sit n 0):
  bY σ [] [(n,some (.fam e ie lt (cS m []) []))] [] ((sit n 0,some ⟨e,1,(bQ m).map λj=> .own (inn n (j+1)) 0 0⟩)::(bQ m).map λj=>(inn n (j+1),some ⟨ie,lt.w,[]⟩)):=by
 rw[<-hs];refine⟨λs hm=>by grind,λs hm=> ?_,?_⟩
 .have hc:cls s=ncl n:=by
   rcases bT.1 hm with rfl|hm
   .exact fO n 0
   .rw[dq]at hm;obtain⟨j,_,rfl⟩:=bZ.1 hm;exact fO n (j+1)
  grind
 .funext s
  unfold bC;rw[dV,DA (λj=>inn n (j+1))];rcases kP s with⟨y,rfl⟩|⟨y,b,rfl⟩|hno
  .rw[if_neg (show¬aR y∈(bQ m).map λj=>inn n (j+1)from λhm=>by obtain⟨j,_,hj⟩:=bZ.1 hm;have:=(fL hj).2;omega)]
   rw[Sg.cM,Sg.cM];unfold aU.up;rw[dV];by_cases e1:y=n
   .subst e1;rw[beq_iff_eq.2 rfl,beq_iff_eq.2 rfl];show some (⟨e,1,_⟩:Ob)=some ⟨e,1,(bQ (cS m ([] :List lt.ty)).length).map (i5 y (cS m ([] :List lt.ty)) [])⟩;rw[List.length_replicate]
    congr 2
    refine nZ λi hi=> ?_;show _=AV.own (inn y (i+1)) 0 ((cS m ([] :List lt.ty)).getD i []).length;grind
   .rw[beq_eq_false_iff_ne.2 e1,beq_eq_false_iff_ne.2 (show aR y≠aR n from λh=>e1 (lM h))];rfl
  .rw[beq_eq_false_iff_ne.2 (show inn y (b+1)≠aR n from λh=>by have:=(fL h).2;omega),Sg.fW,Sg.fW];unfold aU.up;rw[dV];by_cases e1:y=n
   .subst e1;rw[beq_iff_eq.2 rfl];show _=(((cS m ([] :List lt.ty))[b]?).map λl=>(⟨ie,lt.w,(lt.enc l).map .p⟩:Ob));rw[List.getElem?_replicate];by_cases hb:b<m
    .rw[if_pos (by grind),if_pos hb];rfl
    .rw[if_neg (show¬inn y (b+1)∈(bQ m).map λj=>inn y (j+1)from λhm=>by obtain⟨j,h1,hj⟩:=bZ.1 hm;have:=(fL hj).2;grind),if_neg hb,h];rfl
   .rw[if_neg (show¬inn y (b+1)∈(bQ m).map λj=>inn n (j+1)from λhm=>by obtain⟨j,h1,hj⟩:=bZ.1 hm;exact e1 (fL hj).1.symm),beq_eq_false_iff_ne.2 e1];rfl
  .rw[if_neg (by grind),beq_eq_false_iff_ne.2 (show s≠aR n from λh=>hno n 0 h),Sg.js _ hno,Sg.js _ hno]
def Eo(x:PV):∀m,mU m [.p x] =(cS m x).map .p
 |0=>rfl
 |m+1=>by rw[mU,Eo x m,vn];rfl
def MZ:∀m,LT.I.enc (cS m (0:Int))=cS m (.int .i64 0)
 |0=>rfl
 |m+1=>by rw[vn,vn,<-MZ m];rfl
def Ma:∀m,LT.B.enc (cS m false)=cS m (.bool false)
 |0=>rfl
 |m+1=>by rw[vn,vn,<-Ma m];rfl
def Gv(P:Program)(ltOf:TypeId->Option LT)(σ:Sg)(n:Nat)(t:TypeId)(x y:SV):SR:=match x,y with
 | .int _ a,.int _ b=>(match dD P t,frs σ n with
   |some e,true=>(match P.info? e,ut P e,bH (af P e) 1 with
    |some i,some [.int .i64 (.ofNat 0)],true=>some ([0<=a,b=a,a<=1000000,a.toNat*i.bytes<=1000000000],.own n .I a.toNat,[],[(n,some (.row e .I (cS a.toNat (0:Int))))])
    |some i,some [.lit false],true=>some ([0<=a,b=a,a<=1000000,a.toNat*i.bytes<=1000000000],.own n .B a.toNat,[],[(n,some (.row e .B (cS a.toNat false)))])
    |some i,some [.nil],true=>(match dD P e with
     |some ie=>(match ltOf ie with
      |some lt=>some ([0<=a,b=a,a<=1000000,a.toNat*i.bytes<=1000000000],.owF n a.toNat,[],[(n,some (.fam e ie lt (cS a.toNat []) []))])
      |none=>none)
     |none=>none)
    |_,_,_=>none)
   |_,_=>none)
 |_,_=>none
def XZ{P:Program}{ltOf:TypeId->Option LT}{n:Nat}{o:Oper}{E:SE}{σ:Sg}{t:TypeId}{x y:Operand}(ho:o.op= .makeSlice t x y):rH P n o E σ (Gv P ltOf σ n t (E x) (E y)):=by
 intro ps r rd W h hp;unfold AOp;rw[ho];dsimp only;unfold Gv at h;split at h
 case h_2=>cases h
 rename_i k1 a k2 b ea eb;rw[show E.a x= .p (.int k1 a) by unfold SE.a;rw[ea];rfl,show E.a y= .p (.int k2 b) by unfold SE.a;rw[eb];rfl];split at h
 case h_2=>cases h
 rename_i e he hf;obtain⟨f1,f2⟩:=mL hf;split at h
 .cases h;rename_i i hi hz hw;obtain⟨z1,z2⟩:=uH hz;have q1:0<=a:=hp _ (by simp);have q2:b=a:=hp _ (by simp);have q3:a<=1000000:=hp _ (by simp);have q4:a.toNat*i.bytes<=1000000000:=hp _ (by simp);have hw:=dI hw;subst q2;refine .inl ⟨k1,k2,b.toNat,e,_,i,by grind,by grind,he,hi,z1,z2,by simp[avs],by grind,q4,?_,?_⟩
  .show _=AV.own (aR n) 0 _;rw[f1]
  .rw[hw,show avs [SV.int .i64 (.ofNat 0)] =[.p (.int .i64 0)]from rfl,Eo,<-MZ];exact bY.new (ob:= .row e .I (cS b.toNat (0:Int))) f2 f1 rfl
 .cases h;rename_i i hi hz hw;obtain⟨z1,z2⟩:=uH hz;have q1:0<=a:=hp _ (by simp);have q2:b=a:=hp _ (by simp);have q3:a<=1000000:=hp _ (by simp);have q4:a.toNat*i.bytes<=1000000000:=hp _ (by simp);have hw:=dI hw;subst q2;refine .inl ⟨k1,k2,b.toNat,e,_,i,by grind,by grind,he,hi,z1,z2,by simp[avs],by grind,q4,?_,?_⟩
  .show _=AV.own (aR n) 0 _;rw[f1]
  .rw[hw,show avs [SV.lit false] =[.p (.bool false)]from rfl,Eo,<-Ma];exact bY.new (ob:= .row e .B (cS b.toNat false)) f2 f1 rfl
 .rename_i i hi hz hw;split at h
  case h_2=>cases h
  rename_i ie hie;split at h<;>cases h;rename_i lt hlt;obtain⟨z1,z2⟩:=uH hz;have q1:0<=a:=hp _ (by simp);have q2:b=a:=hp _ (by simp);have q3:a<=1000000:=hp _ (by simp);have q4:a.toNat*i.bytes<=1000000000:=hp _ (by simp);subst q2;have hcl:ncl n=n:=by have h1:cls (aR n)=ncl n:=fO n 0;rw[f1,iH]at h1;exact h1.symm
  refine .inr ⟨λj=>inn n (j+1),ie,lt.w,k1,k2,b.toNat,e,i,by grind,by grind,he,hi,z1,z2,by have:=lt.kU;omega,λj=>(fO n (j+1)).trans hcl,λj hj=> ?_,by omega,q4,?_,bY.newF f2 f1⟩
  .rw[<-f1]at hj;have:=(fL hj).2;omega
  .show _=AV.own (aR n) 0 _;rw[f1]
 .cases h
def Gy(x:SV)(i:Nat):Option SV:=match x with
 | .tup l=>l[i]?
 |_=>none
def Xc{x:SV}{i:Nat}{r:SV}(h:Gy x i=some r){K:AV->Prop}(hK:K r.av):yJ x.av i K:=by
 unfold Gy at h;split at h
 .rename_i l;have h1:(avs l)[i]? =some r.av:=by rw[xZ,h];rfl
  show yJ (kA (avs l)) i K;unfold kA;cases hq:bM (avs l)with
  |none=>exact⟨_,h1,hK⟩
  |some q=>
   rw[i9 hq,gW]at h1;cases hc:q[i]? with
   |none=>grind
   |some y=>exact⟨y,hc,by grind⟩
 .cases h
end
noncomputable section
def om(raw:Bool)(k:IntKind)(x:Int):List Prop×SV:=match raw,k with
 |false,.i64=>([aE x],.int .i64 x)
 |_,k=>([],.int k (k.wrap x))
def uY{raw:Bool}{k:IntKind}{x:Int}(h:∀p∈(om raw k x).1,p):(om raw k x).2.av= .p (.int k (k.wrap x)):=by
 unfold om at h|-;split
 .rw[uA (h _ (by grind))];rfl
 .rfl
def yK:SV->Option Bool
 | .bool b=>some b
 | .lit b=>some b
 | .prop p d=>some (@decide p d)
 |_=>none
def xJ{x:SV}{b:Bool}(h:yK x=some b):x.av= .p (.bool b):=by cases x<;>simp only[yK,reduceCtorEq,fc]at h<;>subst h<;>rfl
def GR(raw:Bool)(op:BinOp)(k:IntKind)(a b:Int):Option (List Prop×SV):=match op with
 | .add=>some (om raw k (a+b))
 | .sub=>some (om raw k (a-b))
 | .mul=>some (om raw k (a*b))
 | .quo=>some ((b≠0)::(om raw k (a.tdiv b)).1,(om raw k (a.tdiv b)).2)
 | .rem=>some ([b≠0],.int k (a.tmod b))
 | .eql=>some ([],.prop (a=b) inferInstance)
 | .neq=>some ([],.prop (¬a=b) inferInstance)
 | .lss=>some ([],.prop (a<b) inferInstance)
 | .leq=>some ([],.prop (a<=b) inferInstance)
 | .gtr=>some ([],.prop (b<a) inferInstance)
 | .geq=>some ([],.prop (b<=a) inferInstance)
 |_=>none
def Vy{raw:Bool}{op:BinOp}{k:IntKind}{a b:Int}{ps:List Prop}{r:SV}(h:GR raw op k a b=some (ps,r))(hp:∀p∈ps,p){K:AV->Prop}(hK:K r.av):uq op k a b K:=by
 unfold GR at h;split at h<;>simp only[fc,tW,reduceCtorEq]at h
 .have e:=uY (raw:=raw) (k:=k) (x:=a+b) (by grind);unfold uq;grind
 .have e:=uY (raw:=raw) (k:=k) (x:=a-b) (by grind);unfold uq;grind
 .have e:=uY (raw:=raw) (k:=k) (x:=a*b) (by grind);unfold uq;grind
 .obtain⟨rfl,rfl⟩:=h;have e:=uY (raw:=raw) (k:=k) (x:=a.tdiv b) (by grind);exact⟨hp _ (by grind),by grind⟩
 .obtain⟨rfl,rfl⟩:=h;exact⟨hp _ (by grind),hK⟩
 .obtain⟨rfl,rfl⟩:=h;exact hK
 .obtain⟨rfl,rfl⟩:=h;show K (.p (.bool (a !=b)));have:(a !=b)=decide (¬a=b):=by by_cases e:a=b<;>simp[e]
  rw[this];exact hK
 .obtain⟨rfl,rfl⟩:=h;exact hK
 .obtain⟨rfl,rfl⟩:=h;exact hK
 .obtain⟨rfl,rfl⟩:=h;exact hK
 .obtain⟨rfl,rfl⟩:=h;exact hK
def u5:List SV->Option (List Int)
 |[] =>some []
 | .int .i64 a::l=>(match u5 l with|some m=>some (a::m)|none=>none)
 |_::_=>none
def E6:∀{l:List SV} {m:List Int},u5 l=some m->avs l=(ky m).map .p
 |[],m,h=>by simp only[u5,fc]at h;subst h;rfl
 |x::l,m,h=>by
  unfold u5 at h;split at h
  .grind
  .rename_i a l' e;cases e;split at h<;>cases h;rename_i m' hm;rw[avs,E6 hm];rfl
  .cases h
def wO:∀m:List Int,oT (ky m)=some m
 |[] =>rfl
 |x::m=>by
  have:=wO m;unfold ky at*;simp only[dB,oT,this,eO]
def eqP(xs ys:List Int):SV:=match xs,ys with
 |[a,b],[c,d] => .prop ((⟨a,b⟩:V)=⟨c,d⟩) inferInstance
 |[a,b,c,d],[e,f,g,h] => .prop ((⟨⟨a,b⟩,⟨c,d⟩⟩:S)=⟨⟨e,f⟩,⟨g,h⟩⟩) inferInstance
 |xs,ys=> .prop (xs=ys) inferInstance
def O7(xs ys:List Int):(eqP xs ys).av= .p (.bool (xs==ys)):=by
 unfold eqP;split
 .show AV.p (.bool (decide _))=_
  congr 2
  grind
 .show AV.p (.bool (decide _))=_
  congr 2
  grind
 .show AV.p (.bool (decide _))=_;grind
def CG:SV->Option SV
 | .prop p d=>some (.prop (¬p) (@instDecidableNot p d))
 | .bool b=>some (.bool (!b))
 | .lit true=>some (.lit false)
 | .lit false=>some (.lit true)
 |_=>none
def Nr{x r:SV}(h:CG x=some r):∃b,x.av= .p (.bool b)/\r.av= .p (.bool (!b)):=by
 cases x<;>simp only[CG,reduceCtorEq,fc]at h
 .subst h;exact⟨_,rfl,rfl⟩
 .rename_i b;cases b<;>simp only[fc]at h<;>subst h<;>exact⟨_,rfl,rfl⟩
 .subst h;refine⟨_,rfl,?_⟩;show AV.p (.bool (decide _))=_;grind
abbrev EqT:=List (TypeId×Nat)
def EqT.Ok(P:Program)(q:EqT):Prop:=∀t m,(t,m)∈q->x6 P t m
def EqT.has:EqT->TypeId->Nat->Bool
 |[],_,_=>false
 |(a,b)::l,t,m=>(bH a t&&bH b m)||EqT.has l t m
def EqT.Fs:∀{q:EqT} {t m:Nat},q.has t m=true->(t,m)∈q
 |[],t,m,h=>by cases h
 |(a,b)::l,t,m,h=>by
  simp only[EqT.has,Bool.or_eq_true,bw]at h;rcases h with⟨h1,h2⟩|h
  .simp_all
  .exact cE _ (EqT.Fs h)
def HZ(P:Program)(q:EqT)(raw:Bool)(op:BinOp)(t:TypeId)(x y:SV):Option (List Prop×SV):=match x,y with
 | .int k a,.int k' b=>(match decEq k' k with| .isTrue _=>GR raw op k a b| .isFalse _=>none)
 | .agg l,.agg m=>(match u5 l,u5 m with
   |some xs,some ys=>(match bH xs.length ys.length,q.has t xs.length,op with
    |true,true,.eql=>some ([],eqP xs ys)
    |true,true,.neq=>(match CG (eqP xs ys)with|some r=>some ([],r)|none=>none)
    |_,_,_=>none)
   |_,_=>none)
 | .lst _ l,.nil=>(match(dD P t).isSome,op with
   |true,.eql=>some ([0<l.length],.lit false)
   |_,_=>none)
 |x,y=>(match yK x,yK y,Gn P t,op with
  |some a,some b,true,.eql=>some ([],.bool (a==b))
  |some a,some b,true,.neq=>some ([],.bool (a !=b))
  |_,_,_,_=>none)
def ZG{P:Program}{q:EqT}(hq:q.Ok P){raw:Bool}{op:BinOp}{t:TypeId}{x y:SV}{ps:List Prop}{r:SV}(h:HZ P q raw op t x y=some (ps,r))(hp:∀p∈ps,p){K:AV->Prop}(hK:K r.av):vO P op t x.av y.av K:=by
 unfold HZ at h;split at h
 .split at h
  .rename_i e _;exact⟨e,Vy h hp hK⟩
  .cases h
 .rename_i l m;split at h
  .rename_i xs ys hx hy;have key:∀(op:BinOp),(∃xs' ys',oT (ky xs)=some xs'/\oT (ky ys)=some ys'/\xs'.length=ys'.length/\x6 P t xs'.length/\(match op with| .eql=>K (.p (.bool (xs'==ys')))| .neq=>K (.p (.bool (xs' !=ys')))|_=>False))->vO P op t (SV.agg l).av (SV.agg m).av K:=by intro op h;show vO P op t (eR (avs l)) (eR (avs m)) K;rw[E6 hx,E6 hy,ry,ry];exact h
   split at h
   .rename_i h1 h2;cases h;refine key _ ⟨xs,ys,wO _,wO _,dI h1,hq _ _ (EqT.Fs h2),?_⟩;rw[O7]at hK;exact hK
   .rename_i h1 h2;split at h<;>cases h;rename_i hr;obtain⟨b,e1,e2⟩:=Nr hr;rw[O7]at e1;refine key _ ⟨xs,ys,wO _,wO _,dI h1,hq _ _ (EqT.Fs h2),?_⟩;grind
   .cases h
  .cases h
 .rename_i t' l;split at h<;>cases h;rename_i ht;have hl:0<l.length:=hp _ (by grind);refine⟨ht,λe=> ?_,rfl,hK⟩;have e2:=congrArg dA e;rw[t'.wide.length,List.length_nil]at e2;have:=Nat.mul_pos hl t'.kU;omega
 .split at h
  .rename_i a b h1 h2 h3;cases h;rw[xJ h1,xJ h2];exact⟨h3,hK⟩
  .rename_i a b h1 h2 h3;cases h;rw[xJ h1,xJ h2];exact⟨h3,hK⟩
  .cases h
def sun(raw:Bool)(op:UnOp)(x:SV):Option (List Prop×SV):=match op with
 | .not=>(match CG x with|some r=>some ([],r)|none=>none)
 | .neg=>(match x with| .int k a=>some (om raw k (0-a))|_=>none)
 |_=>none
def aAr{raw:Bool}{op:UnOp}{x:SV}{ps:List Prop}{r:SV}(h:sun raw op x=some (ps,r))(hp:∀p∈ps,p){K:AV->Prop}(hK:K r.av):unA op x.av K:=by
 unfold sun at h;split at h
 .split at h<;>cases h;rename_i hr;obtain⟨b,e1,e2⟩:=Nr hr;rw[e1];rw[e2]at hK;exact hK
 .split at h
  .rename_i k a;simp only[fc]at h;have e:=uY (raw:=raw) (k:=k) (x:=0-a) (by grind);show K _;grind
  .cases h
 .cases h
def G0(P:Program)(raw:Bool)(s d:TypeId)(x:SV):Option (List Prop×SV):=match x with
 | .int _ a=>(match(P.underlying s).isSome,HR P d with
   |true,some k=>some (om raw k a)
   |_,_=>none)
 |_=>none
def Xe{P:Program}{raw:Bool}{s d:TypeId}{x:SV}{ps:List Prop}{r:SV}(h:G0 P raw s d x=some (ps,r))(hp:∀p∈ps,p){K:AV->Prop}(hK:K r.av):Bx P s d x.av K:=by
 unfold G0 at h;split at h
 .rename_i k0 a;split at h
  .rename_i k h1 h2;simp only[fc]at h;have e:=uY (raw:=raw) (k:=k) (x:=a) (by grind);exact⟨h1,k,h2,by grind⟩
  .cases h
 .cases h
def He:SV->Option Int
 | .int _ n=>some n
 |_=>none
def Zo{x:SV}{n:Int}(h:He x=some n):CL x.av=some n:=by cases x<;>simp only[He,reduceCtorEq,fc]at h;subst h;rfl
def CN(E:SE):Option Operand->Option (Option Int)
 |none=>some none
 |some x=>(match He (E x)with|some n=>some (some n)|none=>none)
def GM(P:Program)(t:TypeId)(x:SV)(lo hi:Option Int):Option (List Prop×SV):=match dD P t with
 |some e=>(match(P.info? e).isSome,bH (af P e) 0 with
  |true,false=>(match x,lo,hi with
   | .lst lt l,lo,hi=>(match bH (af P e) lt.w with
     |true=>(match lo,hi with
      |none,none=>some ([],.lst lt l)
      |some a,none=>some ([0<=a/\a<=(l.length:Int)],.lst lt (l.drop a.toNat))
      |none,some b=>some ([0<=b/\b<=(l.length:Int)],.lst lt (l.take b.toNat))
      |some a,some b=>some ([0<=a/\a<=b/\b<=(l.length:Int)],.lst lt ((l.take b.toNat).drop a.toNat)))
     |false=>none)
   | .own s lt n,lo,hi=>(match bH (af P e) lt.w with
     |true=>(match lo,hi with
      |none,none=>some ([],.own s lt n)
      |none,some b=>some ([0<=b/\b<=(n:Int)],.owns s lt 0 b.toNat)
      |some a,none=>some ([0<=a/\a<=(n:Int)],.owns s lt a.toNat (n-a.toNat))
      |some a,some b=>some ([0<=a/\a<=b/\b<=(n:Int)],.owns s lt a.toNat (b.toNat-a.toNat)))
     |false=>none)
   | .owns s lt o n,lo,hi=>(match bH (af P e) lt.w with
     |true=>(match lo,hi with
      |none,none=>some ([],.owns s lt o n)
      |none,some b=>some ([0<=b/\b<=(n:Int)],.owns s lt o b.toNat)
      |some a,none=>some ([0<=a/\a<=(n:Int)],.owns s lt (o+a.toNat) (n-a.toNat))
      |some a,some b=>some ([0<=a/\a<=b/\b<=(n:Int)],.owns s lt (o+a.toNat) (b.toNat-a.toNat)))
     |false=>none)
   | .ownx s n,none,none=>some ([],.ownx s n)
   |_,_,_=>none)
  |_,_=>none)
 |none=>none
def Vl{P:Program}{t:TypeId}{x:SV}{lo hi:Option Int}{ps:List Prop}{r:SV}(h:GM P t x lo hi=some (ps,r))(hp:∀p∈ps,p){K:AV->Prop}(hK:K r.av):
  ug P t x.av (some (lo.getD 0)) (some (hi.getD (BV x.av))) K:=by
 unfold GM at h;split at h
 case h_2=>cases h
 rename_i e he;split at h
 case h_2=>cases h
 rename_i h1 h2;have h2':af P e≠0:=l8 h2;split at h
 .rename_i lt l;split at h
  case h_2=>cases h
  rename_i hw;have hw:=dI hw;have key:∀a b:Int,0<=a->a<=b->b<=l.length->K (.p (.sl ((l.take b.toNat).drop a.toNat).length (lt.enc ((l.take b.toNat).drop a.toNat))))->ug P t (SV.lst lt l).av (some a) (some b) K:=by
   intro a b ha hb hc hK;refine⟨e,a,b,he,h1,h2',rfl,rfl,ha,hb,hc,?_⟩;rw[hw,lt.wide.take,lt.wide.drop];have:((l.take b.toNat).drop a.toNat).length=b.toNat-a.toNat:=by simp only[List.length_drop,l6];omega
   rw[<-this];exact hK
  split at h<;>cases h
  .refine key 0 (l.length:Int) (by omega) (by omega) (by omega) ?_;rw[iF,ke];exact hK
  .rename_i a;have hb:=hp _ (bi.2 rfl);refine key a (l.length:Int) hb.1 hb.2 (by omega) ?_;rw[iF,ke];exact hK
  .rename_i b;have hb:=hp _ (bi.2 rfl);exact key 0 b (by omega) hb.1 hb.2 hK
  .rename_i a b;have hb:=hp _ (bi.2 rfl);exact key a b hb.1 hb.2.1 hb.2.2 hK
 .rename_i s lt n;split at h
  case h_2=>cases h
  rename_i hw;have hw:=dI hw;have key:∀a b:Int,0<=a->a<=b->b<=n->K (.own (aR s) (a.toNat*lt.w) (b.toNat-a.toNat))->ug P t (SV.own s lt n).av (some a) (some b) K:=by intro a b ha hb hc hK;refine⟨e,a,b,he,h1,h2',rfl,rfl,ha,hb,hc,?_⟩;rw[hw,jy];exact hK
  split at h<;>cases h
  .refine key 0 (n:Int) (by omega) (by omega) (by omega) ?_;simpa[SV.av]using hK
  .rename_i b;have hb:=hp _ (bi.2 rfl);refine key 0 b (by omega) hb.1 hb.2 ?_;simpa[SV.av]using hK
  .rename_i a;have hb:=hp _ (bi.2 rfl);exact key a (n:Int) hb.1 hb.2 (by omega) (by simpa[SV.av]using hK)
  .rename_i a b;have hb:=hp _ (bi.2 rfl);exact key a b hb.1 hb.2.1 hb.2.2 hK
 .rename_i s lt o n;split at h
  case h_2=>cases h
  rename_i hw;have hw:=dI hw;have key:∀a b:Int,0<=a->a<=b->b<=n->K (.own (aR s) ((o+a.toNat)*lt.w) (b.toNat-a.toNat))->ug P t (SV.owns s lt o n).av (some a) (some b) K:=by intro a b ha hb hc hK;refine⟨e,a,b,he,h1,h2',rfl,rfl,ha,hb,hc,?_⟩;rw[hw,<-yn];exact hK
  split at h<;>cases h
  .refine key 0 (n:Int) (by omega) (by omega) (by omega) ?_;simpa[SV.av]using hK
  .rename_i b;have hb:=hp _ (bi.2 rfl);refine key 0 b (by omega) hb.1 hb.2 ?_;simpa[SV.av]using hK
  .rename_i a;have hb:=hp _ (bi.2 rfl);exact key a (n:Int) hb.1 hb.2 (by omega) (by simpa[SV.av]using hK)
  .rename_i a b;have hb:=hp _ (bi.2 rfl);exact key a b hb.1 hb.2.1 hb.2.2 hK
 .rename_i s n;cases h;refine⟨e,0,(n:Int),he,h1,h2',rfl,rfl,jH _,by grind,jH _,?_⟩;simpa[SV.av]using hK
 .cases h
def HY(P:Program)(t:TypeId)(x:SV):Option SV:=match x with
 | .lst _ l=>(match(dD P t).isSome with|true=>some (.int .i64 (l.length:Int))|false=>none)
 | .own _ _ n=>(match(dD P t).isSome with|true=>some (.int .i64 (n:Int))|false=>none)
 | .owns _ _ _ n=>(match(dD P t).isSome with|true=>some (.int .i64 (n:Int))|false=>none)
 | .ownx _ n=>(match(dD P t).isSome with|true=>some (.int .i64 (n:Int))|false=>none)
 | .owF _ n=>(match(dD P t).isSome with|true=>some (.int .i64 (n:Int))|false=>none)
 | .ownf _ _ _ n=>(match(dD P t).isSome with|true=>some (.int .i64 (n:Int))|false=>none)
 | .sl n cs=>(match(dD P t).isSome,bM (avs cs)with|true,some _=>some (.int .i64 (n:Int))|_,_=>none)
 | .nil=>(match(dD P t).isSome with|true=>some (.int .i64 0)|false=>none)
 |_=>none
def ZC{P:Program}{t:TypeId}{x r:SV}(h:HY P t x=some r){K:AV->Prop}(hK:K r.av):CK P t x.av K:=by
 unfold HY at h;split at h
 .split at h<;>cases h;rename_i h1;exact⟨h1,hK⟩
 .split at h<;>cases h;rename_i h1;exact⟨h1,hK⟩
 .split at h<;>cases h;rename_i h1;exact⟨h1,hK⟩
 .split at h<;>cases h;rename_i h1;exact⟨h1,hK⟩
 .split at h<;>cases h;rename_i h1;exact⟨h1,hK⟩
 .split at h<;>cases h;rename_i h1;exact⟨h1,hK⟩
 .split at h<;>cases h;rename_i q h1 h2;simp only[SV.av,h2];exact⟨h1,hK⟩
 .split at h<;>cases h;rename_i h1;exact⟨h1,hK⟩
 .cases h
def yH(σ:Sg)(e:TypeId)(lt:LT)(x:SV):Option (List Prop×List lt.ty×List Nat):=match x with
 | .nil=>some ([],[],[])
 | .own s _ k=>(match σ s with
   |some (.row ty lt' l)=>(match decEq lt' lt,bH ty e with
    | .isTrue h,true=>some ([k=l.length],h▸l,[s])
    |_,_=>none)
   |_=>none)
 | .ownx s k=>(match σ s with
   |some (.arr ty ez cs)=>(match bH ty e,bH ez lt.w,lt.decs k cs with
    |true,true,some l=>some ([],l,[s])
    |_,_,_=>none)
   |_=>none)
 |_=>none
def Bi(σ:Sg)(lt:LT)(x:SV):Option (List Prop×List lt.ty×List Nat):=match x with
 | .nil=>some ([],[],[])
 | .lst lt' l=>(match decEq lt' lt with
   | .isTrue h=>some ([],h▸l,[])
   | .isFalse _=>none)
 | .own s _ k=>(match σ s with
   |some (.row _ lt' l)=>(match decEq lt' lt with
    | .isTrue h=>some ([k=l.length],h▸l,[s])
    | .isFalse _=>none)
   |_=>none)
 | .owns s lt2 o k=>(match σ s with
   |some (.row _ lt' l)=>(match decEq lt' lt,decEq lt2 lt with
    | .isTrue h,.isTrue _=>some ([o+k<=l.length],(h▸l:List lt.ty).drop o|>.take k,[s])
    |_,_=>none)
   |_=>none)
 | .ownx s k=>(match σ s with
   |some (.arr _ ez cs)=>(match bH ez lt.w,lt.decs k cs with
    |true,some l=>some ([],l,[s])
    |_,_=>none)
   |_=>none)
 |_=>none
def Bn(P:Program)(ltOf:TypeId->Option LT)(n:Nat)(t t':TypeId)(σ:Sg)(x y:SV):SR:=match dD P t,(dD P t').isSome with
 |some e,true=>(match ltOf e,B6 P e,frs σ n with
  |some lt,true,true=>(match bH (af P e) lt.w,yH σ e lt x,Bi σ lt y with
   |true,some (p1,l,r1),some (p2,m,r2)=>some (p1++p2++[l.length+m.length<=1000000],.own n lt (l++m).length,r1++r2,r1.map (·,none)++[(n,some (.row e lt (l++m)))])
   |_,_,_=>none)
  |_,_,_=>none)
 |_,_=>none
def YR{σ:Sg}{e:TypeId}{lt:LT}{x:SV}{ps:List Prop}{l:List lt.ty}{r:List Nat}(h:yH σ e lt x=some (ps,l,r))(hp:∀p∈ps,p){K:Nat->List AV->List Nat->Prop}(hK:K l.length ((lt.enc l).map .p) (r.map aR)):HD σ.a e lt.w x.av K:=by
 unfold yH at h;split at h
 .cases h;exact hK
 .rename_i s _ k;split at h
  .rename_i ty lt' l' hs;split at h
   .rename_i he _ hty;subst he;cases h;have hk:k=l'.length:=hp _ (by grind);refine⟨_,by rw[Sg.cM,hs];rfl,dI hty,rfl,?_,by rw[hk];exact hK⟩;show((lt'.enc l').map AV.p).length=_;rw[da,lt'.wide.length,hk]
   .cases h
  .cases h
 .rename_i s k;split at h
  .rename_i ty ez cs hs;split at h<;>cases h;rename_i h1 h2 h3;obtain⟨e1,e2⟩:=LT.ud h3;have h2:=dI h2;refine⟨_,by rw[Sg.cM,hs];rfl,dI h1,h2,?_,?_⟩
   .show(avs cs).length=_;rw[e2,da,lt.wide.length,e1]
   .show K k (avs cs) [aR s];grind
  .cases h
 .cases h
def LS{σ:Sg}{lt:LT}{x:SV}{ps:List Prop}{l:List lt.ty}{r:List Nat}(h:Bi σ lt x=some (ps,l,r))(hp:∀p∈ps,p){K:Nat->List AV->List Nat->Prop}(hK:K l.length ((lt.enc l).map .p) (r.map aR)):Bj σ.a lt.w x.av K:=by
 unfold Bi at h;split at h
 .cases h;exact hK
 .rename_i lt' l';split at h
  .rename_i he _;subst he;cases h;exact⟨lt'.wide.length _,hK⟩
  .cases h
 .rename_i s _ k;split at h
  .rename_i ty lt' l' hs;split at h
   .rename_i he _;subst he;cases h;have hk:k=l'.length:=hp _ (by grind);refine⟨_,(lt'.enc l').map .p,by rw[Sg.cM,hs];rfl,?_,?_,by grind⟩
    .show(((lt'.enc l').map AV.p).drop 0).take (k*lt'.w)=_;rw[Cs,fT (by rw[da,lt'.wide.length,hk];omega)]
    .rw[da,lt'.wide.length,hk]
   .cases h
  .cases h
 .rename_i s lt2 o k;split at h
  .rename_i ty lt' l' hs;split at h
   .rename_i he he2 _ _;subst he;subst he2;cases h;have hk:o+k<=l'.length:=hp _ (by grind);have hlen:((l'.drop o).take k).length=k:=by simp;omega
    refine⟨_,(lt2.enc ((l'.drop o).take k)).map .p,by rw[Sg.cM,hs];rfl,?_,?_,by grind⟩
    .show(((lt2.enc l').map AV.p).drop (o*lt2.w)).take (k*lt2.w)=_;rw[<-Cq,<-Cr,lt2.wide.drop,lt2.wide.take]
    .rw[da,lt2.wide.length,hlen]
   .cases h
  .cases h
 .rename_i s k;split at h
  .rename_i ty ez cs hs;split at h<;>cases h;rename_i h1 h3;obtain⟨e1,e2⟩:=LT.ud h3;have hl:(avs cs).length=k*lt.w:=by rw[e2,da,lt.wide.length,e1]
   refine⟨_,avs cs,by rw[Sg.cM,hs];rfl,?_,hl,by grind⟩;show((avs cs).drop 0).take (k*lt.w)=_;grind
  .cases h
 .cases h
def VD{σ:Sg}{e:TypeId}{lt:LT}{x:SV}{ps:List Prop}{l:List lt.ty}{r:List Nat}(h:yH σ e lt x=some (ps,l,r)):∀s∈r,qD (σ s)=true:=by
 unfold yH at h;split at h
 .grind
 .split at h
  .rename_i hs;split at h
   .cases h;exact λs' hs'=>by rw[bi.1 hs',hs];rfl
   .cases h
  .cases h
 .split at h
  .rename_i hs;split at h<;>cases h;exact λs' hs'=>by rw[bi.1 hs',hs];rfl
  .cases h
 .cases h
def Xh{P:Program}{ltOf:TypeId->Option LT}{n:Nat}{t t':TypeId}{σ:Sg}{x y:SV}{ps:List Prop}{r:SV}{rd:List Nat}{W:aU}(h:Bn P ltOf n t t' σ x y=some (ps,r,rd,W))(hp:∀p∈ps,p):
  (dD P t').isSome=true/\yV P n t σ.a x.av y.av λr' R' W'=>r'=r.av/\bY σ rd W R' W':=by
 unfold Bn at h;split at h
 case h_2=>cases h
 rename_i e he ht';split at h
 case h_2=>cases h
 rename_i lt hlt htapp hf;split at h
 case h_2=>cases h
 rename_i p1 l r1 p2 m r2 hw h1 h2;cases h;refine⟨ht',e,he,htapp,?_⟩;rw[dI hw];obtain⟨f1,f2⟩:=mL hf;have hfl:=VD h1;refine YR h1 (λp hpp=>hp p (by simp[hpp])) (LS h2 (λp hpp=>hp p (by simp[hpp])) ⟨hp _ (by simp),?_,?_⟩)
 .show _=AV.own (aR n) 0 _;grind
 .have e1:(r1.map aR).map (·,(none:Option Ob))++[(sit n 0,some (⟨e,lt.w,(lt.enc l).map AV.p++(lt.enc m).map AV.p⟩:Ob))] =aU.sto (r1.map (·,none)++[(n,some (.row e lt (l++m)))]):=by unfold aU.sto;rw[dM,dq,dq,<-f1];show _++_=_++[(aR n,some (⟨e,lt.w,(lt.enc (l++m)).map AV.p⟩:Ob))];rw[lt.wide.append,dM];rfl
  rw[e1,<-dM];refine bY.flat λq hq=> ?_;rcases bg.1 hq with hq|hq
  .obtain⟨s,hs,rfl⟩:=bZ.1 hq;exact⟨hfl s hs,rfl⟩
  .rw[bi.1 hq,f2];exact⟨rfl,rfl⟩
def bY.take{σ:Sg}{z n a k:Nat}{ty ity:TypeId}{lt:LT}{L:List (List lt.ty)}{ov:List (Nat×SV)}{ob:SOb}{rd R:List Nat}(hs:σ z=some (.fam ty ity lt L ov))(ho:ov.lookup a=none)(hk:k=(L.getD a []).length)(hn:σ n=none)(hf:ob.flat=true)(hR:inC R (rd.map ncl)):
  bY σ rd [(z,some (.fam ty ity lt L ((a,.ownf z lt a k)::ov))),(n,some ob)] R [(inn z (a+1),none),(aR n,some (ob.ob n))] :=by
 have hzn:z≠n:=λe=>by grind
 refine⟨hR,λs hm=> ?_,?_⟩
 .have hm:s=inn z (a+1)\/s=aR n:=by simpa using hm
  rcases hm with rfl|rfl
  .rw[fO];grind
  .rw[show cls (aR n)=ncl n from fO n 0];grind
 .funext s
  unfold bC;rcases kP s with⟨y,rfl⟩|⟨y,b,rfl⟩|hno
  .rw[Sg.cM,Sg.cM,dV,beq_eq_false_iff_ne.2 (show aR y≠inn z (a+1)from λh=>by have:=(fL h).2;omega)];unfold aU.up;rw[dV,dV,dV];by_cases e:y=z
   .subst e;rw[beq_iff_eq.2 rfl,beq_eq_false_iff_ne.2 (show aR y≠aR n from λh=>hzn (lM h)),hs];show some (⟨ty,1,_⟩:Ob)=some ⟨ty,1,_⟩
    congr 2
    refine nZ λi hi=> ?_;unfold i5;rw[dV];by_cases hi:i=a
    .subst hi;rw[beq_iff_eq.2 rfl,ho,hk];rfl
    grind
   .rw[beq_eq_false_iff_ne.2 e];by_cases e2:y=n
    .grind
    .rw[beq_eq_false_iff_ne.2 e2,beq_eq_false_iff_ne.2 (show aR y≠aR n from λh=>e2 (lM h))];rfl
  .rw[Sg.fW,Sg.fW,dV,dV,beq_eq_false_iff_ne.2 (show inn y (b+1)≠aR n from λh=>by have:=(fL h).2;omega)];unfold aU.up;rw[dV,dV];by_cases e:y=z
   .subst e;rw[beq_iff_eq.2 rfl,hs];by_cases hb:b=a
    .subst hb;rw[beq_iff_eq.2 rfl];unfold SOb.inner;grind
    .rw[beq_eq_false_iff_ne.2 (show inn y (b+1)≠inn y (a+1)from λh=>hb (by have:=(fL h).2;omega))];unfold SOb.inner;grind
   .rw[beq_eq_false_iff_ne.2 e,beq_eq_false_iff_ne.2 (show inn y (b+1)≠inn z (a+1)from λh=>e (fL h).1)];by_cases e2:y=n
    .subst e2;rw[beq_iff_eq.2 rfl,hn];show none=SOb.inner b ob;rw[SOb.zY hf]
    grind
  .rw[Sg.js _ hno,Sg.js _ hno,dV,dV,beq_eq_false_iff_ne.2 (hno z (a+1)),beq_eq_false_iff_ne.2 (show s≠aR n from λh=>hno n 0 h)];rfl
def Bm(P:Program)(n:Nat)(t t':TypeId)(σ:Sg)(z:Nat)(lt2:LT)(a k:Nat)(y:SV):SR:=match dD P t,(dD P t').isSome,σ z with
 |some e,true,some (.fam ty ity lt L ov)=>(match decEq lt2 lt,B6 P e,frs σ n,bH ity e,bH (af P e) lt.w,Bi σ lt y with
  | .isTrue _,true,true,true,true,some (p2,m,r2)=>some ((a<L.length)::(k=(L.getD a []).length)::(mV ov a++p2++[(L.getD a []).length+m.length<=1000000]),.own n lt (L.getD a [] ++m).length,z::r2,[(z,some (.fam ty ity lt L ((a,.ownf z lt a k)::ov))),(n,some (.row e lt (L.getD a [] ++m)))])
  |_,_,_,_,_,_=>none)
 |_,_,_=>none
def Xg{P:Program}{n:Nat}{t t':TypeId}{σ:Sg}{z:Nat}{lt2:LT}{a k:Nat}{y:SV}{ps:List Prop}{r:SV}{rd:List Nat}{W:aU}(h:Bm P n t t' σ z lt2 a k y=some (ps,r,rd,W))(hp:∀p∈ps,p):
  (dD P t').isSome=true/\yV P n t σ.a (SV.ownf z lt2 a k).av y.av λr' R' W'=>r'=r.av/\bY σ rd W R' W':=by
 unfold Bm at h;split at h
 case h_2=>cases h
 rename_i e ty ity lt L ov he ht' hs;split at h
 case h_2=>cases h
 rename_i hlt p2 m r2 _ htapp hf hi hw h2;subst hlt;cases h;have ha:a<L.length:=hp _ (by grind);have hk:k=(L.getD a []).length:=hp _ (by grind);have ho:ov.lookup a=none:=sH λp hq=>hp p (by simp[hq]);refine⟨ht',e,he,htapp,?_⟩;rw[dI hw];obtain⟨f1,f2⟩:=mL hf;refine⟨_,EH hs ha ho,dI hi,rfl,?_,?_⟩
 .rw[da,lt2.wide.length,hk]
 .subst hk;refine LS h2 (λp hpp=>hp p (by simp[hpp])) ⟨hp _ (by simp),?_,?_⟩
  .show _=AV.own (aR n) 0 _;grind
  .rw[<-f1];have e1:(⟨e,lt2.w,(lt2.enc (L.getD a [])).map AV.p++(lt2.enc m).map AV.p⟩:Ob)=SOb.ob n (.row e lt2 (L.getD a [] ++m)):=by show _=(⟨e,lt2.w,(lt2.enc (L.getD a [] ++m)).map AV.p⟩:Ob);rw[lt2.wide.append,dM]
   rw[e1];refine bY.take hs ho rfl f2 rfl λs hm=> ?_;rcases bT.1 hm with rfl|hm
   .rw[fO];grind
   .exact cE _ ((bY.read σ r2).1 s hm)
def CC(P:Program)(ltOf:TypeId->Option LT)(n:Nat)(t t':TypeId)(σ:Sg)(x y:SV):SR:=match x with
 | .ownf z lt a k=>Bm P n t t' σ z lt a k y
 |_=>Bn P ltOf n t t' σ x y
def ZH{P:Program}{ltOf:TypeId->Option LT}{n:Nat}{t t':TypeId}{σ:Sg}{x y:SV}{ps:List Prop}{r:SV}{rd:List Nat}{W:aU}(h:CC P ltOf n t t' σ x y=some (ps,r,rd,W))(hp:∀p∈ps,p):
  (dD P t').isSome=true/\yV P n t σ.a x.av y.av λr' R' W'=>r'=r.av/\bY σ rd W R' W':=by
 unfold CC at h;split at h
 .exact Xg h hp
 .exact Xh h hp
def smm(f:Int->Int->Int)(x y:SV):Option SV:=match x,y with
 | .int .i64 a,.int .i64 b=>some (.int .i64 (f a b))
 |_,_=>none
def Of{f:Int->Int->Int}{x y r:SV}(h:smm f x y=some r){K:AV->Prop}(hK:K r.av):mmA f x.av y.av K:=by unfold smm at h;split at h<;>cases h;exact hK
end
noncomputable section
def kE(f:SV->Option (List Prop×SV)):List SV->Option (List Prop×List SV)
 |[] =>some ([],[])
 |x::l=>match f x,kE f l with
  |some (p,y),some (q,m)=>some (p++q,y::m)
  |_,_=>none
def Bk(d:Nat)(σ:Sg)(x n:Nat):Option (List Prop×SV):=match d,σ x with
 |_+1,some (.fam _ _ .I L [])=>some ([n=L.length],.lst .Q L)
 |_+1,some (.fam _ _ .V L [])=>some ([n=L.length],.lst .R L)
 |_,_=>none
def kW:Nat->Sg->SV->Option (List Prop×SV)
 |_,_,.nil=>some ([],.sl 0 [])
 |_+1,σ,.own s _ n=>(match σ s with
  |some (.row _ lt l)=>some ([n=l.length],.lst lt l)
  |_=>none)
 |_+1,σ,.owns s lt2 o n=>(match σ s with
  |some (.row _ lt l)=>(match bH lt2.w lt.w with|true=>some ([o+n<=l.length],.lst lt ((l.drop o).take n))|false=>none)
  |_=>none)
 |d+1,σ,.ownx s n=>(match σ s with
  |some (.arr _ ez cs)=>(match bH cs.length (n*ez),kE (kW d σ) cs with|true,some (ps,m)=>some (ps,.sl n m)|_,_=>none)
  |_=>none)
 |d+1,σ,.ptr s off=>(match σ s with
  |some (.box _ cs)=>(match kE (kW d σ) cs with|some (ps,m)=>some (ps,.pro m off)|none=>none)
  |_=>none)
 |_+1,σ,.ownf x _ a n=>(match σ x with
  |some (.fam _ _ lt L ov)=>some ((a<L.length)::(n=(L.getD a []).length)::mV ov a,.lst lt (L.getD a []))
  |_=>none)
 |d+1,σ,.owF x n=>Bk d σ x n
 |d+1,σ,.agg l=>(match kE (kW d σ) l with|some (ps,m)=>some (ps,.agg m)|none=>none)
 |d+1,σ,.fn f a b=>(match kE (kW d σ) a,kE (kW d σ) b with|some (p,x),some (q,y)=>some (p++q,.fnp f x y)|_,_=>none)
 |_,_,x=>(match x.av with| .p _=>some ([],x)|_=>none)
def xS{d:Nat}{σ:Sg}{f:SV->Option (List Prop×SV)}(hf:∀x ps y,f x=some (ps,y)->(∀p∈ps,p)->∃q,dH d σ.a x.av=some q/\y.av= .p q):
  ∀{l:List SV} {ps:List Prop} {m:List SV},kE f l=some (ps,m)->(∀p∈ps,p)->∃q,dj (dH d σ.a) (avs l)=some q/\avs m=q.map .p
 |[],ps,m,h,_=>by obtain⟨rfl,rfl⟩:=h;exact⟨[],rfl,rfl⟩
 |x::l,ps,m,h,hp=>by
  unfold kE at h;split at h
  .rename_i p y q m' h1 h2;cases h;obtain⟨u,e1,e2⟩:=hf x p y h1 (λr hr=>hp r (by grind));obtain⟨v,e3,e4⟩:=xS hf h2 (λr hr=>hp r (by grind));refine⟨u::v,?_,by rw[avs,e2,e4];rfl⟩;rw[avs,dj,e1,e3]
  .cases h
def JN{d:Nat}{σ:Sg}{x:SV}{ps:List Prop}{y:SV}(h:(match x.av with| .p _=>some (([] :List Prop),x)|_=>none)=some (ps,y)):∃q,dH d σ.a x.av=some q/\y.av= .p q:=by split at h<;>cases h;rename_i q hq;exact⟨q,by rw[hq,GN],hq⟩
def JO{σ:Sg}{x a n d:Nat}{ty ity:TypeId}{lt:LT}{L:List (List lt.ty)}{ov:List (Nat×SV)}(hs:σ x=some (.fam ty ity lt L ov))(ha:a<L.length)(hn:n=(L.getD a []).length)(ho:ov.lookup a=none):
  dH (d+1) σ.a (.own (inn x (a+1)) 0 n)=some (.sl (L.getD a []).length (lt.enc (L.getD a []))):=by
 unfold dH;rw[EH hs ha ho];simp only[qP,si,eO,Cs];rw[fT (by rw[lt.wide.length,hn];omega),hn]
def L4{d:Nat}{g:Nat->Option Ob}{f:Nat->AV}{h:Nat->PV}:∀(l:List Nat),(∀i∈l,dH d g (f i)=some (h i))->dj (dH d g) (l.map f)=some (l.map h)
 |[],_=>rfl
 |i::l,H=>by
  rw[dB,dj,H i (by grind),L4 l λj hj=>H j (cE _ hj)];rfl
def EM{α β:Type}(f:α->β):∀l:List α,(l.flatMap λr=>[f r])=l.map f
 |[] =>rfl
 |a::l=>by rw[fM,dB,EM f l];rfl
def LV{σ:Sg}{x n d:Nat}{ty ity:TypeId}{lt:LT}{L:List (List lt.ty)}(hs:σ x=some (.fam ty ity lt L []))(hn:n=L.length):
  dH (d+2) σ.a (.own (aR x) 0 n)=some (.sl n (L.flatMap λr=>[PV.sl r.length (lt.enc r)])):=by
 have e1:Sg.a σ (aR x)=some ⟨ty,1,(bQ L.length).map (i5 x L [])⟩:=by rw[Sg.cM,hs];rfl
 have e2:dj (dH (d+1) σ.a) ((bQ L.length).map (i5 x L []))=some ((bQ L.length).map λi=>PV.sl (L.getD i []).length (lt.enc (L.getD i []))):=
  L4 _ λi hi=>JO (ov:=[]) hs (by grind) rfl rfl
 have e3:((bQ L.length).map λi=>PV.sl (L.getD i []).length (lt.enc (L.getD i [])))=L.flatMap λr=>[PV.sl r.length (lt.enc r)] :=by
  rw[EM (λr:List lt.ty=>PV.sl r.length (lt.enc r))];refine rT (by simp) λi h1 h2=> ?_;have h3:i<L.length:=by simpa using h2
  rw[jG,jG,List.getElem_range,du,dp h3];rfl
 unfold dH;rw[e1];simp only[qP,e2,e3,eO,Cs];rw[fT];grind
def XY{σ:Sg}{d x n:Nat}{ps:List Prop}{y:SV}(h:Bk d σ x n=some (ps,y))(hp:∀p∈ps,p):∃q,dH (d+1) σ.a (SV.owF x n).av=some q/\y.av= .p q:=by
 unfold Bk at h;split at h
 .rename_i d ty ity L hs;cases h;have hn:n=L.length:=hp _ (by grind);exact⟨_,LV hs hn,by rw[hn];rfl⟩
 .rename_i d ty ity L hs;cases h;have hn:n=L.length:=hp _ (by grind);exact⟨_,LV hs hn,by rw[hn];rfl⟩
 .cases h
def Ei{σ:Sg}:∀{d:Nat} {x:SV} {ps:List Prop} {y:SV},kW d σ x=some (ps,y)->(∀p∈ps,p)->∃q,dH d σ.a x.av=some q/\y.av= .p q:=by
 intro d;induction d with
 |zero=>
  intro x ps y h hp;cases x<;>first
   |(change some ([],SV.sl 0 [])=some (ps,y)at h;cases h;exact⟨.sl 0 [],rfl,rfl⟩)
   |exact JN h
 |succ d ih=>
  intro x ps y h hp;have ihl:= @xS d σ (kW d σ) (by grind);cases x with
  |nil=>cases h;exact⟨.sl 0 [],rfl,rfl⟩
  |own s t n=>
   change (match σ s with|some (.row _ lt l)=>some ([n=l.length],SV.lst lt l)|_=>none)=_ at h;split at h<;>cases h;rename_i ty lt l hs;have hn:n=l.length:=hp _ (by grind);refine⟨_,?_,rfl⟩;show dH (d+1) (Sg.a σ) (.own (aR s) 0 n)=_;unfold dH;have:Sg.a σ (aR s)=some ⟨ty,lt.w,(lt.enc l).map .p⟩:=by rw[Sg.cM,hs];rfl
   rw[this];simp only[qP,si,eO,Cs];rw[fT (by rw[lt.wide.length,hn];omega),hn]
  |owns s lt2 o n=>
   change (match σ s with|some (.row _ lt l)=>(match bH lt2.w lt.w with|true=>some ([o+n<=l.length],SV.lst lt ((l.drop o).take n))|false=>none)|_=>none)=_ at h;split at h
   case h_2=>cases h
   rename_i ty lt l hs;split at h<;>cases h;rename_i hw;have hw:=dI hw;have hn:o+n<=l.length:=hp _ (by grind);refine⟨_,?_,rfl⟩;show dH (d+1) (Sg.a σ) (.own (aR s) (o*lt2.w) n)=_;unfold dH;have:Sg.a σ (aR s)=some ⟨ty,lt.w,(lt.enc l).map .p⟩:=by rw[Sg.cM,hs];rfl
   rw[this];simp only[qP,si,eO];rw[hw,lt.wide.drop,lt.wide.take];grind
  |ownx s n=>
   change (match σ s with|some (.arr _ ez cs)=>(match bH cs.length (n*ez),kE (kW d σ) cs with|true,some (ps,m)=>some (ps,SV.sl n m)|_,_=>none)|_=>none)=_ at h;split at h
   case h_2=>cases h
   rename_i ty ez cs hs;split at h<;>cases h;rename_i m hl hm;obtain⟨q,e1,e2⟩:=ihl hm hp;refine⟨.sl n q,?_,by show(match bM (avs m)with|some q=>AV.p (.sl n q)|none=> .any)=_;rw[e2,dU]⟩;show dH (d+1) (Sg.a σ) (.own (aR s) 0 n)=_;unfold dH;have:Sg.a σ (aR s)=some ⟨ty,ez,avs cs⟩:=by rw[Sg.cM,hs];rfl
   rw[this];simp only[qP,e1,eO,Cs];rw[fT (by rw[<-(oH e1).1,ja,dI hl];omega)]
  |ptr s off=>
   change (match σ s with|some (.box _ cs)=>(match kE (kW d σ) cs with|some (ps,m)=>some (ps,SV.pro m off)|none=>none)|_=>none)=_ at h;split at h
   case h_2=>cases h
   rename_i ty cs hs;split at h<;>cases h;rename_i m hm;obtain⟨q,e1,e2⟩:=ihl hm hp;refine⟨.pro q off,?_,by show(match bM (avs m)with|some q=>AV.p (.pro q off)|none=> .any)=_;rw[e2,dU]⟩;show dH (d+1) (Sg.a σ) (.ptr (aR s) off)=_;unfold dH;have:Sg.a σ (aR s)=some ⟨ty,0,avs cs⟩:=by rw[Sg.cM,hs];rfl
   grind
  |ownf x t a n=>
   change (match σ x with|some (.fam _ _ lt L ov)=>some ((a<L.length)::(n=(L.getD a []).length)::mV ov a,SV.lst lt (L.getD a []))|_=>none)=_ at h;split at h<;>cases h;rename_i ty ity lt L ov hs;have ha:a<L.length:=hp _ (by grind);have hn:n=(L.getD a []).length:=hp _ (by grind);have ho:ov.lookup a=none:=sH (by grind);exact⟨_,JO hs ha hn ho,rfl⟩
  |owF x n=>exact XY (show Bk d σ x n=_ from h) hp
  |agg l=>
   change (match kE (kW d σ) l with|some (ps,m)=>some (ps,SV.agg m)|none=>none)=_ at h;split at h<;>cases h;rename_i m hm;obtain⟨q,e1,e2⟩:=ihl hm hp;refine⟨.agg q,?_,by show eR (avs m)=_;rw[e2,ry]⟩;show dH (d+1) (Sg.a σ) (eR (avs l))=_;unfold eR;cases hq:bM (avs l)with
   |some q'=>
    rw[i9 hq,si]at e1;cases e1;exact GN _ _ _
   |none=>unfold dH;rw[e1];rfl
  |fn f a b=>
   change (match kE (kW d σ) a,kE (kW d σ) b with|some (p,x),some (q,y)=>some (p++q,SV.fnp f x y)|_,_=>none)=_ at h;split at h<;>cases h;rename_i p x q y h1 h2;obtain⟨u,e1,e2⟩:=ihl h1 (λr hr=>hp r (by grind));obtain⟨v,e3,e4⟩:=ihl h2 (λr hr=>hp r (by grind));refine⟨.fn (.func f) u v,?_,by show(match bM (avs x),bM (avs y)with|some x,some y=>AV.p (.fn (.func f) x y)|_,_=> .any)=_;rw[e2,e4,dU,dU]⟩;show dH (d+1) (Sg.a σ) (.fn (.func f) (avs a) (avs b))=_;unfold dH;grind
  |_=>exact JN h
def dR:Nat->Sg->SV->List Nat
 |0,_,_=>[]
 |d+1,σ,x=>
  let O:Nat->List Nat:=λs=>match σ s with
   |some (.box _ cs)=>bO (dR d σ) cs
   |some (.arr _ _ cs)=>bO (dR d σ) cs
   |some (.fam _ _ _ _ ov)=>bO (λq:Nat×SV=>dR d σ q.2) ov
   |_=>[]
  match x with
  | .own s _ _=>s::O s
  | .owns s _ _ _=>s::O s
  | .ownx s _=>s::O s
  | .ptr s _=>s::O s
  | .pte s _ _ _=>s::O s
  | .ptf s _=>s::O s
  | .owF s _=>s::O s
  | .ownf s _ _ _=>[s]
  | .ptef s _ _ _ _=>[s]
  | .agg l=>bO (dR d σ) l
  | .fn _ a b=>bO (dR d σ) a++bO (dR d σ) b
  |_=>[]
def lj:Nat->Sg->SV->Bool
 |0,_,_=>true
 |d+1,σ,x=>
  let O:Nat->Bool:=λs=>match σ s with
   |some (.box _ cs)=>cs.all (lj d σ)
   |some (.arr _ _ cs)=>cs.all (lj d σ)
   |some (.fam ..)=>false
   |_=>true
  match x with
  | .own s _ _=>O s
  | .owns s _ _ _=>O s
  | .ownx s _=>O s
  | .ptr s _=>O s
  | .pte s _ _ _=>O s
  | .ptf s _=>O s
  | .owF s _=>O s
  | .ownf .. =>false
  | .ptef .. =>false
  | .agg l=>l.all (lj d σ)
  | .fn _ a b=>a.all (lj d σ)&&b.all (lj d σ)
  |_=>true
def qX{d:Nat}{g:Nat->Option Ob}{y:AV}(h:(∃q,y= .p q)\/y= .any\/(∃l,y= .tup l)):cO (d+1) g y=[] :=by rcases h with⟨q,rfl⟩|rfl|⟨l,rfl⟩<;>rfl
def qn(x:SV):(match x with| .tup _| .sl .. | .pro .. | .fnp .. =>True|_=>False)->(∃q,x.av= .p q)\/x.av= .any\/(∃l,x.av= .tup l):=by
 intro h;cases x<;>first|exact h.elim|skip
 .show(∃q,kA _= .p q)\/kA _= .any\/∃m,kA _= .tup m;unfold kA;grind
 all_goals
  simp only[SV.av];split
  .exact .inl ⟨_,rfl⟩
  .exact .inr (.inl rfl)
def Lr{d:Nat}{g:Nat->Option Ob}(l:List SV):cO (d+1) g (eR (avs l))=bO (cO d g) (avs l):=by
 unfold eR;cases hq:bM (avs l)with
 |none=>rfl
 |some q=>rw[i9 hq,pf];rfl
def N9{A B Ac Bc:List Nat}(h1:inC A Ac)(h2:inC B Bc):inC (A++B) (Ac++Bc):=λs hs=>by
 rcases bg.1 hs with h|h
 .exact iC _ (h1 s h)
 .exact fb _ (h2 s h)
def qj{d:Nat}{σ:Sg}(ih:∀x:SV,inC (cO d σ.a x.av) ((dR d σ x).map ncl)):∀l:List SV,inC (bO (cO d σ.a) (avs l)) ((bO (dR d σ) l).map ncl)
 |[] =>λs hs=>(cn hs).elim
 |x::l=>by rw[avs,bO,bO,dM];exact N9 (ih x) (qj ih l)
def Xq{σ:Sg}{d:Nat}(ih:∀x:SV,inC (cO d σ.a x.av) ((dR d σ x).map ncl)):∀s:Nat,inC (aR s::(match σ.a (aR s)with|some ob=>bO (cO d σ.a) ob.cells|none=>[])) ((s::(match σ s with|some (.box _ cs)=>bO (dR d σ) cs|some (.arr _ _ cs)=>bO (dR d σ) cs|some (.fam _ _ _ _ ov)=>bO (λq:Nat×SV=>dR d σ q.2) ov|_=>[])).map ncl):=by
 intro s t ht;rw[Sg.cM]at ht;rcases bT.1 ht with rfl|ht
 .rw[show cls (aR s)=ncl s from fO s 0];grind
 cases hs:σ s with
 |none=>grind
 |some ob=>
  rw[hs]at ht;cases ob with
  |box ty cs=>exact cE _ (qj ih cs t ht)
  |row ty lt l=>
   have ht:t∈bO (cO d σ.a) ((lt.enc l).map .p):=ht;rw[pf]at ht;grind
  |arr ty ez cs=>exact cE _ (qj ih cs t ht)
  |mp ks=>
   have ht:t∈bO (cO d σ.a) (fu (gY ks)):=ht;rw[sI,pf]at ht;grind
  |fam ty ity lt L ov=>
   have ht:t∈bO (cO d σ.a) ((bQ L.length).map (i5 s L ov)):=ht;have:∀l:List Nat,t∈bO (cO d σ.a) (l.map (i5 s L ov))->cls t∈ncl s::((bO (λq:Nat×SV=>dR d σ q.2) ov).map ncl):=λl=>by
    induction l with
    |nil=>intro h;exact(cn h).elim
    |cons i l ihl=>
     intro h;rcases bg.1 h with h|h
     .unfold i5 at h;split at h
      .rename_i v hv;obtain⟨y,hy,e⟩:=bZ.1 (ih v t h);refine cE _ (bZ.2 ⟨y,ny (x:=(i,v)) ?_ hy,e⟩);have key:∀ov:List (Nat×SV),ov.lookup i=some v->(i,v)∈ov:=λov hv=>by
        induction ov with
        |nil=>cases hv
        |cons q ov ihv=>
         grind
       grind
      .cases d with
       |zero=>exact(cn h).elim
       |succ d=>
        rcases bT.1 h with rfl|h
        .rw[fO];grind
        .rw[Sg.fW,hs]at h;have h:t∈(match(match ov.lookup i with|some _=>none|none=>(L[i]?).map λl=>(⟨ity,lt.w,(lt.enc l).map .p⟩:Ob))with|some ob=>bO (cO d σ.a) ob.cells|none=>[]):=h;split at h
         .rename_i ob hob;split at hob
          .cases hob
          .cases hL:L[i]? with
           |none=>grind
           |some l=>rw[hL]at hob;cases hob;rw[pf]at h;grind
         grind
     grind
   grind
def Um{σ:Sg}{d:Nat}:∀s a:Nat,inC (inn s (a+1)::(match σ.a (inn s (a+1))with|some ob=>bO (cO d σ.a) ob.cells|none=>[])) ([s].map ncl):=by
 intro s a t ht;rcases bT.1 ht with rfl|ht
 .rw[fO];grind
 .rw[Sg.fW]at ht;cases hs:σ s with
  |none=>grind
  |some ob=>
   rw[hs]at ht;cases ob with
   |fam ty ity lt L ov=>
    have ht:t∈(match(match ov.lookup a with|some _=>none|none=>(L[a]?).map λl=>(⟨ity,lt.w,(lt.enc l).map .p⟩:Ob))with|some ob=>bO (cO d σ.a) ob.cells|none=>[]):=ht;split at ht
    .rename_i ob hob;split at hob
     .cases hob
     .cases hL:L[a]? with
      |none=>grind
      |some l=>rw[hL]at hob;cases hob;rw[pf]at ht;grind
    grind
   |_=>exact(cn ht).elim
def NU{σ:Sg}:∀(d:Nat) (x:SV),inC (cO d σ.a x.av) ((dR d σ x).map ncl):=by
 intro d;induction d with
 |zero=>intro x s hs;exact(cn hs).elim
 |succ d ih=>
  intro x;have obs:=Xq ih;have inner:=Um (σ:=σ) (d:=d);have non:∀{y:SV} {l:List Nat},cO (d+1) σ.a y.av=[]->inC (cO (d+1) σ.a y.av) l:=λh=>by rw[h];exact λs hs=>by grind
  cases x with
  |own s t n=>exact obs s
  |owns s t o n=>exact obs s
  |ownx s n=>exact obs s
  |ptr s off=>exact obs s
  |pte s t i off=>exact obs s
  |ptf s a=>exact obs s
  |owF s n=>exact obs s
  |ownf s t a n=>exact inner s a
  |ptef s t a i off=>exact inner s a
  |agg l=>
   show inC (cO (d+1) σ.a (eR (avs l))) _;rw[Lr];exact qj ih l
  |fn f a b=>
   show inC (bO (cO d σ.a) (avs a)++bO (cO d σ.a) (avs b)) ((bO (dR d σ) a++bO (dR d σ) b).map ncl);rw[dM];exact N9 (qj ih a) (qj ih b)
  |tup l=>exact non (qX (qn _ trivial))
  |sl n cs=>exact non (qX (qn _ trivial))
  |pro cs off=>exact non (qX (qn _ trivial))
  |fnp f a b=>exact non (qX (qn _ trivial))
  |_=>exact non rfl
def sJ{d:Nat}{σ:Sg}(ih:∀x:SV,lj d σ x=true->cO d σ.a x.av=(dR d σ x).map aR/\∀y∈dR d σ x,qD (σ y)=true):∀l:List SV,l.all (lj d σ)=true->bO (cO d σ.a) (avs l)=(bO (dR d σ) l).map aR/\∀y∈bO (dR d σ) l,qD (σ y)=true
 |[],_=>⟨rfl,λy hy=>(cn hy).elim⟩
 |x::l,h=>by
  rw[List.all_cons,bw]at h;obtain⟨a1,a2⟩:=ih x h.1;obtain⟨b1,b2⟩:=sJ ih l h.2;rw[avs,bO,bO,dM,a1,b1];grind
def WB{σ:Sg}:∀(d:Nat) (x:SV),lj d σ x=true->cO d σ.a x.av=(dR d σ x).map aR/\∀y∈dR d σ x,qD (σ y)=true:=by
 intro d;induction d with
 |zero=>intro x _;exact⟨rfl,λy hy=>(cn hy).elim⟩
 |succ d ih=>
  intro x hx;have obs:∀s:Nat,(match σ s with|some (.box _ cs)=>cs.all (lj d σ)|some (.arr _ _ cs)=>cs.all (lj d σ)|some (.fam ..)=>false|_=>true)=true->
    (aR s::(match σ.a (aR s)with|some ob=>bO (cO d σ.a) ob.cells|none=>[]))=(s::(match σ s with|some (.box _ cs)=>bO (dR d σ) cs|some (.arr _ _ cs)=>bO (dR d σ) cs|some (.fam _ _ _ _ ov)=>bO (λq:Nat×SV=>dR d σ q.2) ov|_=>[])).map aR/\
    ∀y∈(s::(match σ s with|some (.box _ cs)=>bO (dR d σ) cs|some (.arr _ _ cs)=>bO (dR d σ) cs|some (.fam _ _ _ _ ov)=>bO (λq:Nat×SV=>dR d σ q.2) ov|_=>[])),qD (σ y)=true:=by
   intro s h;rw[Sg.cM,dB];cases hs:σ s with
   |none=>exact⟨rfl,λy hy=>by rw[bi.1 hy,hs];rfl⟩
   |some ob=>
    rw[hs]at h;cases ob with
    |box ty cs=>
     obtain⟨a1,a2⟩:=sJ ih cs h;refine⟨congrArg (aR s:: ·) a1,λy hy=> ?_⟩;rcases bT.1 hy with rfl|hy
     .rw[hs];rfl
     grind
    |row ty lt l=>exact⟨congrArg (aR s:: ·) (pf _ _ _),λy hy=>by rw[bi.1 hy,hs];rfl⟩
    |arr ty ez cs=>
     obtain⟨a1,a2⟩:=sJ ih cs h;refine⟨congrArg (aR s:: ·) a1,λy hy=> ?_⟩;rcases bT.1 hy with rfl|hy
     .rw[hs];rfl
     grind
    |mp ks=>
     refine⟨congrArg (aR s:: ·) ?_,λy hy=>by rw[bi.1 hy,hs];rfl⟩;show bO (cO d σ.a) (fu (gY ks))=_;rw[sI];exact pf _ _ _
    |fam=>cases h
  have non:∀{y:SV},cO (d+1) σ.a y.av=[]->dR (d+1) σ y=[]->cO (d+1) σ.a y.av=(dR (d+1) σ y).map aR/\∀z∈dR (d+1) σ y,qD (σ z)=true:=by grind
  cases x with
  |own s t n=>exact obs s hx
  |owns s t o n=>exact obs s hx
  |ownx s n=>exact obs s hx
  |ptr s off=>exact obs s hx
  |pte s t i off=>exact obs s hx
  |ptf s a=>exact obs s hx
  |owF s n=>exact obs s hx
  |ownf s t a n=>cases hx
  |ptef s t a i off=>cases hx
  |agg l=>
   show cO (d+1) σ.a (eR (avs l))=_/\_;rw[Lr];exact sJ ih l hx
  |fn f a b=>
   have hx:(a.all (lj d σ)&&b.all (lj d σ))=true:=hx;rw[bw]at hx;obtain⟨a1,a2⟩:=sJ ih a hx.1;obtain⟨b1,b2⟩:=sJ ih b hx.2;show bO (cO d σ.a) (avs a)++bO (cO d σ.a) (avs b)=(bO (dR d σ) a++bO (dR d σ) b).map aR/\∀y∈bO (dR d σ) a++bO (dR d σ) b,_;grind
  |tup l=>exact non (qX (qn _ trivial)) rfl
  |sl n cs=>exact non (qX (qn _ trivial)) rfl
  |pro cs off=>exact non (qX (qn _ trivial)) rfl
  |fnp f a b=>exact non (qX (qn _ trivial)) rfl
  |_=>exact non rfl rfl
inductive RK(X:Type) where
 |val (fr:Bool) (res:X->SV)
 |own (ty:TypeId) (t:LT) (l:X->List t.ty) (ys:X->List SV)
 |ownN (ty:TypeId) (t:LT) (l:X->List t.ty)
 |mutR (t:LT) (ty:TypeId) (l':X->List t.ty)
 |mutB (ty:TypeId) (cells':X->List SV)
 |tree (res:X->SV) (obs:X->aU)
 |rowB (t:LT) (ty:TypeId) (l':X->List t.ty)
structure Con where
 X:Type
 dec:List SV->Option X
 pre:X->List Prop
 rk:RK X
def aBD(P:Program)(f:Nat){X:Type}(dec:List SV->Option X)(pre:X->List Prop):RK X->Prop
 | .val fr res=>∀xs x,dec xs=some x->(∀p∈pre x,p)->∃A r,avs xs=A.map .p/\(res x).av= .p r/\Sat P fr f A r
 | .own ty t l ys=>∀xs x,dec xs=some x->(∀p∈pre x,p)->∃A Y,avs xs=A.map .p/\avs (ys x)=Y.map .p/\vS P f A ty t.w (t.enc (l x)) (l x).length Y
 | .ownN ty t l=>∀xs x,dec xs=some x->(∀p∈pre x,p)->∃A,avs xs= .nil::A.map .p/\Hv P f A ty t.w (t.enc (l x)) (l x).length []
 | .mutR t ty l'=>∀l rest x,dec (.lst t l::rest)=some x->(∀p∈pre x,p)->∃A,avs rest=A.map .p/\mX P f (some l.length) A ty t.w (t.enc l) (t.enc (l' x))
 | .mutB ty cells'=>∀cs rest x,dec (.agg cs::rest)=some x->(∀p∈pre x,p)->∃A q q',avs rest=A.map .p/\avs cs=q.map .p/\avs (cells' x)=q'.map .p/\mX P f none A ty 0 q q'
 | .tree res obs=>∀xs x,dec xs=some x->(∀p∈pre x,p)->∃A,avs xs=A.map .p/\Hu P f A (res x).av (Sg.a (aU.at (obs x)))
 | .rowB t ty l'=>∀l rest x,dec (.lst t l::rest)=some x->(∀p∈pre x,p)->∃A,avs rest=A.map .p/\Hw P f l.length A ty t.w (t.enc l) (t.enc (l' x)) (l' x).length
def Con.Ok(P:Program)(f:Nat)(c:Con):Prop:=aBD P f c.dec c.pre c.rk
abbrev Tab:=Nat->Option Con
def Tab.Ok(P:Program)(T:Tab):Prop:=∀f c,T f=some c->c.Ok P f
def LT.argP:(t:LT)->t.ty->PV
 | .V=>λv=> .agg [.int .i64 v.x,.int .i64 v.y]
 | .S=>λs=> .agg [.int .i64 s.a.x,.int .i64 s.a.y,.int .i64 s.b.x,.int .i64 s.b.y]
 | .R=>λr=> .sl r.length (fZ r)
 | .I=>λn=> .int .i64 n
 | .B=>λb=> .bool b
 | .P=>λp=> .agg [.int .i64 p.1,.int .i64 p.2]
 | .Q=>λr=> .sl r.length (CS r)
def LT.one:LT->Bool
 | .V=>false
 | .S=>false
 | .P=>false
 |_=>true
def yU(t:LT)(v:SV):Option t.ty:=match t.one with
 |true=>t.dec [v]
 |false=>(match v with| .agg l=>t.dec l|_=>none)
def GA{t:LT}{v:SV}{x:t.ty}(h:yU t v=some x):v.av= .p (t.argP x):=by
 have agg:∀l:List SV,v= .agg l->t.dec l=some x->v.av= .p (.agg (t.rowP x)):=by intro l e hd;subst e;show eR (avs l)=_;rw[LT.x4 hd,ry]
 have one:t.dec [v] =some x->∀c,t.rowP x=[c]->v.av= .p c:=by intro hd c hc;have:=LT.x4 hd;rw[hc]at this;simp only[avs,dB,lC,pP,and_true]at this;exact this
 unfold yU at h;cases t<;>simp only[LT.one]at h<;>first
  |exact one h _ rfl
  |(split at h<;>first|exact agg _ rfl h|cases h)
def aA6(P:Program)(pv:PV)(t:LT)(q:t.ty->Bool)(dom:t.ty->Prop):Prop:=∃f first caps,pv= .fn (.func f) first caps/\∀x,dom x->∃fr,Sat P fr f (first++[t.argP x] ++caps) (.bool (q x))
def aA5(P:Program)(pv:PV)(t:LT)(q:t.ty->t.ty->Int)(dom:t.ty->t.ty->Prop):Prop:=∃f first caps,pv= .fn (.func f) first caps/\∀x y,dom x y->∃fr,Sat P fr f (first++[t.argP x,t.argP y] ++caps) (.int .i64 (q x y))
def HF(x:SV):Bool:=match x.av with
 | .p r=>r.flat
 |_=>false
def Bl(T:Tab)(n:Nat)(σ:Sg)(f:Nat)(xs:List SV):SR:=match T f with
 |none=>none
 |some ⟨_,dec,pre,rk⟩=>(match rk with
  | .val fr res=>(match kE (kW 3 σ) xs with
    |some (ps,bs)=>(match dec bs with
     |some x=>(match(res x).ape,bM (avs xs)with
      |false,some _=>some (ps++pre x,res x,[],[])
      |false,none=>(match fr,HF (res x)with
       |false,false=>(match xs.all (lj 3 σ)with|true=>some (ps++pre x,res x,bO (dR 3 σ) xs,(bO (dR 3 σ) xs).map (·,none))|false=>none)
       |_,_=>some (ps++pre x,res x,bO (dR 3 σ) xs,[]))
      |_,_=>none)
     |none=>none)
    |none=>none)
  | .own ty t l ys=>(match bM (avs xs),dec xs,frs σ n with
    |some _,some x,true=>(match ys x with
     |[] =>some (pre x,.own n t (l x).length,[],[(n,some (.row ty t (l x)))])
     |y::r=>(match bH (y::r).length 0 with|_=>some (pre x,.tup (.own n t (l x).length::y::r),[],[(n,some (.row ty t (l x)))])))
    |_,_,_=>none)
  | .ownN ty t l=>(match xs with
    | .nil::rest=>(match bM (avs rest),dec (.nil::rest),frs σ n with
      |some _,some x,true=>some (pre x,.own n t (l x).length,[],[(n,some (.row ty t (l x)))])
      |_,_,_=>none)
    |_=>none)
  | .mutR t ty l'=>(match xs with
    | .own s _ m::rest=>(match σ s,bM (avs rest)with
      |some (.row ty' t' l),some _=>(match decEq t' t,bH ty' ty with
       | .isTrue h,true=>(match dec (.lst t (h▸l)::rest)with
         |some x=>some ((m=l.length)::pre x,.undef,[s],[(s,some (.row ty t (l' x)))])
         |none=>none)
       |_,_=>none)
      |_,_=>none)
    |_=>none)
  | .mutB ty cells'=>(match xs with
    | .ptr s 0::rest=>(match σ s,bM (avs rest)with
      |some (.box ty' cs),some _=>(match bH ty' ty,dec (.agg cs::rest)with
       |true,some x=>some (pre x,.undef,[s],[(s,some (.box ty (cells' x)))])
       |_,_=>none)
      |_,_=>none)
    |_=>none)
  | .tree .. =>none
  | .rowB .. =>none)
def Lh{P:Program}{T:Tab}(hT:T.Ok P){n:Nat}{σ:Sg}{f:Nat}{xs:List SV}{ps:List Prop}{r:SV}{rd:List Nat}{W:aU}(h:Bl T n σ f xs=some (ps,r,rd,W))(hp:∀p∈ps,p):
  (pj P σ.a f (avs xs) (λr' R' W'=>r'=r.av/\bY σ rd W R' W')\/At P n f (avs xs) (λr' R' W'=>r'=r.av/\bY σ rd W R' W'))/\r.ok:=by
 unfold Bl at h;split at h
 .cases h
 rename_i X dec pre rk hTf;have hc:=hT f _ hTf;unfold Con.Ok at hc;split at h
 .rename_i fr res;split at h
  case h_2=>cases h
  rename_i qs bs hb;split at h
  case h_2=>cases h
  rename_i x hx;have fin:(∀p∈qs++pre x,p)->∃A r,dj (dH 3 σ.a) (avs xs)=some A/\(res x).av= .p r/\Sat P fr f A r:=by
   intro hp;obtain⟨A,r,h1,h2,h3⟩:=hc bs x hx (λp h=>hp p (by grind));obtain⟨q,h4,h5⟩:=xS (λx ps y=>Ei) hb (λp h=>hp p (by grind));rw[h1]at h5;have:A=q:=by have:=congrArg bM h5;rw[dU,dU]at this;cases this;rfl
   subst this;grind
  have hR:bY σ (bO (dR 3 σ) xs) [] (bO (cO 3 σ.a) (avs xs)) [] :=⟨qj (NU 3) xs,λs hs=>by grind,rfl⟩;split at h
  .rename_i A' hape hA';cases h;obtain⟨A,r,h1,h2,h3⟩:=fin hp;refine⟨.inl ?_,SV.nI hape⟩;rw[h2];rw[i9 hA',si]at h1;cases h1;exact DP h3 hA' ⟨rfl,bY.read σ []⟩
  .rename_i hape hA';cases hfr:fr with
   |true=>
    rw[hfr]at h;cases h;obtain⟨A,r,h1,h2,h3⟩:=fin hp;refine⟨.inl ?_,SV.nI hape⟩;rw[h2];rw[hfr]at h3;exact Iu h3 h1 rfl ⟨rfl,hR⟩
   |false=>
    cases hfl:HF (res x)with
    |true=>
     rw[hfr,hfl]at h;cases h;obtain⟨A,r,h1,h2,h3⟩:=fin hp;refine⟨.inl ?_,SV.nI hape⟩;unfold HF at hfl;rw[h2]at hfl|-;exact Iu (h3.fresh hfl) h1 rfl ⟨rfl,hR⟩
    |false=>
     rw[hfr,hfl]at h;dsimp only at h;split at h<;>cases h;rename_i hall;obtain⟨A,r,h1,h2,h3⟩:=fin hp;refine⟨.inl ?_,SV.nI hape⟩;rw[h2];obtain⟨e1,e2⟩:=sJ (WB 3) xs hall;refine UB h3 h1 e1 ⟨rfl,?_⟩;have e3:((bO (dR 3 σ) xs).map aR).map (·,(none:Option Ob))=aU.sto ((bO (dR 3 σ) xs).map (·,none)):=by unfold aU.sto;rw[dq,dq];rfl
     rw[e3];exact bY.flat λq hq=>by obtain⟨y,hy,rfl⟩:=bZ.1 hq;exact⟨e2 y hy,rfl⟩
  .cases h
 .rename_i ty t l ys;split at h
  case h_2=>cases h
  rename_i A' x hA' hx hfr;obtain⟨f1,f2⟩:=mL hfr;have fin:(∀p∈pre x,p)->∃Y,avs (ys x)=Y.map .p/\vS P f A' ty t.w (t.enc (l x)) (l x).length Y:=by intro hp;obtain⟨A,Y,h1,h2,h3⟩:=hc xs x hx hp;rw[h1,dU]at hA';cases hA';exact⟨Y,h2,h3⟩
  split at h
  .rename_i hy;cases h;obtain⟨Y,h1,h2⟩:=fin hp;rw[hy]at h1;have hY:Y=[] :=by have:=congrArg dA h1;simp[avs]at this;grind
   subst hY;exact⟨.inr ⟨A',ty,t.w,t.enc (l x),(l x).length,[],by grind,by show _=AV.own (aR n) 0 _;rw[f1];rfl,bY.new (ob:= .row ty t (l x)) f2 f1 rfl⟩,trivial⟩
  .rename_i y r' hy;cases h;obtain⟨Y,h1,h2⟩:=fin hp;rw[hy]at h1;refine⟨.inr ⟨A',ty,t.w,t.enc (l x),(l x).length,Y,by grind,?_,bY.new (ob:= .row ty t (l x)) f2 f1 rfl⟩,trivial⟩;show CD n (l x).length Y=kA (avs (.own n t (l x).length::y::r'));cases Y with
   |nil=>simp[avs]at h1
   |cons y0 Y=>
    rw[avs,h1];unfold CD kA;rw[<-f1];rfl
 .rename_i ty t l;split at h
  case h_2=>cases h
  rename_i rest;split at h<;>cases h;rename_i A' x hA' hx hfr;obtain⟨f1,f2⟩:=mL hfr;obtain⟨A,h1,h2⟩:=hc _ x hx hp;have hA2:A'=A:=by have h1:AV.nil::avs rest= .nil::A.map .p:=h1;rw[pP]at h1;rw[h1.2,dU]at hA';cases hA';rfl
  subst hA2;exact⟨.inr ⟨A',ty,t.w,t.enc (l x),(l x).length,[],.inr ⟨avs rest,rfl,hA',h2⟩,by show _=AV.own (aR n) 0 _;rw[f1];rfl,bY.new (ob:= .row ty t (l x)) f2 f1 rfl⟩,trivial⟩
 .rename_i t ty l';split at h
  case h_2=>cases h
  rename_i s t2 m rest;split at h
  case h_2=>cases h
  rename_i ty' t' l A' hs hA';split at h
  case h_2=>cases h
  rename_i he _ hty;subst he;split at h<;>cases h;rename_i x hx;have hm:m=l.length:=hp _ (by simp);obtain⟨A,h1,h2⟩:=hc l rest x hx (by grind);have hty:=dI hty;refine⟨.inl (.inr ?_),trivial⟩;refine⟨ty,t'.w,t'.enc l,by rw[Sg.cM,hs,hty];rfl,nk t'.kU,A,t'.enc (l' x),by rw[h1,dU],by grind,rfl,?_⟩;exact bY.flat (rd:=[s]) (W:=[(s,some (.row ty t' (l' x)))]) λq hq=>by rw[bi.1 hq,hs];exact⟨rfl,rfl⟩
 .rename_i ty cells';split at h
  case h_2=>cases h
  rename_i s rest;split at h
  case h_2=>cases h
  rename_i ty' cs A' hs hA';split at h<;>cases h;rename_i x hty hx;obtain⟨A,q,q',h1,h2,h3,h4⟩:=hc cs rest x hx hp;have hty:=dI hty;refine⟨.inl (.inr ?_),trivial⟩;refine⟨ty,q,by rw[Sg.cM,hs,hty];show some (⟨ty,0,avs cs⟩:Ob)=_;rw[h2],A,q',by rw[h1,dU],h4,rfl,?_⟩;rw[<-h3];exact bY.flat (rd:=[s]) (W:=[(s,some (.box ty (cells' x)))]) λq hq=>by rw[bi.1 hq,hs];exact⟨rfl,rfl⟩
 .cases h
 .cases h
def FZ(P:Program)(T:Tab)(n:Nat)(σ:Sg)(fv:SV)(xs:List SV):SR:=match fv with
 | .fn g a b=>Bl T n σ g (a++xs++b)
 | .fnp g a b=>(match bM (avs a),bM (avs b)with|some _,some _=>Bl T n σ g (a++xs++b)|_,_=>none)
 | .clo1 pv t q dom=>(match xs with
   |[v] =>(match yU t v with|some x=>some ([dom x/\aA6 P pv t q dom],.bool (q x),[],[])|none=>none)
   |_=>none)
 | .clo2 pv t q dom=>(match xs with
   |[v,u] =>(match yU t v,yU t u with|some x,some y=>some ([dom x y/\aA5 P pv t q dom],.int .i64 (q x y),[],[])|_,_=>none)
   |_=>none)
 |_=>none
def Uh{P:Program}{T:Tab}(hT:T.Ok P){n:Nat}{σ:Sg}{fv:SV}{xs:List SV}{ps:List Prop}{r:SV}{rd:List Nat}{W:aU}(h:FZ P T n σ fv xs=some (ps,r,rd,W))(hp:∀p∈ps,p):
  (B5 P σ.a fv.av (avs xs) (λr' R' W'=>r'=r.av/\bY σ rd W R' W')\/B0 P n fv.av (avs xs) (λr' R' W'=>r'=r.av/\bY σ rd W R' W'))/\r.ok:=by
 unfold FZ at h;split at h
 .have:=Lh hT h hp;rw[sF,sF]at this;exact this
 .rename_i g a b;split at h
  case h_2=>cases h
  rename_i x y h1 h2;have:=Lh hT h hp;rw[sF,sF,i9 h1,i9 h2]at this;have e:(SV.fnp g a b).av= .p (.fn (.func g) x y):=by simp only[SV.av,h1,h2]
  rw[e];exact this
 .rename_i pv t q dom;split at h
  case h_2=>cases h
  rename_i v;split at h<;>cases h;rename_i x hx;obtain⟨h1,f,first,caps,rfl,h2⟩:=hp _ (bi.2 rfl);obtain⟨fr,h3⟩:=h2 x h1;refine⟨.inl ?_,trivial⟩;show pj P σ.a f (first.map .p++[v.av] ++caps.map .p) _;have e:first.map AV.p++[v.av] ++caps.map AV.p=(first++[t.argP x] ++caps).map .p:=by rw[GA hx,dM,dM];rfl
  rw[e];exact DP h3 (dU _) ⟨rfl,bY.read σ []⟩
 .rename_i pv t q dom;split at h
  case h_2=>cases h
  rename_i v u;split at h<;>cases h;rename_i x y hx hy;obtain⟨h1,f,first,caps,rfl,h2⟩:=hp _ (bi.2 rfl);obtain⟨fr,h3⟩:=h2 x y h1;refine⟨.inl ?_,trivial⟩;show pj P σ.a f (first.map .p++[v.av,u.av] ++caps.map .p) _;have e:first.map AV.p++[v.av,u.av] ++caps.map AV.p=(first++[t.argP x,t.argP y] ++caps).map .p:=by rw[GA hx,GA hy,dM,dM];rfl
  rw[e];exact DP h3 (dU _) ⟨rfl,bY.read σ []⟩
 .cases h
structure Cx where
 P:Program
 T:Tab
 lt:TypeId->Option LT
 q:EqT
 mt:TypeId->Bool
 inl:Nat->Bool
def SG(P:Program)(t:TypeId):Prop:=∃k e,P.underlying t=some (.map k e)/\MKey P k 2/\∀w,(zeroValue e).run P w= .ok (.bool false) w
def Cx.Ok(X:Cx):Prop:=X.T.Ok X.P/\X.q.Ok X.P/\∀t,X.mt t=true->SG X.P t
def rO:Option SV->SR
 |some r=>(match r.ape with|false=>some ([],r,[],[])|true=>none)
 |none=>none
def uF{o:Option SV}{ps:List Prop}{r:SV}{rd:List Nat}{W:aU}(h:rO o=some (ps,r,rd,W)):o=some r/\r.ok/\ps=[]/\rd=[]/\W=[] :=by
 unfold rO at h;split at h
 .split at h<;>cases h;rename_i hh;exact⟨rfl,SV.nI hh,rfl,rfl,rfl⟩
 .cases h
def u7:Option (List Prop×SV)->SR
 |some (ps,r)=>(match r.ape with|false=>some (ps,r,[],[])|true=>none)
 |none=>none
def zZ{o:Option (List Prop×SV)}{ps:List Prop}{r:SV}{rd:List Nat}{W:aU}(h:u7 o=some (ps,r,rd,W)):o=some (ps,r)/\r.ok/\rd=[]/\W=[] :=by
 unfold u7 at h;split at h
 .split at h<;>cases h;rename_i hh;exact⟨rfl,SV.nI hh,rfl,rfl⟩
 .cases h
def u6:SR->SR
 |some (ps,r,rd,W)=>(match r.ape with|false=>some (ps,r,rd,W)|true=>none)
 |none=>none
def De{o:SR}{ps:List Prop}{r:SV}{rd:List Nat}{W:aU}(h:u6 o=some (ps,r,rd,W)):o=some (ps,r,rd,W)/\r.ok:=by
 unfold u6 at h;split at h
 .split at h<;>cases h;rename_i hh;exact⟨rfl,SV.nI hh⟩
 .cases h
def Ro(raw:Bool)(x:SV):SV:=match raw with
 |true=>(match x with| .nil=> .sl 0 [] |y=>y)
 |false=>x
def sop(X:Cx)(raw:Bool)(n:Nat)(o:Op)(E:SE)(σ:Sg):SR:=match o with
 | .move x=>some ([],E x,[],[])
 | .assign x=>some ([],Ro raw (E x),[],[])
 | .pick c a b=>rO (Gt (E c) (E a) (E b))
 | .alloc t=>BM X.P σ n t
 | .box t x=>CB σ n t (E x)
 | .build t parts=>BL X.P t (parts.toList.map λq=>(q.1,E q.2))
 | .buildSlice t len parts=>Ao X.P σ n t len (parts.toList.map λq=>(q.1,E q.2))
 | .load t x=>u6 (Gx X.P t (E x) σ)
 | .store t a x=>BJ X.P t (E a) (E x) σ
 | .nilCheck x=>(match CI (E x).av with|true=>some ([],E x,[],[])|false=>none)
 | .binOp op t x y _=>u7 (HZ X.P X.q raw op t (E x) (E y))
 | .unOp op _ x=>u7 (sun raw op (E x))
 | .convert s d x=>u7 (G0 X.P raw s d (E x))
 | .makeFunc (.func f) first caps=>some ([],.fn f (first.toList.map E) (caps.toList.map E),[],[])
 | .slice t x lo hi none=>(match CN E lo,CN E hi with|some a,some b=>u7 (GM X.P t (E x) a b)|_,_=>none)
 | .fieldAddr t x f=>(match GQ X.P t (E x) f with|some r=>some ([],r,[],[])|none=>none)
 | .field t x f=>rO (GP X.P t (E x) f)
 | .indexAddr t x i=>(match GO X.P t (E x) (E i)with|some (ps,r)=>some (ps,r,[],[])|none=>none)
 | .extract x i=>rO (Gy (E x) i)
 | .call {callee:= .value f,args, .. }=>FZ X.P X.T n σ (E f) (args.toList.map E)
 | .call {callee:= .builtin .len,args:=⟨[x]⟩,argTypes:=⟨[t]⟩}=>rO (HY X.P t (E x))
 | .call {callee:= .builtin .append,args:=⟨[x,y]⟩,argTypes:=⟨[t,t']⟩}=>CC X.P X.lt n t t' σ (E x) (E y)
 | .call {callee:= .builtin .min,args:=⟨[x,y]⟩, .. }=>rO (smm min (E x) (E y))
 | .call {callee:= .builtin .max,args:=⟨[x,y]⟩, .. }=>rO (smm max (E x) (E y))
 | .makeSlice t a b=>u6 (Gv X.P X.lt σ n t (E a) (E b))
 |_=>none
def aAt{X:Cx}(hX:X.Ok){raw:Bool}{n:Nat}{o:Oper}{E:SE}{σ:Sg}(hE:∀x,(E x).ok){ps:List Prop}{r:SV}{rd:List Nat}{W:aU}(h:sop X raw n o.op E σ=some (ps,r,rd,W))(hp:∀p∈ps,p):
  AOp X.P n o E.a σ.a (λr' R' W'=>r'=r.av/\bY σ rd W R' W')/\r.ok:=by
 obtain⟨hT,hq,_⟩:=hX;generalize ho:o.op=op at h;have A:∀{R:SR},rH X.P n o E σ R->R=some (ps,r,rd,W)->AOp X.P n o E.a σ.a (λr' R' W'=>r'=r.av/\bY σ rd W R' W'):=λhs e=>hs _ _ _ _ e hp;have avl:∀l:List Operand,avs (l.map E)=l.map E.a:=λl=>by rw[jA,dq];rfl
 unfold sop at h;split at h
 .rename_i x;cases h;exact⟨by unfold AOp;rw[ho];exact⟨rfl,bY.read σ []⟩,hE x⟩
 .rename_i x;cases h;unfold Ro;split
  .split
   .rename_i hx;exact⟨by unfold AOp;rw[ho];exact .inr ⟨by show(E x).av= .nil;rw[hx];rfl,rfl,bY.read σ []⟩,trivial⟩
   .exact⟨by unfold AOp;rw[ho];exact .inl ⟨rfl,bY.read σ []⟩,hE x⟩
  .exact⟨by unfold AOp;rw[ho];exact .inl ⟨rfl,bY.read σ []⟩,hE x⟩
 .obtain⟨h1,h2,rfl,rfl,rfl⟩:=uF h;exact⟨by unfold AOp;rw[ho];exact XU h1 ⟨rfl,bY.read σ []⟩,h2⟩
 .refine⟨A (Vz ho) h,?_⟩;unfold BM at h;split at h<;>cases h;trivial
 .refine⟨A (ZF ho) h,?_⟩;unfold CB at h;split at h<;>cases h;trivial
 .refine⟨A (Vv ho) h,?_⟩;unfold BL at h;split at h
  .split at h<;>cases h;trivial
  .cases h
 .refine⟨A (Ui ho) h,?_⟩;unfold Ao at h;split at h
  .split at h
   .split at h<;>cases h;trivial
   .cases h
  .cases h
 .rename_i t x;obtain⟨h1,h2⟩:=De h;exact⟨A (Xb ho (hE x)) h1,h2⟩
 .refine⟨A (Vk ho) h,?_⟩;unfold BJ at h;split at h
  .split at h
   .split at h
    .split at h
     .split at h<;>cases h;trivial
     .split at h<;>cases h;trivial
     .cases h
    .split at h
     .split at h<;>cases h;trivial
     .cases h
    .split at h<;>cases h;trivial
    .cases h
   .cases h
  .cases h
 .rename_i x;split at h<;>cases h;rename_i hn;exact⟨by unfold AOp;rw[ho];exact⟨hn,rfl,bY.read σ []⟩,hE x⟩
 .obtain⟨h1,h2,rfl,rfl⟩:=zZ h;exact⟨by unfold AOp;rw[ho];exact ZG hq h1 hp ⟨rfl,bY.read σ []⟩,h2⟩
 .obtain⟨h1,h2,rfl,rfl⟩:=zZ h;exact⟨by unfold AOp;rw[ho];exact aAr h1 hp ⟨rfl,bY.read σ []⟩,h2⟩
 .obtain⟨h1,h2,rfl,rfl⟩:=zZ h;exact⟨by unfold AOp;rw[ho];exact Xe h1 hp ⟨rfl,bY.read σ []⟩,h2⟩
 .cases h;refine⟨?_,trivial⟩;unfold AOp;rw[ho];refine⟨?_,bY.read σ []⟩;show _=AV.fn _ (avs _) (avs _);rw[avl,avl]
 .rename_i t x lo hi;split at h
  case h_2=>cases h
  rename_i a b ha hb;obtain⟨h1,h2,rfl,rfl⟩:=zZ h;refine⟨?_,h2⟩;unfold AOp;rw[ho];dsimp only;have key:∀(z:Option Operand) (c:Option Int) (d:Int),CN E z=some c->loA E.a z d=some (c.getD d):=by
   intro z c d hz;cases z with
   |none=>cases hz;rfl
   |some z=>
    unfold CN at hz;dsimp only at hz;split at hz<;>cases hz;rename_i k hk;exact Zo hk
  rw[key lo a 0 ha,key hi b _ hb];exact Vl h1 hp ⟨rfl,bY.read σ []⟩
 .rename_i t x f;split at h<;>cases h;rename_i h1;have:=Vr h1 (K:=λr'=>r'=r.av/\bY σ [] [] [] []) ⟨rfl,bY.read σ []⟩;exact⟨by unfold AOp;rw[ho];exact this.1,this.2 (hE x)⟩
 .obtain⟨h1,h2,rfl,rfl,rfl⟩:=uF h;exact⟨by unfold AOp;rw[ho];exact Vq h1 ⟨rfl,bY.read σ []⟩,h2⟩
 .split at h<;>cases h;rename_i h1;have:=Vp h1 hp (K:=λr'=>r'=r.av/\bY σ [] [] [] []) ⟨rfl,bY.read σ []⟩;exact⟨by unfold AOp;rw[ho];exact this.1,this.2⟩
 .obtain⟨h1,h2,rfl,rfl,rfl⟩:=uF h;exact⟨by unfold AOp;rw[ho];exact Xc h1 ⟨rfl,bY.read σ []⟩,h2⟩
 .have:=Uh hT h hp;rw[avl]at this;exact⟨by unfold AOp;rw[ho];exact this.1,this.2⟩
 .obtain⟨h1,h2,rfl,rfl,rfl⟩:=uF h;exact⟨by unfold AOp;rw[ho];exact ZC h1 ⟨rfl,bY.read σ []⟩,h2⟩
 .have:=ZH h hp;refine⟨by unfold AOp;rw[ho];exact this,?_⟩;unfold CC at h;split at h
  .unfold Bm at h;split at h
   .split at h<;>cases h;trivial
   .cases h
  .unfold Bn at h;split at h
   .split at h
    .split at h<;>cases h;trivial
    .cases h
   .cases h
 .obtain⟨h1,h2,rfl,rfl,rfl⟩:=uF h;exact⟨by unfold AOp;rw[ho];exact Of h1 ⟨rfl,bY.read σ []⟩,h2⟩
 .obtain⟨h1,h2,rfl,rfl,rfl⟩:=uF h;exact⟨by unfold AOp;rw[ho];exact Of h1 ⟨rfl,bY.read σ []⟩,h2⟩
 .obtain⟨h1,h2⟩:=De h;exact⟨A (XZ ho) h1,h2⟩
 .cases h
end
section
variable {P:Program} {o:Oper} {E:Operand->AV} {σ:Nat->Option Ob} {n:Nat}
def W4{c:Call}{f:Operand}{fid:FuncId}{A cells:List PV}{m ty esz:Nat}(ho:o.op= .call c)(hc:c.callee= .value f)(hfv:E f= .p (.fn (.func fid) [] []))
  (hA:dj (dH 3 σ) (c.args.toList.map E)=some A) (hfl:cells.all flat1=true) (hS:vS P fid A ty esz cells m []):bR P o E σ n (.own (sit n 0) 0 m) (bO (cO 3 σ) (c.args.toList.map E)) [(sit n 0,some ⟨ty,esz,cells.map .p⟩)] :=by
 have hfm:f∈o.op.operands.toList:=by rw[ho];simp[ce,jY,hc]
 have ham:∀x∈c.args.toList,x∈o.op.operands.toList:=by intro x hx;rw[ho];simp[ce,jY];exact .inr (by grind)
 obtain⟨hok,he,hcalls⟩:=hS;intro C0 ρ g V w B hs hB hR hn hgn hE;have hn:=hn _ (iH n 0);have hgn:=hgn _ (iH n 0);have hcl:∀s,cls s≠n->s≠sit n 0:=λs h e=>h (by rw[e];exact iH n 0);have hargs:∀l:List Operand,(∀x∈l,x∈o.op.operands.toList)->bB ρ (bF C0 B w ρ g) (l.map E) (l.map (bK V)):=by
  intro l;induction l with
  |nil=>intro _;simp only[lC];unfold bB;rfl
  |cons x l ih=>
   intro hx;simp only[dB];unfold bB;grind
 have hall:=hargs _ ham;have hsnap:az (λb o v=>w.cell? ⟨b,o,none⟩=some v) A (c.args.toList.map (bK V)):=by
  obtain⟨g1,g2⟩:=oH hA;refine az.of _ _ (by grind) λi y hi=> ?_;have hlt:i<(c.args.toList.map E).length:=by rw[g1];exact(rX.1 hi).1
  obtain⟨y',h5,h6⟩:=g2 i _ (dp hlt);rw[hi]at h5;cases h5;obtain⟨v,k1,k2⟩:=hall.get _ _ i _ (dp hlt);exact⟨v,k1,Eh hs _ (λ_=>True) (λb o v h=>h.1) (λs ob b c _ _ _ _ o v h=>h) 3 _ _ v h6 (λs hs'=>⟨trivial,hR s (ny (List.getElem_mem hlt) hs')⟩) k2⟩
 have hvf:bK V f= .func (.func fid) #[] #[] :=by have:=hE f hfm;rw[hfv]at this;unfold aW aX at this;obtain⟨v1,v2,h1,h2,h3⟩:=this;unfold az at h2 h3;rw[h1,h2,h3]
 have hrun:(execOp (bK V) o).run P w= .ok (.enter fid (c.args.toList.map (bK V)).toArray) w:=by
  unfold execOp;rw[ho];have e2: #[] ++tZ (bK V) c.args++ #[] =(c.args.toList.map (bK V)).toArray:=by apply pN.1;simp
  simp only[resolve,hc,hvf,tc,cp,db,ct,invoke,lK hok,e2]
 have hlive:∀s ob b c,g s=some ob->ρ s=some (some b,c)->b<w.heap.size:=by intro s ob b c e1 e2;obtain⟨_,arr,e3⟩:=hs.at e1 e2;exact e3.lt
 unfold cN;rw[hrun];dsimp only;refine(hcalls _ w _ (λb o v h=>h) hsnap).mono ?_;rintro e w' ⟨v,us,q,c,rfl,hbel,hys,hrow⟩;have hus:us=[] :=by have:=hys.length;simpa using this
 subst hus;have hqb:∀b,q=some b->w.heap.size<=b:=by
  intro b hb;rcases hrow with⟨h1,_⟩|⟨b',arr,h1,_,_,h4,_⟩
  .grind
  .grind
 have hold:∀b,b<w.heap.size->w'.heap[b]? =w.heap[b]? :=λb hb=>hbel.block b hb;generalize hnS:sit n 0=nS at*
 let ρ':Ren:=λs=>if s=nS then some (q,c)else ρ s
 have hρn:ρ' nS=some (q,c):=if_pos rfl;have hρs:∀s,s≠nS->ρ' s=ρ s:=λs h=>if_neg h;have hup:∀s,s≠nS->bC g [(nS,some ⟨ty,esz,cells.map .p⟩)] s=g s:=by intro s h;unfold bC;simp[iE,beq_eq_false_iff_ne.2 h]
 have hmono:∀b o' x,bF C0 B w ρ g b o' x->bF C0 B w' ρ' (bC g [(nS,some ⟨ty,esz,cells.map .p⟩)]) b o' x:=by
  intro b o' x ⟨e1,e2,e0⟩;have hlt:=jz w ⟨b,o',none⟩ e1;refine⟨(jI (hold b hlt)).trans e1,λs c' e3=> ?_,e0⟩;by_cases hsn:s=nS
  .grind
  .grind
 refine⟨_,rfl,ρ',λs hs=>hρs s (hcl s hs),hmono,?_,?_,hbel.mono hB⟩
 .refine hs.step (λs o' _ hgs=>hρs s (λh=>by grind)) (λs q' hq=>by grind) hmono ?_ ?_ λk es clock hk=>hold k (qz hk)
  .grind
  .intro s o' hso;have hsn:s=nS:=by
    rcases pO s nS with h|h
    .grind
    .exact h
   subst hsn;simp[iE]at hso;subst hso;refine⟨q,c,hρn,?_⟩;rcases hrow with⟨h1,h2,h3,h4,h5⟩|⟨b,arr,h1,h2,h3,h4,h5,h6,h7,h8,h9⟩
   .grind
   .refine .inr ⟨b,arr,h1,Nat.le_trans hB h4,⟨h5,λh=>absurd h he,λ_=>⟨h6,by grind,h8⟩,λi x hi=> ?_⟩,λs' o2 c' hne hg' hr'=> ?_⟩
    .have hi:(cells.map AV.p)[i]? =some x:=hi;rw[gW]at hi;cases hci:cells[i]? with
     |none=>grind
     |some y=>
      rw[hci]at hi;simp only[eO,fc]at hi;subst hi;obtain⟨u,k1,k2,k3⟩:=h9 i y hci;exact⟨u,k1,k2,by unfold aW;exact EP (bk.1 hfl y (List.mem_of_getElem? hci)) k3⟩
    grind
 .unfold aW;refine⟨q,c,hρn,?_⟩;rcases hrow with⟨h1,h2,h3,_⟩|⟨b,arr,h1,h2,h3,_⟩
  .exact .inl ⟨h1,h2,h3,rfl⟩
  .exact .inr ⟨b,0,c,h1,h2,h3,λ_=>rfl,λ_=>⟨rfl,rfl⟩⟩
end
noncomputable section
def zo{m:Rf}{l r:List AV}(h:fJ m l r):cU m (eR l) (eR r):=by
 unfold eR;cases hl:bM l with
 |some q=>
  have e:=i9 hl;subst e;have:∀(q:List PV) (r:List AV),fJ m (q.map .p) r->r=q.map .p:=by
   intro q;induction q with
   |nil=>intro r h;exact h
   |cons x q ih=>intro r h;obtain⟨y,r',rfl,h1,h2⟩:=h;unfold cU at h1;grind
  rw[this q r h,dU];rfl
 |none=>
  unfold cU;cases hr:bM r with
  |some q=>exact⟨r,.inr ⟨q,rfl,i9 hr⟩,h⟩
  |none=>grind
def D6{m:Rf}{l r:List AV}(h:fJ m l r):cU m (kA l) (kA r):=by
 unfold kA;cases hl:bM l with
 |some q=>
  have e:=i9 hl;subst e;have:∀(q:List PV) (r:List AV),fJ m (q.map .p) r->r=q.map .p:=by
   intro q;induction q with
   |nil=>intro r h;exact h
   |cons x q ih=>intro r h;obtain⟨y,r',rfl,h1,h2⟩:=h;unfold cU at h1;grind
  rw[this q r h,dU];rfl
 |none=>
  unfold cU;cases hr:bM r with
  |some q=>exact⟨r,.inr ⟨q,rfl,i9 hr⟩,h⟩
  |none=>grind
def dG{m:Rf}{x:PV}{y:AV}(h:y= .p x):cU m (.p x) y:=by exact h
def j5(m:Rf):∀q:List PV,fJ m (q.map .p) (q.map .p)
 |[] =>by rfl
 |x::q=>by exact⟨_,_,rfl,dG rfl,j5 m q⟩
def uJ{m:Rf}{α:Type}(f g:α->AV):∀l:List α,(∀x∈l,cU m (f x) (g x))->fJ m (l.map f) (l.map g)
 |[],_=>by rfl
 |x::l,h=>by
  exact⟨_,_,rfl,by grind,uJ f g l (by grind)⟩
mutual
def SV.ren(f:Nat->Nat):SV->SV
 | .agg l=> .agg (rL f l)
 | .tup l=> .tup (rL f l)
 | .fn g a b=> .fn g (rL f a) (rL f b)
 | .ptr s o=> .ptr (f s) o
 | .pte s t i o=> .pte (f s) t i o
 | .own s t n=> .own (f s) t n
 | .owns s t o n=> .owns (f s) t o n
 | .ownx s n=> .ownx (f s) n
 | .ownf s t a n=> .ownf (f s) t a n
 | .ptef s t a i o=> .ptef (f s) t a i o
 | .ptf s a=> .ptf (f s) a
 | .owF s n=> .owF (f s) n
 | .mp s=> .mp (f s)
 | .any=> .any
 | .undef=> .undef
 | .nil=> .nil
 | .int k n=> .int k n
 | .bool b=> .bool b
 | .lit b=> .lit b
 | .prop p d=> .prop p d
 | .str s=> .str s
 | .lst t l=> .lst t l
 | .sl n cs=> .sl n cs
 | .pe t l i o=> .pe t l i o
 | .pro cs o=> .pro cs o
 | .fnp g a b=> .fnp g a b
 | .clo1 pv t q dom=> .clo1 pv t q dom
 | .clo2 pv t q dom=> .clo2 pv t q dom
 | .ptb F n o=> .ptb F n o
 | .junk=> .junk
def rL(f:Nat->Nat):List SV->List SV
 |[] =>[]
 |x::l=>x.ren f::rL f l
end
def vF(m:Rf)(f:Nat->Nat):Prop:=∀y a,m (inn (f y) a)=some (some (inn y a))
def vF.n{m:Rf}{f:Nat->Nat}(h:vF m f)(y:Nat):m (aR (f y))=some (some (aR y)):=h y 0
mutual
theorem NT{m:Rf}{f:Nat->Nat}(hm:vF m f):∀v:SV,cU m (v.ren f).av v.av
 | .any=>by trivial
 | .undef=>by rfl
 | .nil=>by rfl
 | .int _ _=>dG rfl
 | .bool _=>dG rfl
 | .lit _=>dG rfl
 | .prop _ _=>dG rfl
 | .str _=>dG rfl
 | .lst _ _=>dG rfl
 | .pe _ _ _ _=>dG rfl
 | .clo1 _ _ _ _=>dG rfl
 | .clo2 _ _ _ _=>dG rfl
 | .ptb _ _ _=>dG rfl
 | .junk=>dG rfl
 | .sl n cs=>by
   simp only[SV.ren,SV.av];split
   .exact dG rfl
   .trivial
 | .pro cs off=>by
   simp only[SV.ren,SV.av];split
   .exact dG rfl
   .trivial
 | .fnp g a b=>by
   simp only[SV.ren,SV.av];split
   .exact dG rfl
   .trivial
 | .agg l=>by exact zo (sL hm l)
 | .tup l=>by exact D6 (sL hm l)
 | .fn g a b=>by exact⟨_,_,rfl,sL hm a,sL hm b⟩
 | .ptr s off=>by exact⟨_,hm.n s,rfl⟩
 | .pte s t i off=>by exact⟨_,hm.n s,rfl⟩
 | .ptf s a=>by exact⟨_,hm.n s,rfl⟩
 | .ptef s t a i off=>by exact⟨_,hm s (a+1),rfl⟩
 | .own s t n=>by exact .inl ⟨_,hm.n s,rfl⟩
 | .owns s t o n=>by exact .inl ⟨_,hm.n s,rfl⟩
 | .ownx s n=>by exact .inl ⟨_,hm.n s,rfl⟩
 | .owF s n=>by exact .inl ⟨_,hm.n s,rfl⟩
 | .ownf s t a n=>by exact .inl ⟨_,hm s (a+1),rfl⟩
 | .mp s=>by exact⟨_,hm.n s,rfl⟩
theorem sL{m:Rf}{f:Nat->Nat}(hm:vF m f):∀l:List SV,fJ m (avs (rL f l)) (avs l)
 |[] =>by rfl
 |x::l=>by exact⟨_,_,rfl,NT hm x,sL hm l⟩
end
def SOb.ren(f:Nat->Nat):SOb->SOb
 | .box ty cs=> .box ty (rL f cs)
 | .arr ty ez cs=> .arr ty ez (rL f cs)
 | .row ty t l=> .row ty t l
 | .fam ty ity t L ov=> .fam ty ity t L (ov.map λq=>(q.1,q.2.ren f))
 | .mp ks=> .mp ks
def nC:SOb->Bool
 | .box ty _=> !(bH ty 0)
 | .fam _ _ _ _ ov=>ov.isEmpty
 | .arr _ ez _=> !(bH ez 0)
 |_=>true
def WA{m:Rf}{f:Nat->Nat}(hm:vF m f)(k:Nat){o:SOb}(ho:nC o=true):qB m ((o.ren f).ob (f k)) (o.ob k):=by
 cases o with
 |box ty cs=>exact⟨rfl,rfl,sL hm cs⟩
 |arr ty ez cs=>exact⟨rfl,rfl,sL hm cs⟩
 |row ty t l=>exact⟨rfl,rfl,j5 m _⟩
 |mp ks=>refine⟨rfl,rfl,?_⟩;show fJ m (fu (gY ks)) (fu (gY ks));rw[sI];exact j5 m _
 |fam ty ity t L ov=>
  have:ov=[] :=IT.1 ho;subst this;refine⟨rfl,rfl,uJ _ _ _ λi _=> ?_⟩;exact .inl ⟨_,hm k (i+1),rfl⟩
def rK(x:Nat)(ob:SOb):List (Nat×Option Ob):=(aR x,some (ob.ob x))::match ob with
 | .fam _ ity t L _=>(bQ L.length).map λa=>(inn x (a+1),some ⟨ity,t.w,(t.enc (L.getD a [])).map .p⟩)
 |_=>[]
def Jd{α:Type}{g0:Nat->Nat}(hg:∀a b,g0 a=g0 b->a=b)(h0:Nat->α):∀(l:List Nat) (a:Nat),(l.map λi=>(g0 i,h0 i)).lookup (g0 a)=if a∈l then some (h0 a)else none
 |[],a=>rfl
 |i::l,a=>by
  rw[dB,dV,Jd hg h0 l a];grind
def DO{α:Type}{s:Nat}:∀{l:List (Nat×α)},(∀q∈l,q.1≠s)->l.lookup s=none
 |[],_=>rfl
 |q::l,h=>by grind
def DZ{α:Type}{s:Nat}:∀{l r:List (Nat×α)},(l++r).lookup s=(match l.lookup s with|some x=>some x|none=>r.lookup s)
 |[],r=>rfl
 |q::l,r=>by
  grind
def YJ{ob:SOb}(ho:nC ob=true)(a:Nat):ob.inner a=(match ob with| .fam _ ity t L _=>if a<L.length then some ⟨ity,t.w,(t.enc (L.getD a [])).map .p⟩else none|_=>none):=by
 cases ob<;>try rfl
 rename_i ty ity t L ov;have:ov=[] :=IT.1 ho;subst this;show((L[a]?).map λl=>(⟨ity,t.w,(t.enc l).map .p⟩:Ob))=_;grind
def Vm(x y:Nat)(ob:SOb):(rK x ob).lookup (aR y)=if y=x then some (some (ob.ob x))else none:=by
 unfold rK;rw[dV];by_cases e:y=x
 .grind
 .rw[beq_eq_false_iff_ne.2 (λh=>e (lM h)),if_neg e];refine DO λq hq=> ?_;split at hq
  .obtain⟨a,_,rfl⟩:=bZ.1 hq;exact λh=>by have:=(fL h).2;omega
  .cases hq
def XX(x y a:Nat){ob:SOb}(ho:nC ob=true):(rK x ob).lookup (inn y (a+1))=if y=x then(ob.inner a).map some else none:=by
 have e0:inn y (a+1)≠aR x:=λh=>by have:=(fL h).2;omega
 rw[YJ ho a];unfold rK;rw[dV,beq_eq_false_iff_ne.2 e0];cases ob with
 |fam ty ity t L ov=>
  by_cases e:y=x
  .subst e;rw[if_pos rfl,Jd (g0:=λa=>inn y (a+1)) (λa b h=>by have:=(fL h).2;omega)];grind
  .rw[if_neg e];refine DO λq hq=> ?_;obtain⟨b,_,rfl⟩:=bZ.1 hq;exact λh=>e (fL h).1.symm
 |_=>dsimp only;split<;>rfl
def ZB(x:Nat)(ob:SOb){s:Nat}(h:∀x a,s≠inn x a):(rK x ob).lookup s=none:=by
 refine DO λq hq=> ?_;rcases bT.1 hq with rfl|hq
 .exact λe=>h x 0 e.symm
 grind
def qA(W:List (Nat×SOb)):List (Nat×Option Ob):=W.flatMap λq=>rK q.1 q.2
def wR(y:Nat):∀W:List (Nat×SOb),(qA W).lookup (aR y)=(W.lookup y).map λob=>some (ob.ob y)
 |[] =>rfl
 |q::W=>by
  unfold qA;rw[fM,DZ,Vm,dV];by_cases e:y=q.1
  .grind
  .rw[if_neg e,beq_eq_false_iff_ne.2 e];exact wR y W
def wi(y a:Nat):∀{W:List (Nat×SOb)},(∀q∈W,nC q.2=true)->(W.map (·.1)).Nodup->(qA W).lookup (inn y (a+1))=((W.lookup y).bind (SOb.inner a)).map some
 |[],_,_=>rfl
 |q::W,h,hn=>by
  rw[dB,List.nodup_cons]at hn;have ih:=wi y a (W:=W) (by grind) hn.2;unfold qA;rw[fM,DZ,XX _ _ _ (by grind),dV];by_cases e:y=q.1
  .rw[if_pos e,beq_iff_eq.2 e];have hno:W.lookup y=none:=by grind
   cases hi:q.2.inner a with
   |some ob=>simp[hi]
   |none=>
    have ih':(List.flatMap (λq=>rK q.1 q.2) W).lookup (inn y (a+1))=none:=by have:=ih;unfold qA at this;rw[this,hno];rfl
    grind
  .rw[if_neg e,beq_eq_false_iff_ne.2 e];exact ih
def w7{s:Nat}(h:∀x a,s≠inn x a):∀W:List (Nat×SOb),(qA W).lookup s=none
 |[] =>rfl
 |q::W=>by
  unfold qA;rw[fM,DZ,ZB _ _ h];exact w7 h W
def I8(W:List (Nat×SOb))(y:Nat):((W.map λq=>(q.1,some q.2)).lookup y:Option (Option SOb))=(W.lookup y).map some:=by
 induction W with
 |nil=>rfl
 |cons q W ih=>
  grind
def bY.news{σ:Sg}{W:List (Nat×SOb)}(hW:∀q∈W,nC q.2=true)(hn:(W.map (·.1)).Nodup)(hσ:∀q∈W,σ q.1=none):bY σ [] (W.map λq=>(q.1,some q.2)) [] (qA W):=by
 refine⟨λs hs=>by grind,λs hs=> ?_,?_⟩
 .obtain⟨⟨t,ob⟩,hq,rfl⟩:=bZ.1 hs;obtain⟨q,hq1,hq2⟩:=cZ.1 hq;have:cls t=ncl q.1:=by
   unfold rK at hq2;rcases bT.1 hq2 with e|hq2
   .cases e;exact fO _ 0
   .split at hq2
    .obtain⟨a,_,e⟩:=bZ.1 hq2;cases e;exact fO _ _
    .cases hq2
  grind
 .funext s
  unfold bC;rcases kP s with⟨y,rfl⟩|⟨y,b,rfl⟩|hns
  .rw[Sg.cM,Sg.cM,wR];unfold aU.up;rw[I8];cases hl:W.lookup y with
   |none=>rfl
   |some ob=>rfl
  .rw[Sg.fW,Sg.fW,wi y b hW hn];unfold aU.up;rw[I8];cases hl:W.lookup y with
   |none=>rfl
   |some ob=>
    show(match((SOb.inner b ob).map some:Option (Option Ob))with|some x=>x|none=>(σ y).bind (SOb.inner b))=SOb.inner b ob;cases hi:SOb.inner b ob with
    |some o=>rfl
    |none=>grind
  .rw[Sg.js _ hns,Sg.js _ hns,w7 hns]
def mu(n y:Nat):Nat:=n+NM*(y+1)
def muR(n:Nat):Rf:=λs=>if inn (nm s) (sub s)=s then(if mu n (nm s/NM-1)=nm s then some (some (inn (nm s/NM-1) (sub s)))else none)else none
def GY{n:Nat}(hn:n<NM)(y:Nat):mu n y/NM-1=y:=by unfold mu;rw[Nat.add_mul_div_left _ _ (by grind),Nat.div_eq_of_lt hn];omega
def Pi{n:Nat}(hn:n<NM)(y:Nat):ncl (mu n y)=n:=by unfold ncl mu;rw[Nat.add_mul_mod_self_left,dZ hn]
def aAL{n y z:Nat}(hn:n<NM)(h:mu n y=mu n z):y=z:=by rw[<-GY hn y,h,GY hn z]
def zy{n:Nat}(hn:n<NM):vF (muR n) (mu n):=by intro y a;unfold muR;rw[sk,sU,if_pos rfl,GY hn,if_pos rfl]
def Ew{n s:Nat}{x:Option Nat}(h:muR n s=some x):∃y a,s=inn (mu n y) a/\x=some (inn y a):=by
 unfold muR at h;split at h
 .rename_i h1;split at h
  .rename_i h2;cases h;grind
  .cases h
 .cases h
def vJ:List Nat->Nat->Bool
 |[],_=>false
 |x::l,s=>match bH s x with|true=>true|false=>vJ l s
def AY{s:Nat}:∀{l:List Nat},vJ l s=false->s∉l
 |[],_=>cn
 |x::l,h=>by
  unfold vJ at h;cases hb:bH s x with
  |true=>grind
  |false=>
   rw[hb]at h;intro hm;rcases bT.1 hm with rfl|hm
   .simp_all
   .exact AY h hm
def Bh(σ:Sg)(n:Nat):aU->Option (List (Nat×SOb))
 |[] =>some []
 |(y,some ob)::W=>(match nC ob,σ (mu n y),vJ (W.map (·.1)) y,Bh σ n W with
  |true,none,false,some l=>some ((mu n y,ob.ren (mu n))::l)
  |_,_,_,_=>none)
 |_::_=>none
def Xp{f:Nat->Nat}{ob:SOb}(h:nC ob=true):nC (ob.ren f)=true:=by
 cases ob<;>first|exact h|skip
 rename_i ty ity t L ov;have:ov=[] :=IT.1 h;subst this;rfl
def V9{f:Nat->Nat}{ob:SOb}(h:nC ob=true)(a:Nat):(ob.ren f).inner a=ob.inner a:=by
 cases ob<;>first|rfl|skip
 rename_i ty ity t L ov;have:ov=[] :=IT.1 h;subst this;rfl
def JI{σ:Sg}{n:Nat}(hn:n<NM):∀{W:aU} {l:List (Nat×SOb)},Bh σ n W=some l->
  (∀q∈l,nC q.2=true/\σ q.1=none)/\(l.map (·.1)).Nodup/\l.map (·.1)=W.map (λq=>mu n q.1)/\∀z obr,l.lookup z=some obr->∃y ob,z=mu n y/\obr=ob.ren (mu n)/\nC ob=true/\aU.at W y=some ob
 |[],l,h=>by cases h;grind
 |(y,none)::W,l,h=>by cases h
 |(y,some ob)::W,l,h=>by
  unfold Bh at h;split at h<;>cases h;rename_i l' h1 h2 h3 h4;obtain⟨g1,g2,g3,g4⟩:=JI hn h4;have hy:=AY h3;have hnot:mu n y∉l'.map (·.1):=by rw[g3];intro hm;obtain⟨q,hq,e⟩:=bZ.1 hm;exact hy (by rw[<-aAL hn e];grind)
  refine⟨λq hq=> ?_,?_,?_,?_⟩
  .rcases bT.1 hq with rfl|hq
   .exact⟨Xp h1,h2⟩
   grind
  .grind
  .grind
  .intro z obr hz;rw[dV]at hz;by_cases e:z=mu n y
   .rw[beq_iff_eq.2 e]at hz;cases hz;exact⟨y,ob,e,rfl,h1,by unfold aU.at;simp_all⟩
   .rw[beq_eq_false_iff_ne.2 e]at hz;obtain⟨y2,ob2,k1,k2,k3,k4⟩:=g4 z obr hz;unfold aU.at;have:bH y2 y=false:=by
     cases hb:bH y2 y with
     |false=>rfl
     |true=>simp_all
    grind
def vN:SV->Option Nat
 | .fnp f [] [] =>some f
 |_=>none
def Gp(X:Cx)(n:Nat)(σ:Sg)(fv:SV)(xs:List SV):SR:=match vN fv with
 |none=>none
 |some f=>(match X.T f with
  |some ⟨_,dec,pre,.tree res obs⟩=>(match bM (avs xs),dec xs,ib n NM with
   |some _,some x,true=>(match Bh σ n (obs x)with
    |some l=>some (pre x,(res x).ren (mu n),[],l.map λq=>(q.1,some q.2))
    |none=>none)
   |_,_,_=>none)
  |_=>none)
def A3{fv:SV}{f:Nat}(h:vN fv=some f):fv.av= .p (.fn (.func f) [] []):=by unfold vN at h;split at h<;>cases h;rfl
def mY(P:Program)(n:Nat)(o:Oper)(E:SE)(σ:Sg)(R:SR):Prop:=
 ∀ps r rd W,R=some (ps,r,rd,W)->(∀p∈ps,p)->(∃R' W',bR P o E.a σ.a n r.av R' W'/\bY σ rd W R' W')/\r.ok
def XQ{X:Cx}(hX:X.Ok){n:Nat}{o:Oper}{E:SE}{σ:Sg}{c:Call}{f:Operand}(ho:o.op= .call c)(hc:c.callee= .value f):mY X.P n o E σ (u6 (Gp X n σ (E f) (c.args.toList.map E))):=by
 intro ps r rd W h hp;obtain⟨h,hr⟩:=De h;refine⟨?_,hr⟩;unfold Gp at h;split at h
 .cases h
 rename_i fid hf;split at h
 case h_2=>cases h
 rename_i Y dec pre res obs hT;split at h
 case h_2=>cases h
 rename_i A' x hA' hx hn;split at h<;>cases h;rename_i l hl;have hn:n<NM:=mA hn;obtain⟨A,h1,h2⟩:=hX.1 fid _ hT _ x hx hp;obtain⟨g1,g2,g3,g4⟩:=JI hn hl;have avl:avs (c.args.toList.map E)=c.args.toList.map E.a:=by rw[jA,dq];rfl
 refine⟨[],qA l,?_,bY.news (by grind) g2 (by grind)⟩;have hinner:∀{ob:SOb} {a:Nat} {o':Ob},ob.inner a=some o'->∃(ity:TypeId) (wd:Nat) (q:List PV),wd≠0/\o'=⟨ity,wd,q.map .p⟩:=by
  intro ob a o' hi;cases ob<;>try (cases hi;done)
  rename_i ty ity t L ov;unfold SOb.inner at hi;dsimp only at hi;split at hi
  .cases hi
  .cases hL:L[a]? with
   |none=>grind
   |some r=>rw[hL]at hi;cases hi;exact⟨ity,t.w,_,nk t.kU,rfl⟩
 have hcls:∀z∈l.map (·.1),ncl z=n:=by intro z hz;rw[g3]at hz;obtain⟨q,_,rfl⟩:=bZ.1 hz;exact Pi hn _
 refine Wy (A:=A) (m1:=muR n) ho hc (by exact A3 hf) (by rw[<-avl,h1,dU]) h2 ?_ ?_ ⟨?_,?_⟩ ?_ (NT (zy hn) _)
 .intro s x hs;obtain⟨y,a,rfl,_⟩:=Ew hs;rw[fO,Pi hn]
 .intro s hs;rcases kP s with⟨z,rfl⟩|⟨z,b,rfl⟩|hno
  .rw[wR]at hs|-;refine⟨by rw[show cls (aR z)=ncl z from fO z 0];grind,?_⟩;cases hl2:l.lookup z with
   |none=>grind
   |some ob=>simp
  .rw[wi z b (by grind) g2]at hs|-;refine⟨by rw[fO];grind,?_⟩;cases(l.lookup z).bind (SOb.inner b)<;>simp
  .exact absurd (w7 hno l) hs
 .intro s s' o1 e1 e2;obtain⟨y,a,rfl,k1⟩:=Ew e1;obtain⟨y',a',rfl,k2⟩:=Ew e2;rw[mj k1]at k2;obtain⟨rfl,rfl⟩:=fL (mj k2);rfl
 .intro s ob' hs;dsimp only at hs;rcases kP s with⟨z,rfl⟩|⟨z,b,rfl⟩|hno
  .rw[wR]at hs;cases hl2:l.lookup z with
   |none=>grind
   |some obr=>
    rw[hl2]at hs;cases hs;obtain⟨y,ob,rfl,rfl,k3,k4⟩:=g4 z obr hl2;rw[(zy hn).n y];exact⟨ob.ob y,by rw[Sg.cM,k4];rfl,WA (zy hn) y k3⟩
  .rw[wi z b (by grind) g2]at hs;cases hl2:l.lookup z with
   |none=>grind
   |some obr=>
    rw[hl2]at hs;obtain⟨y,ob,rfl,rfl,k3,k4⟩:=g4 z obr hl2;have hs:((SOb.inner b (ob.ren (mu n))).map some).join=some ob':=hs;rw[V9 k3]at hs;cases hi:ob.inner b with
    |none=>grind
    |some o'=>
     rw[hi]at hs;cases hs;rw[zy hn y (b+1)];refine⟨ob',by rw[Sg.fW,k4];exact hi,?_⟩;obtain⟨ity,wd,q,_,rfl⟩:=hinner hi;exact⟨rfl,rfl,j5 _ q⟩
  .rw[w7 hno]at hs;cases hs
 .intro s ob' hs;rcases kP s with⟨z,rfl⟩|⟨z,b,rfl⟩|hno
  .rw[wR]at hs;cases hl2:l.lookup z with
   |none=>grind
   |some obr=>
    rw[hl2]at hs;cases hs;obtain⟨y,ob,rfl,rfl,k3,k4⟩:=g4 z obr hl2;cases ob with
    |box ty cs=>
     intro⟨_,e⟩;subst e;cases k3
    |arr ty ez cs=>
     intro⟨e,_⟩;subst e;cases k3
    |row ty t l=>intro⟨e,_⟩;exact absurd e (nk t.kU)
    |fam ty ity t L ov=>intro⟨e,_⟩;cases e
    |mp ks=>intro⟨_,e⟩;cases e
  .rw[wi z b (by grind) g2]at hs;cases hb:(l.lookup z).bind (SOb.inner b)with
   |none=>grind
   |some o'=>
    rw[hb]at hs;obtain⟨ob,_,hi⟩:=qQ.1 hb;grind
  .rw[w7 hno]at hs;cases hs
def kX(f:SV->Option SV):List SV->Option (List SV)
 |[] =>some []
 |x::l=>(match f x,kX f l with|some y,some m=>some (y::m)|_,_=>none)
def km:Nat->Sg->SV->Option SV
 |_,_,.nil=>some (.sl 0 [])
 |_,_,.own .. =>some .junk
 |_,_,.owns .. =>some .junk
 |_,_,.ownx .. =>some .junk
 |_,_,.owF .. =>some .junk
 |_,_,.ownf .. =>some .junk
 |_,_,.any=>some .junk
 |0,_,.ptr .. =>some .junk
 |d+1,σ,.ptr s off=>(match σ s with
  |some (.box _ cs)=>(match kX (km d σ) cs with|some m=>some (.pro m off)|none=>none)
  |_=>none)
 |d+1,σ,.agg l=>(match kX (km d σ) l with|some m=>some (.agg m)|none=>none)
 |d+1,σ,.fn f a b=>(match kX (km d σ) a,kX (km d σ) b with|some x,some y=>some (.fnp f x y)|_,_=>none)
 |_,_,x=>(match x.av with| .p _=>some x|_=>none)
def iJ:Nat->Sg->SV->List Nat
 |0,_,_=>[]
 |d+1,σ,.ptr s _=>s::(match σ s with|some (.box _ cs)=>bO (iJ d σ) cs|_=>[])
 |d+1,σ,.agg l=>bO (iJ d σ) l
 |d+1,σ,.fn _ a b=>bO (iJ d σ) a++bO (iJ d σ) b
 |_,_,_=>[]
def FV(d:Nat)(σ:Nat->Option Ob)(x:PV):gu d σ (.p x)=some x:=by cases d<;>rfl
def Oq(d:Nat)(σ:Nat->Option Ob):∀l:List PV,dj (gu d σ) (l.map .p)=some l
 |[] =>rfl
 |x::l=>by simp only[dB,dj,FV,Oq d σ l]
def Ff(d:Nat)(σ:Nat->Option Ob)(x:PV):fg d σ (.p x)=[] :=by cases d<;>rfl
def OG(d:Nat)(σ:Nat->Option Ob):∀l:List PV,bO (fg d σ) (l.map .p)=[]
 |[] =>rfl
 |x::l=>by simp only[dB,bO,Ff,OG d σ l,List.append_nil]
def To{d:Nat}{σ:Sg}{x:SV}{y:SV}(h:(match x.av with| .p _=>some x|_=>none)=some y):(∃q,gu d σ.a x.av=some q/\y.av= .p q)/\fg d σ.a x.av=[] :=by split at h<;>cases h;rename_i q e;rw[e];exact⟨⟨q,FV _ _ _,rfl⟩,Ff _ _ _⟩
def JQ{d:Nat}{σ:Sg}{x:SV}{y:SV}(h:(match x.av with| .p _=>some x|_=>none)=some y)(hr:iJ d σ x=[]):(∃q,gu d σ.a x.av=some q/\y.av= .p q)/\fg d σ.a x.av=(iJ d σ x).map aR:=by rw[hr];exact To h
def JOk(d:Nat)(σ:Sg):Prop:=∀x y,km d σ x=some y->(∃q,gu d σ.a x.av=some q/\y.av= .p q)/\fg d σ.a x.av=(iJ d σ x).map aR
def pc{d:Nat}{σ:Sg}(hf:JOk d σ):∀{l m:List SV},kX (km d σ) l=some m->(∃q,dj (gu d σ.a) (avs l)=some q/\avs m=q.map .p)/\bO (fg d σ.a) (avs l)=(bO (iJ d σ) l).map aR
 |[],m,h=>by cases h;exact⟨⟨[],rfl,rfl⟩,rfl⟩
 |x::l,m,h=>by
  unfold kX at h;split at h<;>cases h;rename_i y m' h1 h2;obtain⟨⟨u,e1,e2⟩,e3⟩:=hf x y h1;obtain⟨⟨v,e4,e5⟩,e6⟩:=pc hf h2;refine⟨⟨u::v,?_,by rw[avs,e2,e5];rfl⟩,?_⟩
  .rw[avs,dj,e1,e4]
  .rw[avs,bO,bO,e3,e6,dM]
def ze{σ:Sg}:∀d:Nat,JOk d σ:=by
 intro d;induction d with
 |zero=>
  intro x y h;cases x<;>first
   |(change some (SV.sl 0 [])=some y at h;cases h;exact⟨⟨.sl 0 [],rfl,rfl⟩,rfl⟩)
   |(change some SV.junk=some y at h;cases h;exact⟨⟨.junk,rfl,rfl⟩,rfl⟩)
   |exact JQ h rfl
 |succ d ih=>
  intro x y h;cases x with
  |nil=>cases h;exact⟨⟨.sl 0 [],rfl,rfl⟩,rfl⟩
  |own s t n=>cases h;exact⟨⟨.junk,rfl,rfl⟩,rfl⟩
  |owns s t o n=>cases h;exact⟨⟨.junk,rfl,rfl⟩,rfl⟩
  |ownx s n=>cases h;exact⟨⟨.junk,rfl,rfl⟩,rfl⟩
  |owF s n=>cases h;exact⟨⟨.junk,rfl,rfl⟩,rfl⟩
  |ownf s t a n=>cases h;exact⟨⟨.junk,rfl,rfl⟩,rfl⟩
  |any=>cases h;exact⟨⟨.junk,rfl,rfl⟩,rfl⟩
  |ptr s off=>
   change (match σ s with|some (.box _ cs)=>(match kX (km d σ) cs with|some m=>some (SV.pro m off)|none=>none)|_=>none)=_ at h;split at h
   case h_2=>cases h
   rename_i ty cs hs;split at h<;>cases h;rename_i m hm;obtain⟨⟨q,e1,e2⟩,e3⟩:=pc ih hm;have e0:Sg.a σ (aR s)=some ⟨ty,0,avs cs⟩:=by rw[Sg.cM,hs];rfl
   refine⟨⟨.pro q off,?_,by show(match bM (avs m)with|some q=>AV.p (.pro q off)|none=> .any)=_;rw[e2,dU]⟩,?_⟩
   .show gu (d+1) (Sg.a σ) (.ptr (aR s) off)=_;unfold gu;grind
   .show fg (d+1) (Sg.a σ) (.ptr (aR s) off)=_;unfold fg iJ;grind
  |agg l=>
   change (match kX (km d σ) l with|some m=>some (SV.agg m)|none=>none)=_ at h;split at h<;>cases h;rename_i m hm;obtain⟨⟨q,e1,e2⟩,e3⟩:=pc ih hm;refine⟨⟨.agg q,?_,by show eR (avs m)=_;rw[e2,ry]⟩,?_⟩
   .show gu (d+1) (Sg.a σ) (eR (avs l))=_;unfold eR;cases hq:bM (avs l)with
    |some q'=>
     rw[i9 hq,Oq]at e1;cases e1;exact FV _ _ _
    |none=>unfold gu;rw[e1];rfl
   .show fg (d+1) (Sg.a σ) (eR (avs l))=(bO (iJ d σ) l).map aR;rw[<-e3];unfold eR;cases hq:bM (avs l)with
    |some q'=>rw[i9 hq,OG];exact Ff _ _ _
    |none=>rfl
  |fn f a b=>
   change (match kX (km d σ) a,kX (km d σ) b with|some x,some y=>some (SV.fnp f x y)|_,_=>none)=_ at h;split at h<;>cases h;rename_i x y h1 h2;obtain⟨⟨u,e1,e2⟩,e3⟩:=pc ih h1;obtain⟨⟨v,e4,e5⟩,e6⟩:=pc ih h2;refine⟨⟨.fn (.func f) u v,?_,by show(match bM (avs x),bM (avs y)with|some x,some y=>AV.p (.fn (.func f) x y)|_,_=> .any)=_;rw[e2,e5,dU,dU]⟩,?_⟩
   .show gu (d+1) (Sg.a σ) (.fn (.func f) (avs a) (avs b))=_;unfold gu;grind
   .show bO (fg d σ.a) (avs a)++bO (fg d σ.a) (avs b)=(bO (iJ d σ) a++bO (iJ d σ) b).map aR;grind
  |_=>exact JQ h rfl
def I7(l:List Nat):inC (l.map aR) (l.map ncl):=by intro s hs;obtain⟨x,hx,rfl⟩:=bZ.1 hs;rw[show cls (aR x)=ncl x from fO x 0];grind
def rG:LT->Bool
 | .R| .Q=>false
 |_=>true
def EO{t:LT}(h:rG t=true)(l:List t.ty):(t.enc l).all flat1=true:=by
 refine bk.2 λx hx=> ?_;obtain⟨e,_,hx⟩:=cZ.1 hx;cases t<;>first|(cases h;done)|skip
 all_goals (simp[LT.rowP]at hx;rcases hx with rfl|rfl|rfl|rfl<;>rfl)
def bY.rset{σ:Sg}{z a:Nat}{ty ity:TypeId}{lt:LT}{L:List (List lt.ty)}{ov:List (Nat×SV)}{l':List lt.ty}{rd R:List Nat}(hs:σ z=some (.fam ty ity lt L ov))(ho:ov.lookup a=none)(ha:a<L.length)(hl:l'.length=(L.getD a []).length)(hR:inC R (rd.map ncl)):
  bY σ rd [(z,some (.fam ty ity lt (L.set a l') ov))] R [(inn z (a+1),some ⟨ity,lt.w,(lt.enc l').map .p⟩)] :=by
 refine⟨hR,λs hm=> ?_,?_⟩
 .have hm:s=inn z (a+1):=by simpa using hm
  subst hm;rw[fO];grind
 .funext s
  unfold bC;rcases kP s with⟨y,rfl⟩|⟨y,b,rfl⟩|hno
  .rw[Sg.cM,Sg.cM,dV,beq_eq_false_iff_ne.2 (show aR y≠inn z (a+1)from λh=>by have:=(fL h).2;omega)];unfold aU.up;rw[dV];by_cases e:y=z
   .subst e;rw[beq_iff_eq.2 rfl,hs];show some (⟨ty,1,_⟩:Ob)=some ⟨ty,1,_⟩
    congr 2
    rw[vw];unfold i5;grind
   grind
  .rw[Sg.fW,Sg.fW,dV];unfold aU.up;rw[dV];by_cases e:y=z
   .subst e;rw[beq_iff_eq.2 rfl,hs];by_cases hb:b=a
    .subst hb;rw[beq_iff_eq.2 rfl];unfold SOb.inner;grind
    .rw[beq_eq_false_iff_ne.2 (show inn y (b+1)≠inn y (a+1)from λh=>hb (by have:=(fL h).2;omega))];unfold SOb.inner;grind
   .rw[beq_eq_false_iff_ne.2 e,beq_eq_false_iff_ne.2 (show inn y (b+1)≠inn z (a+1)from λh=>e (fL h).1)];rfl
  .rw[Sg.js _ hno,Sg.js _ hno,dV,beq_eq_false_iff_ne.2 (hno z (a+1))];rfl
def Gr(X:Cx)(n:Nat)(σ:Sg)(fv:SV)(xs:List SV):SR:=match vN fv with
 |none=>none
 |some f=>(match X.T f with
  |some ⟨_,dec,pre,.rowB t ty l'⟩=>(match xs with
   | .own s _ m::rest=>(match σ s,kX (km 3 σ) rest,frs σ n,vJ (bO (iJ 3 σ) rest) s with
     |some (.row ty' t' l),some bs,true,false=>(match decEq t' t,bH ty' ty with
      | .isTrue h,true=>(match dec (.lst t (h▸l)::bs)with
        |some x=>some ((m=l.length)::(0<m)::pre x,.own n t (l' x).length,s::bO (iJ 3 σ) rest,[(s,none),(n,some (.row ty t (l' x)))])
        |none=>none)
      |_,_=>none)
     |_,_,_,_=>none)
   | .ownf z _ a m::rest=>(match σ z,kX (km 3 σ) rest,frs σ n with
     |some (.fam tyo ity t' L ov),some bs,true=>(match decEq t' t,bH ity ty with
      | .isTrue h,true=>(match dec (.lst t ((h▸L:List (List t.ty)).getD a [])::bs)with
        |some x=>some ((a<L.length)::(m=(L.getD a []).length)::(0<m)::(mV ov a++pre x),.own n t (l' x).length,z::bO (iJ 3 σ) rest,[(z,some (.fam tyo ity t' L ((a,.ownf z t' a m)::ov))),(n,some (.row ty t (l' x)))])
        |none=>none)
      |_,_=>none)
     |_,_,_=>none)
   |_=>none)
  |_=>none)
def Ys(x:SV)(l:List SV):avs (x::l)=x.av::avs l:=rfl
def XT{X:Cx}(hX:X.Ok){n:Nat}{o:Oper}{E:SE}{σ:Sg}{c:Call}{f:Operand}(ho:o.op= .call c)(hc:c.callee= .value f):mY X.P n o E σ (Gr X n σ (E f) (c.args.toList.map E)):=by
 intro ps r rd W h hp;unfold Gr at h;split at h
 .cases h
 rename_i fid hf;split at h
 case h_2=>cases h
 rename_i Y dec pre t ty l' hT;have hfv:E.a f= .p (.fn (.func fid) [] []):=A3 hf;have avl:c.args.toList.map E.a=avs (c.args.toList.map E):=by rw[jA,dq];rfl
 have hC:=hX.1 fid _ hT;split at h
 .rename_i s lt m rest hxs;split at h
  case h_2=>cases h
  rename_i ty' t' l bs hs hbs hfr hmem;split at h
  case h_2=>cases h
  rename_i ht hty hb;subst ht;split at h<;>cases h;rename_i x hx;have hb:=dI hb;subst hb;have e1:m=l.length:=hp _ (by grind);have e2:0<m:=hp _ (by grind);obtain⟨A,h1,h2⟩:=hC l bs x hx (by grind);obtain⟨⟨q,k1,k2⟩,k3⟩:=pc (ze 3) hbs;have hqA:q=A:=by have:=congrArg bM (k2.symm.trans h1);rw[dU,dU]at this;cases this;rfl
  subst hqA;obtain⟨hn1,hn2⟩:=mL hfr;subst e1;refine⟨⟨(s::bO (iJ 3 σ) rest).map aR,aU.sto [(s,none),(n,some (.row ty' t' (l' x)))],?_,?_⟩,trivial⟩
  rotate_left
  .exact bY.flat (rd:=s::bO (iJ 3 σ) rest) (W:=[(s,none),(n,some (.row ty' t' (l' x)))]) λq hq=>by
    rcases bT.1 hq with rfl|hq
    .rw[hs];exact⟨rfl,rfl⟩
    .rw[bi.1 hq,hn2];exact⟨rfl,rfl⟩
  have:=K8 (σ:=σ.a) (n:=n) (k:=l.length) (s:=aR s) (rest:=avs rest) (A:=q) ho hc hfv (by rw[avl,hxs];rfl) (by rw[Sg.cM,hs];rfl) (nk t'.kU) e2 k1 (by rw[k3];intro hm;obtain⟨y,hy,e⟩:=bZ.1 hm;exact AY hmem (by rw[<-lM e];exact hy)) h2
  rw[k3]at this;show bR _ _ _ _ _ _ (aR s::_) [(aR s,none),(aR n,some _)];show bR _ _ _ _ _ (.own (aR n) 0 _) _ _;rw[hn1];exact this
 .rename_i z lt a m rest hxs;split at h
  case h_2=>cases h
  rename_i tyo ity t' L ov bs hs hbs hfr;split at h
  case h_2=>cases h
  rename_i ht hty hb;subst ht;split at h<;>cases h;rename_i x hx;have hb:=dI hb;subst hb;have e0:a<L.length:=hp _ (by grind);have e1:m=(L.getD a []).length:=hp _ (by grind);have e2:0<m:=hp _ (by grind);have hov:ov.lookup a=none:=sH λp hq=>hp p (by grind);obtain⟨A,h1,h2⟩:=hC _ bs x hx (λp hq=>hp p (by grind));obtain⟨⟨q,k1,k2⟩,k3⟩:=pc (ze 3) hbs;have hqA:q=A:=by have:=congrArg bM (k2.symm.trans h1);rw[dU,dU]at this;cases this;rfl
  subst hqA;obtain⟨hn1,hn2⟩:=mL hfr;have hob:Sg.a σ (inn z (a+1))=some ⟨ity,t'.w,(t'.enc (L.getD a [])).map .p⟩:=by rw[Sg.fW,hs];show SOb.inner a (.fam tyo ity t' L ov)=_;unfold SOb.inner;dsimp only;rw[hov,du,dp e0];rfl
  refine⟨⟨inn z (a+1)::bO (fg 3 σ.a) (avs rest),_,?_,bY.take (n:=n) (ob:= .row ity t' (l' x)) hs hov e1 hn2 rfl ?_⟩,trivial⟩
  .have:=K8 (σ:=σ.a) (n:=n) (k:=m) (s:=inn z (a+1)) (rest:=avs rest) (A:=q) ho hc hfv (by rw[avl,hxs];rfl) hob (nk t'.kU) e2 k1 (by rw[k3];intro hm;obtain⟨y,hy,e⟩:=bZ.1 hm;have:=(fL e).2;omega) (by rw[e1];exact h2)
   show bR _ _ _ _ _ (.own (aR n) 0 _) _ [(inn z (a+1),none),(aR n,some _)];rw[hn1];exact this
  .intro t ht;rcases bT.1 ht with rfl|ht
   .rw[fO];grind
   .rw[k3]at ht;exact cE _ (I7 _ t ht)
 .cases h
def Gq(X:Cx)(σ:Sg)(fv:SV)(xs:List SV):SR:=match vN fv with
 |none=>none
 |some f=>(match X.T f with
  |some ⟨_,dec,pre,.mutR t ty l'⟩=>(match(match rG t with|true=>xs|false=>[])with
   | .own s _ m::rest=>(match σ s,kX (km 3 σ) rest,vJ (bO (iJ 3 σ) rest) s with
     |some (.row ty' t' l),some bs,false=>(match decEq t' t,bH ty' ty with
      | .isTrue h,true=>(match dec (.lst t (h▸l)::bs)with
        |some x=>some ((m=l.length)::(0<m)::pre x,.undef,s::bO (iJ 3 σ) rest,[(s,some (.row ty t (l' x)))])
        |none=>none)
      |_,_=>none)
     |_,_,_=>none)
   | .ownf z _ a m::rest=>(match σ z,kX (km 3 σ) rest with
     |some (.fam tyo ity t' L ov),some bs=>(match decEq t' t,bH ity ty with
      | .isTrue h,true=>(match dec (.lst t ((h▸L:List (List t.ty)).getD a [])::bs)with
        |some x=>some ((a<L.length)::(m=(L.getD a []).length)::(0<m)::(mV ov a++pre x),.undef,z::bO (iJ 3 σ) rest,[(z,some (.fam tyo ity t ((h▸L:List (List t.ty)).set a (l' x)) ov))])
        |none=>none)
      |_,_=>none)
     |_,_=>none)
   |_=>none)
  |_=>none)
def XS{X:Cx}(hX:X.Ok){n:Nat}{o:Oper}{E:SE}{σ:Sg}{c:Call}{f:Operand}(ho:o.op= .call c)(hc:c.callee= .value f):mY X.P n o E σ (Gq X σ (E f) (c.args.toList.map E)):=by
 intro ps r rd W h hp;unfold Gq at h;split at h
 .cases h
 rename_i fid hf;split at h
 case h_2=>cases h
 rename_i Y dec pre t ty l' hT;have hfv:E.a f= .p (.fn (.func fid) [] []):=A3 hf;have avl:c.args.toList.map E.a=avs (c.args.toList.map E):=by rw[jA,dq];rfl
 have hC:=hX.1 fid _ hT;have hfl:rG t=true/\(match rG t with|true=>c.args.toList.map E|false=>[])=c.args.toList.map E\/(match rG t with|true=>c.args.toList.map E|false=>[])=[] :=by
  cases rG t
  .grind
  .grind
 generalize (match rG t with|true=>c.args.toList.map E|false=>[])=ys at h hfl;rcases hfl with⟨hfl,rfl⟩|rfl
 rotate_left
 .cases h
 split at h
 .rename_i s lt m rest hxs;split at h
  case h_2=>cases h
  rename_i ty' t' l bs hs hbs hmem;split at h
  case h_2=>cases h
  rename_i ht hty hb;subst ht;split at h<;>cases h;rename_i x hx;have hb:=dI hb;subst hb;have e1:m=l.length:=hp _ (by grind);have e2:0<m:=hp _ (by grind);obtain⟨A,h1,h2⟩:=hC l bs x hx (by grind);obtain⟨⟨q,k1,k2⟩,k3⟩:=pc (ze 3) hbs;have hqA:q=A:=by have:=congrArg bM (k2.symm.trans h1);rw[dU,dU]at this;cases this;rfl
  subst hqA;subst e1;refine⟨⟨(s::bO (iJ 3 σ) rest).map aR,aU.sto [(s,some (.row ty' t' (l' x)))],?_,?_⟩,trivial⟩
  rotate_left
  .exact bY.flat (rd:=s::bO (iJ 3 σ) rest) (W:=[(s,some (.row ty' t' (l' x)))]) λq hq=>by rw[bi.1 hq,hs];exact⟨rfl,rfl⟩
  have:=K6 (σ:=σ.a) (n:=n) (k:=l.length) (s:=aR s) (rest:=avs rest) (A:=q) ho hc hfv (by rw[avl,hxs];rfl) (by rw[Sg.cM,hs];rfl) (nk t'.kU) e2 k1 (by rw[k3];intro hm;obtain⟨y,hy,e⟩:=bZ.1 hm;exact AY hmem (by rw[<-lM e];exact hy)) (EO hfl _) h2
  rw[k3]at this;exact this
 .rename_i z lt a m rest hxs;split at h
  case h_2=>cases h
  rename_i tyo ity t' L ov bs hs hbs;split at h
  case h_2=>cases h
  rename_i ht hty hb;subst ht;split at h<;>cases h;rename_i x hx;have hb:=dI hb;have e0:a<L.length:=hp _ (by grind);have e1:m=(L.getD a []).length:=hp _ (by grind);have e2:0<m:=hp _ (by grind);have hov:ov.lookup a=none:=sH λp hq=>hp p (by grind);obtain⟨A,h1,h2⟩:=hC _ bs x hx (λp hq=>hp p (by grind));obtain⟨⟨q,k1,k2⟩,k3⟩:=pc (ze 3) hbs;have hqA:q=A:=by have:=congrArg bM (k2.symm.trans h1);rw[dU,dU]at this;cases this;rfl
  have hob:Sg.a σ (inn z (a+1))=some ⟨ity,t'.w,(t'.enc (L.getD a [])).map .p⟩:=by rw[Sg.fW,hs];show SOb.inner a (.fam tyo ity t' L ov)=_;unfold SOb.inner;dsimp only;rw[hov,du,dp e0];rfl
  have hlen:(l' x).length=(L.getD a []).length:=by have:=h2.2.1;rw[t'.wide.length,t'.wide.length]at this;exact Nat.eq_of_mul_eq_mul_right t'.kU this
  refine⟨⟨inn z (a+1)::bO (fg 3 σ.a) (avs rest),_,?_,bY.rset (l':=l' x) hs hov e0 hlen ?_⟩,trivial⟩
  .exact K6 (σ:=σ.a) (n:=n) (k:=m) (s:=inn z (a+1)) (rest:=avs rest) (A:=q) ho hc hfv (by rw[avl,hxs];rfl) hob (nk t'.kU) e2 k1 (by rw[k3];intro hm;obtain⟨y,hy,e⟩:=bZ.1 hm;have:=(fL e).2;omega) (EO hfl _) (by grind)
  .intro t ht;rcases bT.1 ht with rfl|ht
   .rw[fO];grind
   .rw[k3]at ht;exact cE _ (I7 _ t ht)
 .cases h
def Bp:SV->Option (Nat×Nat)
 | .agg l=>LT.P.dec l
 |_=>none
def kF(k:Nat×Nat):List Int:=[(k.1:Int),(k.2:Int)]
def Lx{x:SV}{k:Nat×Nat}(h:Bp x=some k):x.av= .p (.agg (ky (kF k))):=by
 unfold Bp at h;split at h
 .have:=LT.x4 h;show eR (avs _)=_;rw[this,ry];rfl
 .cases h
def kY(ks:List (Nat×Nat))(k:Nat×Nat):List (Nat×Nat):=if k∈ks then ks else ks++[k]
def MJ{k l:Nat×Nat}(h:kF k=kF l):k=l:=by unfold kF at h;grind
def KD(k:Nat×Nat):∀ks:List (Nat×Nat),oW (gY ks) (kF k) (.p (.bool false))= .p (.bool (decide (k∈ks)))
 |[] =>rfl
 |l::ks=>by
  show(if kF l=kF k then AV.p (.bool true)else oW (gY ks) (kF k) (.p (.bool false)))=_;by_cases e:l=k
  .grind
  .rw[if_neg (λh=>e (MJ h)),KD k ks];grind
def LX(k:Nat×Nat):∀ks:List (Nat×Nat),kD (gY ks) (kF k) (.p (.bool true))=gY (kY ks k)
 |[] =>rfl
 |l::ks=>by
  show(if kF l=kF k then(kF k,AV.p (.bool true))::gY ks else(kF l,AV.p (.bool true))::kD (gY ks) (kF k) (.p (.bool true)))=_;by_cases e:l=k
  .subst e;rw[if_pos rfl];unfold kY;rw[if_pos (by grind)];rfl
  .rw[if_neg (λh=>e (MJ h)),LX k ks];have:k≠l:=λh=>e h.symm;unfold kY;by_cases h2:k∈ks
   .rw[if_pos h2,if_pos (by grind)];rfl
   .rw[if_neg h2,if_neg (by grind)];rfl
def KE{ks:List (Nat×Nat)}(h:ks.Nodup):rQ (gY ks):=by unfold rQ gY;grind
def LY{ks:List (Nat×Nat)}:∀q∈gY ks,q.1.length=2:=by intro q hq;obtain⟨k,_,rfl⟩:=bZ.1 hq;rfl
def smk(X:Cx)(n:Nat)(σ:Sg)(t:TypeId):SR:=match X.mt t,frs σ n with
 |true,true=>some ([],.mp n,[],[(n,some (.mp []))])
 |_,_=>none
def aAu{X:Cx}{n:Nat}{o:Oper}{E:SE}{σ:Sg}{t:TypeId}(ho:o.op= .makeMap t none):mY X.P n o E σ (smk X n σ t):=by intro ps r rd W h hp;unfold smk at h;split at h<;>cases h;rename_i h1 h2;obtain⟨hn1,hn2⟩:=mL h2;refine⟨⟨[],aU.sto [(n,some (.mp []))],?_,bY.flat (rd:=[]) (W:=[(n,some (.mp []))]) λq hq=>by rw[bi.1 hq,hn2];exact⟨rfl,rfl⟩⟩,trivial⟩;have:=T4 (P:=X.P) (E:=E.a) (σ:=σ.a) (n:=n) ho;show bR _ _ _ _ _ (.mp (aR n)) _ [(aR n,some ⟨1,0,[]⟩)];grind
def Gw(X:Cx)(σ:Sg)(t:TypeId)(x i:SV):SR:=match X.mt t,x,Bp i with
 |true,.mp s,some k=>(match σ s with
  |some (.mp ks)=>some ([ks.Nodup],.prop (k∈ks) inferInstance,[s],[])
  |_=>none)
 |_,_,_=>none
def Xa{X:Cx}(hX:X.Ok){n:Nat}{o:Oper}{E:SE}{σ:Sg}{t:TypeId}{x i:Operand}(ho:o.op= .lookup t x i false):mY X.P n o E σ (Gw X σ t (E x) (E i)):=by
 intro ps r rd W h hp;unfold Gw at h;split at h
 case h_2=>cases h
 rename_i s k hmt hx hi;split at h<;>cases h;rename_i ks hs;obtain⟨kt,et,g1,g2,g3⟩:=hX.2.2 t hmt;have hnd:ks.Nodup:=hp _ (by grind);refine⟨⟨[s].map aR,[],?_,bY.read σ [s]⟩,trivial⟩;have:=Uy (E:=E.a) (σ:=σ.a) (n:=n) (m:=2) (s:=aR s) (ks:=gY ks) (xs:=kF k) (z:= .p (.bool false)) (zv:= .bool false) ho g1 g2 g3 (λρ C=>by rfl) (by show(E x).av=_;rw[hx];rfl) (by exact Lx hi) rfl (by rw[Sg.cM,hs];rfl) LY (KE hnd);rw[KD]at this;exact this
def HW(X:Cx)(σ:Sg)(t:TypeId)(x i y:SV):SR:=match X.mt t,x,Bp i,y with
 |true,.mp s,some k,.lit true=>(match σ s with
  |some (.mp ks)=>some ([ks.Nodup],.undef,[s],[(s,some (.mp (kY ks k)))])
  |_=>none)
 |_,_,_,_=>none
def Y7{X:Cx}(hX:X.Ok){n:Nat}{o:Oper}{E:SE}{σ:Sg}{t:TypeId}{x i y:Operand}(ho:o.op= .mapUpdate t x i y):mY X.P n o E σ (HW X σ t (E x) (E i) (E y)):=by
 intro ps r rd W h hp;unfold HW at h;split at h
 case h_2=>cases h
 rename_i s k hmt hx hi hy;split at h<;>cases h;rename_i ks hs;obtain⟨kt,et,g1,g2,g3⟩:=hX.2.2 t hmt;have hnd:ks.Nodup:=hp _ (by grind);refine⟨⟨[s].map aR,aU.sto [(s,some (.mp (kY ks k)))],?_,bY.flat (rd:=[s]) (W:=[(s,some (.mp (kY ks k)))]) λq hq=>by rw[bi.1 hq,hs];exact⟨rfl,rfl⟩⟩,trivial⟩;have:=TI (E:=E.a) (σ:=σ.a) (n:=n) (m:=2) (s:=aR s) (ks:=gY ks) (xs:=kF k) ho g1 g2 (by show(E x).av=_;rw[hx];rfl) (by exact Lx hi) rfl (by rw[Sg.cM,hs];rfl) LY (KE hnd);rw[show E.a y= .p (.bool true)from by show(E y).av=_;rw[hy];rfl,LX]at this;exact this
def orS(a b:SR):SR:=match a with
 |some x=>some x
 |none=>b
def BS{P:Program}{n:Nat}{o:Oper}{E:SE}{σ:Sg}{a b:SR}(ha:mY P n o E σ a)(hb:mY P n o E σ b):mY P n o E σ (orS a b):=by
 intro ps r rd W h hp;cases a with
 |some x=>exact ha ps r rd W h hp
 |none=>exact hb ps r rd W h hp
def Gu(X:Cx)(n:Nat)(σ:Sg)(fv:SV)(xs:List SV):SR:=match vN fv with
 |none=>none
 |some f=>(match X.T f with
  |some ⟨_,dec,pre,.own ty t l ys⟩=>(match kE (kW 3 σ) xs with
   |some (qs,bs)=>(match dec bs,frs σ n,rG t with
    |some x,true,true=>(match ys x with
     |[] =>some (qs++pre x,.own n t (l x).length,bO (dR 3 σ) xs,[(n,some (.row ty t (l x)))])
     |_=>none)
    |_,_,_=>none)
   |none=>none)
  |_=>none)
def XV{X:Cx}(hX:X.Ok){n:Nat}{o:Oper}{E:SE}{σ:Sg}{c:Call}{f:Operand}(ho:o.op= .call c)(hc:c.callee= .value f):mY X.P n o E σ (Gu X n σ (E f) (c.args.toList.map E)):=by
 intro ps r rd W h hp;unfold Gu at h;split at h
 .cases h
 rename_i fid hf;split at h
 case h_2=>cases h
 rename_i Y dec pre ty t l ys hT;split at h
 case h_2=>cases h
 rename_i qs bs hbs;split at h
 case h_2=>cases h
 rename_i x hx hfr hfl;split at h<;>cases h;rename_i hys;have avl:c.args.toList.map E.a=avs (c.args.toList.map E):=by rw[jA,dq];rfl
 obtain⟨A,Y2,h1,h2,h3⟩:=hX.1 fid _ hT bs x hx (λp hq=>hp p (by grind));obtain⟨q,k1,k2⟩:=xS (λx ps y=>Ei) hbs (λp hq=>hp p (by grind));have hqA:q=A:=by have:=congrArg bM (k2.symm.trans h1);rw[dU,dU]at this;cases this;rfl
 subst hqA;have hY:Y2=[] :=by
  rw[hys]at h2;cases Y2 with
  |nil=>rfl
  |cons y Y2=>cases h2
 subst hY;obtain⟨hn1,hn2⟩:=mL hfr;have:=W4 (σ:=σ.a) (n:=n) ho hc (A3 hf) (by rw[avl];exact k1) (EO hfl _) h3;rw[avl]at this;refine⟨⟨_,aU.sto [(n,some (.row ty t (l x)))],?_,⟨qj (NU 3) _,(bY.flat (rd:=[]) (W:=[(n,some (.row ty t (l x)))]) λq hq=>by rw[bi.1 hq,hn2];exact⟨rfl,rfl⟩).2⟩⟩,trivial⟩;show bR _ _ _ _ _ (.own (aR n) 0 _) _ [(aR n,some _)];rw[hn1];exact this
def HX(X:Cx)(n:Nat)(o:Op)(E:SE)(σ:Sg):SR:=match o with
 | .call {callee:= .value f,args, .. }=>orS (u6 (Gp X n σ (E f) (args.toList.map E))) (orS (Gr X n σ (E f) (args.toList.map E)) (orS (Gq X σ (E f) (args.toList.map E)) (Gu X n σ (E f) (args.toList.map E))))
 | .makeMap t none=>smk X n σ t
 | .lookup t x i false=>Gw X σ t (E x) (E i)
 | .mapUpdate t x i y=>HW X σ t (E x) (E i) (E y)
 |_=>none
def ZA{X:Cx}(hX:X.Ok){n:Nat}{o:Oper}{E:SE}{σ:Sg}:mY X.P n o E σ (HX X n o.op E σ):=by
 generalize ho:o.op=op;unfold HX;split
 .exact BS (XQ hX ho rfl) (BS (XT hX ho rfl) (BS (XS hX ho rfl) (XV hX ho rfl)))
 .exact aAu ho
 .exact Xa hX ho
 .exact Y7 hX ho
 .intro ps r rd W h hp;cases h
def Rn(X:Cx)(raw:Bool)(n:Nat)(o:Op)(E:SE)(σ:Sg):SR:=orS (sop X raw n o E σ) (HX X n o E σ)
def Y9{X:Cx}(hX:X.Ok){raw:Bool}{n:Nat}{o:Oper}{E:SE}{σ:Sg}(hE:∀x,(E x).ok):mY X.P n o E σ (Rn X raw n o.op E σ):=by refine BS ?_ (ZA hX);intro ps r rd W h hp;obtain⟨h1,h2⟩:=aAt hX hE h hp;obtain⟨r',R',W',h3,rfl,h4⟩:=XA h1;grind
end
noncomputable section
def jQ{P:Program}{N:Nat}{ds:List (Option Nat)}{K K':List AV->Sto->jE->Prop}(hK:∀F L log,K F L log->K' F L log):∀{l:List Oper} {i:Nat} {F:List AV} {L:Sto} {log:jE},fA P N ds l i F L log K->fA P N ds l i F L log K'
 |[],i,F,L,log,h=>by unfold fA at*;grind
 |o::rest,i,F,L,log,h=>by
  unfold fA at*;split at h
  .obtain⟨r,R,W,Rc,Wc,h1,i1,i2,h2⟩:=h;exact⟨r,R,W,Rc,Wc,h1,i1,i2,jQ hK h2⟩
  .split at h
   .split at h
    .rename_i e;rw[if_pos e];obtain⟨r,R,W,Rc,Wc,h1,i1,i2,h2⟩:=h;exact⟨r,R,W,Rc,Wc,h1,i1,i2,jQ hK h2⟩
    .rename_i e;rw[if_neg e];exact jQ hK h
   .exact jQ hK h
   .exact h
def tQ.mono{P:Program}{o:Oper}{F:List AV}{L:Sto}{N:Nat}{K K':List AV->Sto->Nat->Prop}(hK:∀F L N,K F L N->K' F L N)(h:tQ P o F L N K):tQ P o F L N K':=
 λC0 B wI a w hS=>zV (h C0 B wI a w hS) λ_ _ ⟨F',L',N',h1,h2⟩=>⟨F',L',N',hK _ _ _ h1,h2⟩
def mx{P:Program}:∀(c:Code) {Q Q':oh} (_:∀e F L N,Q e F L N->Q' e F L N) {F:List AV} {L:Sto} {N:Nat},awp P c Q F L N->awp P c Q' F L N:=by
 intro c;induction c with
 |skip=>intro Q Q' hQ F L N h;exact hQ _ _ _ _ h
 |region id ops draw=>
  intro Q Q' hQ F L N h;rcases h with h|⟨hd,pre,o,h1,h2,h3⟩
  rotate_left
  .exact .inr ⟨hd,pre,o,h1,h2,jQ (λF L log a=>a.mono λF L N=>hQ _ _ _ _) h3⟩
  cases draw with
  |true=>obtain⟨anc,h1,h2,h3,h4⟩:=h;exact .inl ⟨anc,h1,h2,h3,jQ (λF L log ⟨a,b⟩=>⟨a,hQ _ _ _ _ b⟩) h4⟩
  |false=>obtain⟨h1,h2⟩:=h;exact .inl ⟨h1,jQ (λF L log a=>hQ _ _ _ _ a) h2⟩
 |seq a b iha ihb=>
  intro Q Q' hQ F L N h;obtain⟨M,h1,h2⟩:=h;refine⟨M,iha ?_ h1,λF L N hm=> ?_⟩
  .grind
  grind
 |cond c t e iht ihe=>
  intro Q Q' hQ F L N h;obtain⟨b,hb,h1,h2⟩:=h;exact⟨b,hb,λe=>iht hQ (h1 e),λe=>ihe hQ (h2 e)⟩
 |block id c ih=>
  intro Q Q' hQ F L N h;refine ih ?_ h;grind
 |loop c ih=>
  intro Q Q' hQ F L N h;obtain⟨Inv,μ,h1,h2⟩:=h;refine⟨Inv,μ,h1,λF L N hi=>ih ?_ (h2 F L N hi)⟩;grind
 |exit id=>intro Q Q' hQ F L N h;exact hQ _ _ _ _ h
 |ret=>intro Q Q' hQ F L N h;exact hQ _ _ _ _ h
 |rangeFunc f params x y _ _=>intro Q Q' hQ F L N h;exact h.elim
 |scope c ih=>
  intro Q Q' hQ F L N h;refine ih ?_ h;grind
 |label l=>intro Q Q' hQ F L N h;exact hQ _ _ _ _ h
 |goto l=>intro Q Q' hQ F L N h;exact h.elim
 |refuse s=>intro Q Q' hQ F L N h;exact h.elim
def Frm.ok(F:Frm):Prop:=∀t,(F.at t).ok
def aAp(v:Value):(svC v).ok:=by
 unfold svC;split
 .split<;>trivial
 .split<;>trivial
 .unfold svK;split<;>trivial
def Yb{n:Nat}{F:Frm}(h:F.ok)(x:Operand):(tF n F x).ok:=by
 cases x with
 |tmp t=>
  show(match ib t n with|true=>F.at t|false=>SV.any).ok;split
  .exact h t
  .trivial
 |const v=>exact aAp v
 |func f=>trivial
 |global g=>trivial
def Frm.Nm{F:Frm}(h:F.ok){d:Nat}{v:SV}(hv:v.ok):Frm.ok ((d,v)::F):=by
 intro t;rw[Frm.lV];split
 .exact hv
 .exact h t
def oj(n:Nat)(F:Frm)(d:Option Nat)(r:SV):Frm:=match d with
 |none=>F
 |some d=>(match ib d n with|true=>(d,r)::F|false=>F)
def j7(a b:Nat):ib a b=true↔a<b:=by simp_all
def W6{a b:Nat}(h:ib a b=false):¬a<b:=λhh=>by rw[(j7 a b).2 hh]at h;cases h
def Fh{n:Nat}{F:Frm}{d:Option Nat}{r:SV}:eT (F.av n) d r.av=(oj n F d r).av n:=by
 cases d with
 |none=>rfl
 |some d=>
  unfold oj;dsimp only;split
  .rename_i h;exact Frm.aA3 ((j7 _ _).1 h)
  .rename_i h;unfold eT;dsimp only;rw[List.set_eq_of_length_le (by rw[Frm.jM];exact Nat.le_of_not_lt (W6 h))]
def Pre(S:Nat->Prop)(F F':Frm):Prop:=∃pre:Frm,F'=pre++F/\∀q∈pre,S q.1
def gh(L L':aU):Prop:=∃pre:aU,L'=pre++L
def Pre.rfl{S:Nat->Prop}{F:Frm}:Pre S F F:=⟨[],by simp,λq h=>by cases h⟩
def Pre.trans{S:Nat->Prop}{F G H:Frm}(h1:Pre S F G)(h2:Pre S G H):Pre S F H:=by obtain⟨p,rfl,hp⟩:=h1;obtain⟨q,rfl,hq⟩:=h2;exact⟨q++p,by simp,λr hr=>by grind⟩
def Pre.mono{S T:Nat->Prop}{F G:Frm}(h1:Pre S F G)(h:∀d,S d->T d):Pre T F G:=by obtain⟨p,e,hp⟩:=h1;exact⟨p,e,λq hq=>h _ (hp q hq)⟩
def gh.rfl{L:aU}:gh L L:=⟨[],by simp⟩
def gh.trans{L M O:aU}(h1:gh L M)(h2:gh M O):gh L O:=by obtain⟨p,rfl⟩:=h1;obtain⟨q,rfl⟩:=h2;exact⟨q++p,by simp⟩
def Ep{n:Nat}{F:Frm}{d:Option Nat}{r:SV}{S:Nat->Prop}(h:∀t,d=some t->S t):Pre S F (oj n F d r):=by
 cases d with
 |none=>exact Pre.rfl
 |some d=>
  unfold oj;dsimp only;split
  .exact⟨[(d,r)],by simp,λq hq=>by grind⟩
  .exact Pre.rfl
def Fg{n:Nat}{F:Frm}{d:Option Nat}{r:SV}(h:F.ok)(hr:r.ok):(oj n F d r).ok:=by
 cases d with
 |none=>exact h
 |some d=>
  unfold oj;dsimp only;split
  .exact Frm.Nm h hr
  .exact h
def o5(X:Cx)(n:Nat)(raw:Bool)(N i:Nat)(o:Oper)(F:Frm)(L:aU)(log:jE)(k:Frm->aU->jE->Fm):Fm:=match Rn X raw (N+i) o.op (tF n F) L.at with
 |some (ps,r,R,W)=>rC ps (k (oj n F o.dst r) (W++L) (log++[(R.map ncl,W.map λ(q:Nat×Option SOb)=>ncl q.1)]))
 |none=> .stuck i
def nQ(n:Nat)(o:Oper)(F:Frm)(L:aU)(log:jE)(k:Frm->aU->jE->Fm):Fm:=k (oj n F o.dst .undef) L (log++[([],[])])
def gS(X:Cx)(n:Nat)(raw:Nat->Bool)(N:Nat)(ds:List (Option Nat)):List Oper->Nat->Frm->aU->jE->(Frm->aU->jE->Fm)->Fm
 |[],_,F,L,log,K=>K F L log
 |o::rest,i,F,L,log,K=>match o.guard with
  |none=>o5 X n (raw i) N i o F L log λF L log=>gS X n raw N ds rest (i+1) F L log K
  |some (j,want)=>(match(ds[j]?).join with
   |some d=>(match ib d n,F.at d with
    |true,.lit b=>(match b,want with
     |true,false=>nQ n o F L log λF L log=>gS X n raw N ds rest (i+1) F L log K
     |false,true=>nQ n o F L log λF L log=>gS X n raw N ds rest (i+1) F L log K
     |_,_=>o5 X n (raw i) N i o F L log λF L log=>gS X n raw N ds rest (i+1) F L log K)
    |true,.undef=>nQ n o F L log λF L log=>gS X n raw N ds rest (i+1) F L log K
    |true,.prop p _=> .both
     (.imp p (match want with
       |true=>o5 X n (raw i) N i o ((d,.lit true)::F) L log λF L log=>gS X n raw N ds rest (i+1) F L log K
       |false=>nQ n o ((d,.lit true)::F) L log λF L log=>gS X n raw N ds rest (i+1) F L log K))
     (.imp (¬p) (match want with
       |false=>o5 X n (raw i) N i o ((d,.lit false)::F) L log λF L log=>gS X n raw N ds rest (i+1) F L log K
       |true=>nQ n o ((d,.lit false)::F) L log λF L log=>gS X n raw N ds rest (i+1) F L log K))
    |true,.bool c=> .both
     (.imp (c=true) (match want with
       |true=>o5 X n (raw i) N i o ((d,.lit true)::F) L log λF L log=>gS X n raw N ds rest (i+1) F L log K
       |false=>nQ n o ((d,.lit true)::F) L log λF L log=>gS X n raw N ds rest (i+1) F L log K))
     (.imp (c=false) (match want with
       |false=>o5 X n (raw i) N i o ((d,.lit false)::F) L log λF L log=>gS X n raw N ds rest (i+1) F L log K
       |true=>nQ n o ((d,.lit false)::F) L log λF L log=>gS X n raw N ds rest (i+1) F L log K))
    |_,_=> .stuck i)
   |none=> .stuck i)
def Frm.aAi{n:Nat}{F:Frm}{d:Nat}{v:SV}(h:v.av=(F.at d).av):Frm.av n ((d,v)::F)=F.av n:=by unfold Frm.av;apply nZ;intro t _;rw[Frm.lV];grind
def aU.fn(L:aU):Sto:=Sg.a L.at
def iA(n:Nat)(S:Nat->Prop)(F:Frm)(L:aU)(FA:List AV)(LA:Sto)(G:Frm->aU->Prop):Prop:=∃F' L',FA=F'.av n/\LA=L'.fn/\F'.ok/\Pre S F F'/\gh L L'/\G F' L'
def iA.step{n:Nat}{S:Nat->Prop}{F F1:Frm}{L L1:aU}{FA:List AV}{LA:Sto}{G:Frm->aU->Prop}(h1:Pre S F F1)(h2:gh L L1)(h:iA n S F1 L1 FA LA G):iA n S F L FA LA G:=by obtain⟨F',L',a,b,c,d,e,f⟩:=h;exact⟨F',L',a,b,c,h1.trans d,h2.trans e,f⟩
def xN{X:Cx}(hX:X.Ok){n:Nat}{raw:Nat->Bool}{N:Nat}{ds:List (Option Nat)}{K:Frm->aU->jE->Fm}:
  ∀(l:List Oper) (i:Nat) (F:Frm) (L:aU) (log:jE),(∀o∈l,o.dst∈ds)->F.ok->(gS X n raw N ds l i F L log K).holds->
   fA X.P N ds l i (F.av n) L.fn log λFA LA log'=>iA n (λd=>some d∈ds) F L FA LA λF' L'=>(K F' L' log').holds
 |[],i,F,L,log,_,hF,h=>by
  unfold gS at h;unfold fA;exact⟨F,L,rfl,rfl,hF,Pre.rfl,gh.rfl,h⟩
 |o::rest,i,F,L,log,hd,hF,h=>by
  have hd':∀o∈rest,o.dst∈ds:=λo ho=>hd o (cE _ ho);have hod:∀t,o.dst=some t->some t∈ds:=λt ht=>by grind
  have run:∀F:Frm,F.ok->(o5 X n (raw i) N i o F L log λF L log=>gS X n raw N ds rest (i+1) F L log K).holds->
    ∃r R W Rc Wc,bR X.P o (kC (F.av n)) L.fn (N+i) r R W/\inC R Rc/\inC (W.map (·.1)) Wc/\fA X.P N ds rest (i+1) (eT (F.av n) o.dst r) (bC L.fn W) (log++[(Rc,Wc)]) λFA LA log'=>iA n (λd=>some d∈ds) F L FA LA λF' L'=>(K F' L' log').holds:=by
   intro F hF h;unfold o5 at h;split at h
   .rename_i ps r R W hs;obtain⟨h1,h2⟩:=rm h;obtain⟨⟨R',W',h5,f1,f2,f3⟩,h4⟩:=Y9 hX (Yb hF) _ _ _ _ hs h1;have e1:SE.a (tF n F)=kC (F.av n):=funext λx=>FB x;rw[e1]at h5;refine⟨r.av,R',W',_,_,h5,f1,f2,?_⟩;have e3:bC L.fn W'=aU.fn (W++L):=by unfold aU.fn;rw[f3,aU.Bg]
    rw[Fh,e3];exact jQ (λ_ _ _=>iA.step (Ep hod) ⟨W,rfl⟩) (xN hX rest (i+1) _ _ _ hd' (Fg hF h4) h2)
   .exact h.elim
  have skip:∀F:Frm,F.ok->(nQ n o F L log λF L log=>gS X n raw N ds rest (i+1) F L log K).holds->
    fA X.P N ds rest (i+1) (eT (F.av n) o.dst .undef) L.fn (log++[([],[])]) λFA LA log'=>iA n (λd=>some d∈ds) F L FA LA λF' L'=>(K F' L' log').holds:=by
   intro F hF h;unfold nQ at h;have:=xN hX rest (i+1) _ _ _ hd' (Fg (n:=n) (d:=o.dst) hF (show SV.ok .undef from trivial)) h;rw[<-Fh]at this;exact jQ (λ_ _ _=>iA.step (Ep hod) gh.rfl) this
  unfold gS at h;unfold fA;split at h
  .grind
  .rename_i j want hg;rw[hg];dsimp only;split at h
   case h_2=>exact h.elim
   rename_i d hdj;have hds:some d∈ds:=by
    cases hx:ds[j]? with
    |none=>grind
    |some y=>grind
   have gd:∀F:Frm,d<n->gdA ds (F.av n) j=(match(F.at d).av with| .p (.bool b)=>some (some b)| .undef=>some none|_=>none):=by intro F hlt;unfold gdA;rw[hdj];dsimp only;rw[Frm.mM hlt];rfl
   have split1:∀(b:Bool),d<n->(F.at d).av= .p (.bool b)->(match want with
      |true=>(match b with
       |true=>o5 X n (raw i) N i o ((d,.lit true)::F) L log λF L log=>gS X n raw N ds rest (i+1) F L log K
       |false=>nQ n o ((d,.lit false)::F) L log λF L log=>gS X n raw N ds rest (i+1) F L log K)
      |false=>(match b with
       |true=>nQ n o ((d,.lit true)::F) L log λF L log=>gS X n raw N ds rest (i+1) F L log K
       |false=>o5 X n (raw i) N i o ((d,.lit false)::F) L log λF L log=>gS X n raw N ds rest (i+1) F L log K)).holds->
     (match(gdA ds (F.av n) j:Option (Option Bool))with
       |some (some b)=>if b=want then∃r R W Rc Wc,bR X.P o (kC (F.av n)) L.fn (N+i) r R W/\inC R Rc/\inC (W.map (·.1)) Wc/\fA X.P N ds rest (i+1) (eT (F.av n) o.dst r) (bC L.fn W) (log++[(Rc,Wc)]) (λFA LA log'=>iA n (λd=>some d∈ds) F L FA LA λF' L'=>(K F' L' log').holds)
        else fA X.P N ds rest (i+1) (eT (F.av n) o.dst .undef) L.fn (log++[([],[])]) (λFA LA log'=>iA n (λd=>some d∈ds) F L FA LA λF' L'=>(K F' L' log').holds)
       |some none=>fA X.P N ds rest (i+1) (eT (F.av n) o.dst .undef) L.fn (log++[([],[])]) (λFA LA log'=>iA n (λd=>some d∈ds) F L FA LA λF' L'=>(K F' L' log').holds)
       |none=>False):=by
    intro b hlt hb h;rw[gd F hlt,hb];dsimp only;have e0:∀c,c=b->Frm.av n ((d,.lit c)::F)=F.av n:=λc hc=>Frm.aAi (by rw[hb,hc];rfl);have hpre:∀c,Pre (λd=>some d∈ds) F ((d,SV.lit c)::F):=λc=>⟨[(d,.lit c)],rfl,λq hq=>by grind⟩;have up:∀c FA LA (G:Frm->aU->Prop),iA n (λd=>some d∈ds) ((d,SV.lit c)::F) L FA LA G->iA n (λd=>some d∈ds) F L FA LA G:=λc FA LA G=>iA.step (hpre c) gh.rfl;have hok:∀c,Frm.ok ((d,SV.lit c)::F):=λc=>Frm.Nm hF (show SV.ok (.lit c)from trivial);cases want<;>cases b<;>dsimp only at h
    .rw[if_pos rfl];have:=run _ (hok false) h;rw[e0 false rfl]at this;obtain⟨r,R,W,Rc,Wc,h1,i1,i2,h2⟩:=this;exact⟨r,R,W,Rc,Wc,h1,i1,i2,jQ (λ_ _ _=>up false _ _ _) h2⟩
    .rw[if_neg (by decide)];have:=skip _ (hok true) h;rw[e0 true rfl]at this;exact jQ (λ_ _ _=>up true _ _ _) this
    .rw[if_neg (by decide)];have:=skip _ (hok false) h;rw[e0 false rfl]at this;exact jQ (λ_ _ _=>up false _ _ _) this
    .rw[if_pos rfl];have:=run _ (hok true) h;rw[e0 true rfl]at this;obtain⟨r,R,W,Rc,Wc,h1,i1,i2,h2⟩:=this;exact⟨r,R,W,Rc,Wc,h1,i1,i2,jQ (λ_ _ _=>up true _ _ _) h2⟩
   split at h
   .rename_i b hlt hb;have hlt:=(j7 _ _).1 hlt;rw[gd F hlt,hb];show(if b=want then _ else _);cases b<;>cases want<;>dsimp only at h
    .grind
    .grind
    .grind
    grind
   .rename_i hlt hb;have hlt:=(j7 _ _).1 hlt;rw[gd F hlt,hb];exact skip F hF h
   .rename_i p dec hlt hb;obtain⟨h1,h2⟩:=Fm.tz h;have hlt:=(j7 _ _).1 hlt;have hav:(F.at d).av= .p (.bool (@decide p dec)):=by rw[hb];rfl
    by_cases hp:p
    .refine split1 true hlt (by grind) ?_;have h1:=(h1:p->_) hp;omega
    .refine split1 false hlt (by grind) ?_;have h2:=(h2:¬p->_) hp;grind
   .rename_i c hlt hb;obtain⟨h1,h2⟩:=Fm.tz h;have hlt:=(j7 _ _).1 hlt;have hav:(F.at d).av= .p (.bool c):=by rw[hb];rfl
    cases c with
    |true=>
     refine split1 true hlt hav ?_;have h1:=(h1:(true=true)->_) rfl;omega
    |false=>
     refine split1 false hlt hav ?_;have h2:=(h2:(false=false)->_) rfl;grind
   .exact h.elim
end
noncomputable section
abbrev Rm:=List (Nat×Option Nat)
def mR:Rm->Nat->Option (Option Nat)
 |[],_=>none
 |(k,x)::m,s=>match bH s k with|true=>some x|false=>mR m s
def o4(f:SV->SV->Option (List Prop×Rm)):List SV->List SV->Option (List Prop×Rm)
 |[],[] =>some ([],[])
 |x::l,y::r=>(match f x y,o4 f l r with
  |some (p,m),some (q,k)=>some (p++q,m++k)
  |_,_=>none)
 |_,_=>none
def Hn:SV->SV->Option (List Prop×Rm)
 | .any,_=>some ([],[])
 | .undef,.undef=>some ([],[])
 | .nil,.nil=>some ([],[])
 | .int k a,.int k' b=>(match decEq k k' with| .isTrue _=>some ([b=a],[])| .isFalse _=>none)
 | .bool a,.bool b=>some ([b=a],[])
 | .bool a,.lit b=>some ([b=a],[])
 | .bool a,.prop p d=>some ([@decide p d=a],[])
 | .lit a,.lit b=>some ([b=a],[])
 | .lit a,.bool b=>some ([b=a],[])
 | .lit a,.prop p d=>some ([@decide p d=a],[])
 | .prop p _,.prop q _=>some ([q↔p],[])
 | .prop p d,.bool b=>some ([b= @decide p d],[])
 | .prop p d,.lit b=>some ([b= @decide p d],[])
 | .str a,.str b=>some ([b=a],[])
 | .lst t l,.lst t' l'=>(match decEq t' t with| .isTrue h=>some ([(h▸l':List t.ty)=l],[])| .isFalse _=>none)
 | .lst _ l,.sl 0 [] =>some ([l=[]],[])
 | .lst t l,.sl n cs=>(match t.decs n cs with|some l'=>some ([l'=l],[])|none=>none)
 | .ptr s off,.ptr s' off'=>(match bH off off' with|true=>some ([],[(s,some s')])|false=>none)
 | .own s t n,.own s' t' n'=>(match decEq t' t with| .isTrue _=>some ([n'=n],[(s,some s')])| .isFalse _=>none)
 | .own s _ n,.ownx s' n'=>some ([n'=n],[(s,some s')])
 | .own s _ n,.nil=>some ([n=0],[(s,none)])
 | .ownx s n,.ownx s' n'=>(match bH n n' with|true=>some ([],[(s,some s')])|false=>none)
 | .owF s n,.owF s' n'=>some ([n'=n],[(s,some s')])
 | .mp s,.mp s'=>some ([],[(s,some s')])
 | .junk,.junk=>some ([],[])
 |_,_=>none
def eqv:Nat->SV->SV->Option (List Prop×Rm)
 |d+1,.agg l,.agg r=>o4 (eqv d) l r
 |d+1,.tup l,.tup r=>o4 (eqv d) l r
 |d+1,.fn f a b,.fn f' a' b'=>(match bH f f',o4 (eqv d) a a',o4 (eqv d) b b' with
  |true,some (p,m),some (q,k)=>some (p++q,m++k)
  |_,_,_=>none)
 |_,x,y=>Hn x y
def j9(m:Rf)(r:Rm):Prop:=∀q∈r,m (aR q.1)=some (q.2.map aR)
def j9.left{m:Rf}{r k:Rm}(h:j9 m (r++k)):j9 m r:=λq hq=>h q (iC _ hq)
def j9.right{m:Rf}{r k:Rm}(h:j9 m (r++k)):j9 m k:=λq hq=>h q (fb _ hq)
def qm{f:SV->SV->Option (List Prop×Rm)}{m:Rf}(hf:∀x y ps r,f x y=some (ps,r)->(∀p∈ps,p)->j9 m r->cU m x.av y.av):
  ∀{l k:List SV} {ps:List Prop} {r:Rm},o4 f l k=some (ps,r)->(∀p∈ps,p)->j9 m r->fJ m (avs l) (avs k)
 |[],[],ps,r,_,_,_=>by simp only[avs];unfold fJ;rfl
 |[],_::_,ps,r,h,_,_=>by cases h
 |_::_,[],ps,r,h,_,_=>by cases h
 |x::l,y::k,ps,r,h,hp,hm=>by
  unfold o4 at h;split at h<;>cases h;rename_i p m1 q m2 h1 h2;rw[avs,avs];unfold fJ;exact⟨_,_,rfl,hf x y p m1 h1 (λa ha=>hp a (iC _ ha)) hm.left,qm hf h2 (λa ha=>hp a (fb _ ha)) hm.right⟩
def MY{m:Rf}{x y:SV}{ps:List Prop}{r:Rm}(h:Hn x y=some (ps,r))(hp:∀p∈ps,p)(hm:j9 m r):cU m x.av y.av:=by
 unfold Hn at h;split at h
 .simp only[SV.av];unfold cU;trivial
 .simp only[SV.av];unfold cU;rfl
 .simp only[SV.av];unfold cU;rfl
 .split at h<;>cases h;rename_i e _;subst e;refine dG ?_;rw[<-hp _ (bi.2 rfl)];rfl
 .cases h;refine dG ?_;rw[<-hp _ (bi.2 rfl)];rfl
 .cases h;refine dG ?_;rw[<-hp _ (bi.2 rfl)];rfl
 .cases h;refine dG ?_;rw[<-hp _ (bi.2 rfl)];rfl
 .cases h;refine dG ?_;rw[<-hp _ (bi.2 rfl)];rfl
 .cases h;refine dG ?_;rw[<-hp _ (bi.2 rfl)];rfl
 .cases h;refine dG ?_;rw[<-hp _ (bi.2 rfl)];rfl
 .rename_i p d q e;cases h;refine dG ?_;have hh:q↔p:=hp _ (bi.2 rfl);show AV.p (.bool (decide q))=AV.p (.bool (decide p));grind
 .cases h;refine dG ?_;rw[<-hp _ (bi.2 rfl)];rfl
 .cases h;refine dG ?_;rw[<-hp _ (bi.2 rfl)];rfl
 .cases h;refine dG ?_;rw[<-hp _ (bi.2 rfl)];rfl
 .rename_i t l t' l';split at h<;>cases h;rename_i e _;subst e;have:l'=l:=hp _ (bi.2 rfl);subst this;exact dG rfl
 .cases h;rename_i t l;have:l=[] :=hp _ (bi.2 rfl);subst this;exact dG rfl
 .rename_i t l n cs _;split at h<;>cases h;rename_i l' hl;have:l'=l:=hp _ (bi.2 rfl);subst this;obtain⟨e1,e2⟩:=LT.ud hl;refine dG ?_;show(match bM (avs cs)with|some q=>AV.p (.sl n q)|none=> .any)=_;rw[e2,dU,e1]
 .rename_i s off s' off';split at h<;>cases h;rename_i e;simp only[SV.av];unfold cU;exact⟨aR s',hm _ (bi.2 rfl),by simp_all⟩
 .rename_i s t n s' t' n';split at h<;>cases h;have:n'=n:=hp _ (bi.2 rfl);simp only[SV.av];unfold cU;exact .inl ⟨aR s',hm _ (bi.2 rfl),by rw[this]⟩
 .cases h;rename_i s t n s' n';have:n'=n:=hp _ (bi.2 rfl);simp only[SV.av];unfold cU;exact .inl ⟨aR s',hm _ (bi.2 rfl),by rw[this]⟩
 .cases h;rename_i s t n;have:n=0:=hp _ (bi.2 rfl);simp only[SV.av];unfold cU;exact .inr ⟨hm _ (bi.2 rfl),rfl,rfl,this⟩
 .rename_i s n s' n';split at h<;>cases h;rename_i e;simp only[SV.av];unfold cU;exact .inl ⟨aR s',hm _ (bi.2 rfl),by simp_all⟩
 .cases h;rename_i s n s' n';have:n'=n:=hp _ (bi.2 rfl);simp only[SV.av];unfold cU;exact .inl ⟨aR s',hm _ (bi.2 rfl),by rw[this]⟩
 .cases h;rename_i s s';simp only[SV.av];unfold cU;exact⟨aR s',hm _ (bi.2 rfl),rfl⟩
 .cases h;exact dG rfl
 .cases h
def uZ{m:Rf}:∀(d:Nat) (x y:SV) (ps:List Prop) (r:Rm),eqv d x y=some (ps,r)->(∀p∈ps,p)->j9 m r->cU m x.av y.av:=by
 intro d;induction d with
 |zero=>
  intro x y ps r h hp hm;refine MY (ps:=ps) (r:=r) ?_ hp hm;exact h
 |succ d ih=>
  intro x y ps r h hp hm;unfold eqv at h;split at h
  .rename_i d' l k e;cases e;exact zo (qm ih h hp hm)
  .rename_i d' l k e;cases e;exact D6 (qm ih h hp hm)
  .rename_i d' f a b f' a' b' e;cases e;split at h<;>cases h;rename_i p m1 q m2 e h1 h2;show cU m (.fn (.func f) (avs a) (avs b)) (.fn (.func f') (avs a') (avs b'));unfold cU;exact⟨_,_,by simp_all,qm ih h1 (λa ha=>hp a (iC _ ha)) hm.left,qm ih h2 (λa ha=>hp a (fb _ ha)) hm.right⟩
  .exact MY h hp hm
mutual
def SV.sites:SV->List Nat
 | .agg l=>oQ l
 | .tup l=>oQ l
 | .fn _ a b=>oQ a++oQ b
 | .ptr s _=>[s]
 | .pte s _ _ _=>[s]
 | .own s _ _=>[s]
 | .owns s _ _ _=>[s]
 | .ownx s _=>[s]
 | .ownf s _ _ _=>[s]
 | .ptef s _ _ _ _=>[s]
 | .ptf s _=>[s]
 | .owF s _=>[s]
 | .mp s=>[s]
 |_=>[]
def oQ:List SV->List Nat
 |[] =>[]
 |x::l=>x.sites++oQ l
end
def vQ(m:Rf)(s:Nat):Prop:=∀a,m (inn s a)=some (some (inn s a))
mutual
theorem zf{m:Rf}:∀(v:SV),(∀s∈v.sites,vQ m s)->cU m v.av v.av
 | .any,_=>by simp only[SV.av];unfold cU;trivial
 | .undef,_=>by simp only[SV.av];unfold cU;rfl
 | .nil,_=>by simp only[SV.av];unfold cU;rfl
 | .int _ _,_=>dG rfl
 | .bool _,_=>dG rfl
 | .lit _,_=>dG rfl
 | .prop _ _,_=>dG rfl
 | .str _,_=>dG rfl
 | .lst _ _,_=>dG rfl
 | .pe _ _ _ _,_=>dG rfl
 | .clo1 _ _ _ _,_=>dG rfl
 | .clo2 _ _ _ _,_=>dG rfl
 | .ptb _ _ _,_=>dG rfl
 | .junk,_=>dG rfl
 | .mp s,h=>by simp only[SV.av];unfold cU;exact⟨aR s,h s (by simp[SV.sites]) 0,rfl⟩
 | .sl n cs,_=>by
   simp only[SV.av];split
   .exact dG rfl
   .unfold cU;trivial
 | .pro cs off,_=>by
   simp only[SV.av];split
   .exact dG rfl
   .unfold cU;trivial
 | .fnp f a b,_=>by
   simp only[SV.av];split
   .exact dG rfl
   .unfold cU;trivial
 | .agg l,h=>by simp only[SV.av];exact zo (rt l h)
 | .tup l,h=>by simp only[SV.av];exact D6 (rt l h)
 | .fn f a b,h=>by
   simp only[SV.av];unfold cU;exact⟨_,_,rfl,rt a (λs hs=>h s (by simp only[SV.sites];grind)),rt b (λs hs=>h s (by simp only[SV.sites];grind))⟩
 | .ptr s off,h=>by simp only[SV.av];unfold cU;exact⟨aR s,h s (by simp[SV.sites]) 0,rfl⟩
 | .pte s t i off,h=>by simp only[SV.av];unfold cU;exact⟨aR s,h s (by simp[SV.sites]) 0,rfl⟩
 | .own s t n,h=>by simp only[SV.av];unfold cU;exact .inl ⟨aR s,h s (by simp[SV.sites]) 0,rfl⟩
 | .owns s t o n,h=>by simp only[SV.av];unfold cU;exact .inl ⟨aR s,h s (by simp[SV.sites]) 0,rfl⟩
 | .ownx s n,h=>by simp only[SV.av];unfold cU;exact .inl ⟨aR s,h s (by simp[SV.sites]) 0,rfl⟩
 | .owF s n,h=>by simp only[SV.av];unfold cU;exact .inl ⟨aR s,h s (by simp[SV.sites]) 0,rfl⟩
 | .ownf s t a n,h=>by simp only[SV.av];unfold cU;exact .inl ⟨inn s (a+1),h s (by simp[SV.sites]) (a+1),rfl⟩
 | .ptf s a,h=>by simp only[SV.av];unfold cU;exact⟨aR s,h s (by simp[SV.sites]) 0,rfl⟩
 | .ptef s t a i off,h=>by simp only[SV.av];unfold cU;exact⟨inn s (a+1),h s (by simp[SV.sites]) (a+1),rfl⟩
theorem rt{m:Rf}:∀(l:List SV),(∀s∈oQ l,vQ m s)->fJ m (avs l) (avs l)
 |[],_=>by simp only[avs];unfold fJ;rfl
 |x::l,h=>by
  simp only[avs];unfold fJ;exact⟨_,_,rfl,zf x (λs hs=>h s (by simp only[oQ];grind)),rt l (λs hs=>h s (by simp only[oQ];grind))⟩
end
def SOb.sites:SOb->List Nat
 | .box _ cs=>oQ cs
 | .arr _ _ cs=>oQ cs
 | .row .. =>[]
 | .fam _ _ _ _ ov=>ov.flatMap λq=>q.2.sites
 | .mp _=>[]
def EB{ov:List (Nat×SV)}{i:Nat}{v:SV}(h:ov.lookup i=some v):(i,v)∈ov:=by
 induction ov with
 |nil=>cases h
 |cons q ov ih=>
  grind
def I5{m:Rf}(o:SOb)(x:Nat)(hx:vQ m x)(h:∀s∈o.sites,vQ m s):qB m (o.ob x) (o.ob x):=by
 cases o with
 |box ty cs=>exact⟨rfl,rfl,rt cs h⟩
 |arr ty ez cs=>exact⟨rfl,rfl,rt cs h⟩
 |row ty t l=>exact⟨rfl,rfl,j5 m _⟩
 |mp ks=>refine⟨rfl,rfl,?_⟩;show fJ m (fu (gY ks)) (fu (gY ks));rw[sI];exact j5 m _
 |fam ty ity t L ov=>
  refine⟨rfl,rfl,uJ _ _ _ λi _=> ?_⟩;unfold i5;split
  .rename_i v hv;exact zf v λs hs=>h s (cZ.2 ⟨(i,v),EB hv,hs⟩)
  .unfold cU;exact .inl ⟨_,hx (i+1),rfl⟩
def u9:SOb->SOb->Option (List Prop×Rm)
 | .box ty cs,.box ty' cs'=>(match bH ty ty' with|true=>o4 (eqv 3) cs cs'|false=>none)
 | .arr ty ez cs,.arr ty' ez' cs'=>(match bH ty ty',bH ez ez' with|true,true=>o4 (eqv 3) cs cs'|_,_=>none)
 | .row ty t l,.row ty' t' l'=>(match bH ty ty',decEq t' t with|true,.isTrue h=>some ([(h▸l':List t.ty)=l],[])|_,_=>none)
 | .mp ks,.mp ks'=>some ([ks'=ks],[])
 | .row ty t l,.arr ty' ez cs=>(match bH ty ty',bH ez t.w,t.decs (cs.length/t.w) cs with|true,true,some l'=>some ([l'=l],[])|_,_,_=>none)
 |_,_=>none
def Ks{m:Rf}{x y:SOb}{ps:List Prop}{r:Rm}(h:u9 x y=some (ps,r))(hp:∀p∈ps,p)(hm:j9 m r)(k k':Nat):qB m (x.ob k) (y.ob k'):=by
 unfold u9 at h;split at h
 .split at h
  .rename_i e;exact⟨dI e,rfl,qm (uZ 3) h hp hm⟩
  .cases h
 .split at h
  .rename_i e1 e2;exact⟨dI e1,dI e2,qm (uZ 3) h hp hm⟩
  .cases h
 .split at h<;>cases h;rename_i e2 e1 _;subst e2;have:=hp _ (bi.2 rfl);dsimp only at this;subst this;exact⟨dI e1,rfl,j5 m _⟩
 .cases h;have:=hp _ (bi.2 rfl);subst this;refine⟨rfl,rfl,?_⟩;show fJ m (fu (gY _)) (fu (gY _));rw[sI];exact j5 m _
 .split at h<;>cases h;rename_i l' e1 e2 e3;have:=hp _ (bi.2 rfl);subst this;obtain⟨_,e4⟩:=LT.ud e3;refine⟨dI e1,(dI e2).symm,?_⟩;show fJ m ((LT.enc _ l').map .p) (avs _);rw[e4];exact j5 m _
 .cases h
end
section
noncomputable section
def mem(l:List Nat)(s:Nat):Bool:=match l with
 |[] =>false
 |x::l=>(match bH s x with|true=>true|false=>mem l s)
def mem_iff(s:Nat):∀l:List Nat,mem l s=true↔s∈l
 |[] =>by simp[mem]
 |x::l=>by
  unfold mem;cases h:bH s x with
  |true=>simp_all
  |false=>simp[l8 h,mem_iff s l]
def fG{α:Type}(p:α->Bool):List α->Bool
 |[] =>true
 |x::l=>(match p x with|true=>fG p l|false=>false)
def gn{α:Type}{p:α->Bool}:∀{l:List α},fG p l=true->∀x∈l,p x=true
 |[],_,x,hx=>by cases hx
 |y::l,h,x,hx=>by
  unfold fG at h;cases hy:p y with
  |false=>grind
  |true=>
   rw[hy]at h;rcases bT.1 hx with rfl|hx
   .exact hy
   .exact gn h x hx
def gr(rk:List Nat)(N0:Nat)(s:Nat):Bool:=match ib (ncl s) N0,mem rk s with
 |true,false=>true
 |_,_=>false
def jr(F:Frm)(rk:List Nat)(N0:Nat):Frm->List Nat
 |[] =>[]
 |(d,v)::r=>(match fG (gr rk N0) v.sites with
  |true=>jr F rk N0 r
  |false=>(match fG (gr rk N0) (F.at d).sites with
   |true=>jr F rk N0 r
   |false=>d::jr F rk N0 r))
def kw(F:Frm)(upd:Frm)(hav:List Nat):Frm:=upd++(hav.map λd=>(d,SV.any))++F
def jD(L:aU)(obs:List (Nat×SOb)):aU:=(obs.map λq=>(q.1,some q.2))++L
def yF(obs:List (Nat×SOb)):List Nat:=obs.map λq=>q.1
def aBf(L:aU)(keys rk:List Nat)(N0:Nat):Bool:=fG (λ(q:Nat×Option SOb)=>match mem keys q.1 with
 |true=>true
 |false=>(match L.at q.1 with
  |none=>true
  |some ob=>(match gr rk N0 q.1 with|true=>fG (gr rk N0) ob.sites|false=>false))) L
def vM(n:Nat)(F':Frm):Frm->Option (List Prop×Rm)
 |[] =>some ([],[])
 |(d,v)::r=>(match ib d n,v.ape,eqv 3 v (F'.at d),vM n F' r with
  |true,false,some (p,m),some (q,k)=>some (p++q,m++k)
  |_,_,_,_=>none)
def yI(rk:List Nat)(s o:Nat):SOb->SOb->Option (List Prop)
 | .fam ty ity t M [],.fam ty' ity' t' M' [] =>(match bH s o,mem rk s,bH ty ty',bH ity ity',decEq t' t with
   |true,false,true,true,.isTrue h=>some [(h▸M':List (List t.ty))=M]
   |_,_,_,_,_=>none)
 |_,_=>none
def MV{rk:List Nat}{s o:Nat}{x y:SOb}{ps:List Prop}(h:yI rk s o x y=some ps)(hp:∀p∈ps,p):s=o/\mem rk s=false/\x=y/\x.sites=[] :=by
 unfold yI at h;split at h
 .split at h<;>cases h;rename_i e h1 h2 h3 h4 _;subst e;have:=hp _ (bi.2 rfl);subst this;rw[dI h3,dI h4];exact⟨dI h1,h2,rfl,rfl⟩
 .cases h
def tM(L':aU)(rk:List Nat):List (Nat×SOb)->Rm->Option (List Prop×Rm)
 |[],mm=>some ([],mm)
 |(s,ob)::r,mm=>(match(match mem rk s with|true=>mR mm s|false=>some (some s))with
  |none=>none
  |some none=>(match ob with
   | .row _ _ l=>(match tM L' rk r (mm++[(s,none)])with|some (q,k)=>some ((l=[])::q,k)|none=>none)
   |_=>none)
  |some (some o)=>(match L'.at o with
   |none=>none
   |some ob'=>(match u9 ob ob' with
    |none=>(match yI rk s o ob ob' with
     |none=>none
     |some p=>(match tM L' rk r (mm++[(s,some o)])with|some (q,k)=>some (p++q,k)|none=>none))
    |some (p,m2)=>(match tM L' rk r (mm++(s,some o)::m2)with|some (q,k)=>some (p++q,k)|none=>none))))
def eqO:Option Nat->Option Nat->Bool
 |none,none=>true
 |some a,some b=>bH a b
 |_,_=>false
def Gf{a b:Option Nat}(h:eqO a b=true):a=b:=by cases a<;>cases b<;>first|rfl|(cases h;done)|(rw[dI h])
def isO:Option (Option Nat)->Option Nat->Bool
 |some a,b=>eqO a b
 |none,_=>false
def okM(rk:List Nat)(N0 N1:Nat)(mm:Rm):Bool:=fG (λ(q:Nat×Option Nat)=>match isO (mR mm q.1) q.2,mem rk q.1 with
 |true,true=>(match ib (ncl q.1) N1,q.2 with
  |true,none=>true
  |true,some o=>(match(match ib (ncl o) N0 with|false=>true|true=>mem rk o)with
   |true=>fG (λ(q2:Nat×Option Nat)=>match eqO q2.2 (some o)with|true=>bH q2.1 q.1|false=>true) mm
   |false=>false)
  |_,_=>false)
 |true,false=>(match gr rk N0 q.1 with|true=>eqO q.2 (some q.1)|false=>false)
 |_,_=>false) mm
def aBd(N0:Nat)(keys:List Nat)(pre:aU):Bool:=fG (λ(q:Nat×Option SOb)=>match mem keys q.1 with
 |true=>true
 |false=>(match ib (ncl q.1) N0 with|true=>false|false=>true)) pre
def aBI(rk:List Nat)(N0:Nat)(mm:Rm):Nat->Option (Option Nat):=λs=>match mR mm s with
 |some x=>some x
 |none=>(match gr rk N0 s with|true=>some (some s)|false=>none)
open Classical in
def lk(mn:Nat->Option (Option Nat))(st:Nat->Bool):Rf:=λs=>if inn (nm s) (sub s)=s then(match sub s with
 |0=>(mn (nm s)).map (Option.map aR)
 |_+1=>(match st (nm s)with|true=>some (some s)|false=>none))else none
def Da(mn:Nat->Option (Option Nat))(st:Nat->Bool)(x:Nat):lk mn st (aR x)=(mn x).map (Option.map aR):=by unfold lk aR;rw[sU,sk,if_pos rfl]
def Kf(mn:Nat->Option (Option Nat))(st:Nat->Bool)(x a:Nat):lk mn st (inn x (a+1))=(match st x with|true=>some (some (inn x (a+1)))|false=>none):=by unfold lk;rw[sU,sk,if_pos rfl]
def YG(mn:Nat->Option (Option Nat))(st:Nat->Bool){s:Nat}(h:∀x a,s≠inn x a):lk mn st s=none:=by unfold lk;grind
def Bt(n:Nat)(L:aU)(N0 N1:Nat)(rk:List Nat)(upd:Frm)(obs:List (Nat×SOb))(F':Frm)(L':aU):Option (List Prop):=
 match vM n F' upd with
 |none=>none
 |some (p,m1)=>(match tM L' rk obs m1 with
  |none=>none
  |some (q,m2)=>(match okM rk N0 N1 m2,aBd N0 (yF obs) (L'.take (L'.length-L.length)),aBf L (yF obs) rk N0,mi N0 N1 with
   |true,true,true,true=>some (p++q)
   |_,_,_,_=>none))
def Kb{m:Rm}{s:Nat}{x:Option Nat}(h:mR m s=some x):(s,x)∈m:=by
 induction m with
 |nil=>cases h
 |cons q m ih=>
  obtain⟨a,b⟩:=q;unfold mR at h;split at h
  .simp_all
  grind
def MX{n:Nat}{F':Frm}{m:Rf}:∀{upd:Frm} {ps:List Prop} {r:Rm},vM n F' upd=some (ps,r)->(∀p∈ps,p)->j9 m r->∀q∈upd,cU m q.2.av (F'.at q.1).av/\q.2.ok
 |[],ps,r,_,_,_,q,hq=>by cases hq
 |(d,v)::upd,ps,r,h,hp,hm,q,hq=>by
  unfold vM at h;split at h<;>cases h;rename_i p1 m1 p2 m2 h1 h2 h3 h4;rcases bT.1 hq with rfl|hq
  .exact⟨uZ 3 _ _ _ _ h3 (λa ha=>hp a (by grind)) hm.left,SV.nI h2⟩
  .exact MX h4 (λa ha=>hp a (by grind)) hm.right q hq
def Jw{x y:SOb}{q:List Prop×Rm}(h:u9 x y=some q):x.flat=true:=by unfold u9 at h;cases x<;>first|rfl|grind
def Aa{L':aU}{rk:List Nat}{m:Rf}:∀{obs:List (Nat×SOb)} {mm:Rm} {ps:List Prop} {r:Rm},tM L' rk obs mm=some (ps,r)->(∀p∈ps,p)->j9 m r->
  (∃k,r=mm++k)/\∀q∈obs,(q.2.flat=true/\((∃y ob,m (aR q.1)=some (some (aR y))/\L'.at y=some ob/\qB m (q.2.ob q.1) (ob.ob y))\/(m (aR q.1)=some none/\(q.2.ob q.1).esz≠0/\(q.2.ob q.1).cells=[])))\/((q.1,some q.1)∈r/\mem rk q.1=false/\L'.at q.1=some q.2/\q.2.sites=[])
 |[],mm,ps,r,h,_,_=>by unfold tM at h;simp_all
 |(s,ob)::obs,mm,ps,r,h,hp,hm=>by
  unfold tM at h;split at h
  .cases h
  .split at h
   .rename_i ty t l;split at h<;>cases h;rename_i q k hk;obtain⟨⟨k',e⟩,h2⟩:=Aa hk (by grind) hm;refine⟨by grind,λq hq=> ?_⟩;rcases bT.1 hq with rfl|hq
    .have:m (aR s)=some none:=hm (s,none) (by rw[e];simp);have hl:l=[] :=hp _ (by grind);subst hl;exact .inl ⟨rfl,.inr ⟨this,nk t.kU,rfl⟩⟩
    grind
   .cases h
  .rename_i o hi;split at h
   .cases h
   .rename_i ob' hob;split at h
    .split at h
     .cases h
     .rename_i p hfe;split at h<;>cases h;rename_i q k hk;obtain⟨⟨k',e⟩,h2⟩:=Aa hk (λa ha=>hp a (by grind)) hm;refine⟨by grind,λq hq=> ?_⟩;rcases bT.1 hq with rfl|hq
      .obtain⟨f1,f2,f3,f4⟩:=MV hfe λa ha=>hp a (by grind);grind
      grind
    .rename_i p m2 he;split at h<;>cases h;rename_i q k hk;obtain⟨⟨k',e⟩,h2⟩:=Aa hk (λa ha=>hp a (by grind)) hm;refine⟨by grind,λq hq=> ?_⟩;rcases bT.1 hq with rfl|hq
     .have:m (aR s)=some (some (aR o)):=hm (s,some o) (by rw[e];simp);refine .inl ⟨Jw he,.inl ⟨o,ob',this,hob,Ks he (λa ha=>hp a (by grind)) ?_ _ _⟩⟩;intro q hq;exact hm q (by grind)
     grind
def Ai{F:Frm}{rk:List Nat}{N0:Nat}{d:Nat}:∀{G:Frm},(∃v,(d,v)∈G/\fG (gr rk N0) v.sites=false)->d∉jr F rk N0 G->fG (gr rk N0) (F.at d).sites=true
 |[],⟨v,h,_⟩,_=>by cases h
 |(e,u)::G,⟨v,h,hv⟩,hn=>by
  unfold jr at hn;rcases bT.1 h with h|h
  .grind
  .split at hn
   .exact Ai ⟨v,h,hv⟩ hn
   .split at hn
    .exact Ai ⟨v,h,hv⟩ hn
    .exact Ai ⟨v,h,hv⟩ (by grind)
def aA4(F:Frm)(d:Nat):(F.at d)= .undef\/(d,F.at d)∈F:=by
 induction F with
 |nil=>exact .inl rfl
 |cons q F ih=>
  rw[Frm.lV];grind
def Zu{F:Frm}{rk:List Nat}{N0 d:Nat}(h:d∉jr F rk N0 F):fG (gr rk N0) (F.at d).sites=true:=by
 rcases aA4 F d with e|e
 .rw[e];rfl
 .cases hb:fG (gr rk N0) (F.at d).sites with
  |true=>rfl
  |false=>rw[<-hb];exact Ai ⟨_,e,hb⟩ h
def Frm.pS(A B:Frm)(d:Nat):(Frm.at (A++B) d)=if d∈A.map (·.1)then A.at d else B.at d:=by
 induction A with
 |nil=>simp
 |cons q A ih=>
  rw[kM,Frm.lV,Frm.lV,ih];grind
def PN(l:List Nat)(d:Nat):(Frm.at (l.map λd=>(d,SV.any)) d)=if d∈l then .any else .undef:=by
 induction l with
 |nil=>rfl
 |cons e l ih=>
  rw[dB,Frm.lV,ih];grind
def vD{F:Frm}{d:Nat}(h:d∈F.map (·.1)):(d,F.at d)∈F:=by
 induction F with
 |nil=>cases h
 |cons q F ih=>
  rw[Frm.lV];grind
def aU.pS(A B:aU)(s:Nat):(aU.at (A++B) s)=if s∈A.map (·.1)then A.at s else B.at s:=by
 induction A with
 |nil=>simp
 |cons q A ih=>
  obtain⟨e,v⟩:=q;show(match bH s e with|true=>v|false=>aU.at (A++B) s)=if _ then(match bH s e with|true=>v|false=>aU.at A s)else _;cases h:bH s e with
  |true=>simp_all
  |false=>
   have:=l8 h;grind
def aU.vD{L:aU}{s:Nat}{ob:SOb}(h:L.at s=some ob):(s,some ob)∈L:=by
 induction L with
 |nil=>cases h
 |cons q L ih=>
  obtain⟨e,v⟩:=q;change (match bH s e with|true=>v|false=>aU.at L s)=some ob at h;cases hb:bH s e with
  |true=>simp_all
  |false=>grind
def M6{x:Nat}:∀{obs:List (Nat×SOb)},x∈obs.map (·.1)->∃q∈obs,q.1=x/\aU.at (obs.map λq=>(q.1,some q.2)) x=some q.2
 |[],h=>by grind
 |q::obs,h=>by
  show∃q'∈q::obs,q'.1=x/\(match bH x q.1 with|true=>some q.2|false=>aU.at (obs.map λq=>(q.1,some q.2)) x)=some q'.2;cases hb:bH x q.1 with
  |true=>simp_all
  |false=>
   rcases bT.1 h with h|h
   .simp_all
   .obtain⟨q',h1,h2,h3⟩:=M6 h;grind
def Jk{m:Rf}{o':SOb}{a:Nat}{ob':Ob}(hs:o'.inner a=some ob'):qB m ob' ob':=by
 cases o' with
 |fam ty ity t LL ov=>
  change (match ov.lookup a with|some _=>none|none=>(LL[a]?).map λl=>(⟨ity,t.w,(t.enc l).map .p⟩:Ob))=some ob' at hs;split at hs
  .cases hs
  .cases hL2:LL[a]? with
   |none=>grind
   |some l=>rw[hL2]at hs;cases hs;exact⟨rfl,rfl,j5 _ _⟩
 |_=>cases hs
def KZ{n:Nat}{F F' upd:Frm}{L L':aU}{N0 N1 N':Nat}{obs:List (Nat×SOb)}{hav:List Nat}{ps:List Prop}{rk:List Nat}(h:Bt n L N0 N1 rk upd obs F' L'=some ps)(hp:∀p∈ps,p)
  (hF:Pre (λd=>d∈hav) F F') (hbad:∀d∈jr F rk N0 F,d∈hav) (hL:gh L L'):
  fa (F'.av n) L'.fn N' ((kw F upd hav).av n) (jD L obs).fn N1:=by
 unfold Bt at h;split at h
 .cases h
 rename_i p1 m1 h1;split at h
 .cases h
 rename_i p2 mm h2;split at h<;>cases h;rename_i h3 h4 h5 h6
 let mn:Nat->Option (Option Nat):=aBI rk N0 mm
 let m:Rf:=lk mn (gr rk N0)
 have hokM:∀s x,(s,x)∈mm->mR mm s=some x/\((mem rk s=true/\ncl s<N1/\∀o,x=some o->(ncl o<N0->mem rk o=true)/\∀s',(s',some o)∈mm->s'=s)\/(mem rk s=false/\ncl s<N0/\x=some s)):=by
  intro s x hs;have:=gn h3 (s,x) hs;dsimp only at this;split at this
  .rename_i e1 e2;refine⟨?_,.inl ⟨e2,?_⟩⟩
   .unfold isO at e1;split at e1
    .rename_i heq;rw[heq,Gf e1]
    .cases e1
   .split at this
    .simp_all
    .rename_i o e3;refine⟨(j7 _ _).1 e3,λo' ho=> ?_⟩;cases ho;split at this
     .rename_i e4;refine⟨λhlt=> ?_,λs' hs'=> ?_⟩
      .rw[(j7 _ _).2 hlt]at e4;exact e4
      .have:=gn this (s',some o) hs';rw[show eqO (some o) (some o)=true from Nat.beq_refl o]at this;simp_all
     .cases this
    .cases this
  .rename_i e1 e2;split at this
   .rename_i e3;refine⟨?_,.inr ⟨e2,?_,Gf this⟩⟩
    .unfold isO at e1;split at e1
     .rename_i heq;rw[heq,Gf e1]
     .cases e1
    .unfold gr at e3;split at e3
     .simp_all
     .cases e3
   .cases this
  .cases this
 have hstay:∀s,gr rk N0 s=true->mn s=some (some s)/\ncl s<N0/\mem rk s=false:=by
  intro s hs;have:ncl s<N0/\mem rk s=false:=by
   unfold gr at hs;split at hs
   .rename_i e1 e2;exact⟨(j7 _ _).1 e1,e2⟩
   .cases hs
  refine⟨?_,this⟩;show(match mR mm s with|some x=>some x|none=>_)=_;cases hl:mR mm s with
  |some x=>
   rcases(hokM s x (Kb hl)).2 with⟨e,_⟩|⟨_,_,e⟩
   .grind
   .rw[e]
  |none=>grind
 have hm:∀s x,mn s=some x->(s,x)∈mm\/(gr rk N0 s=true/\x=some s):=by
  intro s x hs;change (match mR mm s with|some x=>some x|none=>(match gr rk N0 s with|true=>some (some s)|false=>none))=some x at hs;cases hl:mR mm s with
  |some y=>rw[hl]at hs;cases hs;exact .inl (Kb hl)
  |none=>
   grind
 have hag:j9 m mm:=by
  intro q hq;have:=(hokM q.1 q.2 hq).1;have e:mn q.1=some q.2:=by show(match mR mm q.1 with|some x=>some x|none=>_)=_;rw[this]
  show lk mn (gr rk N0) (aR q.1)=_;rw[Da,e];rfl
 have hst:∀s,gr rk N0 s=true->vQ m s:=by
  intro s hs a;cases a with
  |zero=>show lk mn _ (aR s)=_;rw[Da,(hstay s hs).1];rfl
  |succ a=>show lk mn _ (inn s (a+1))=_;rw[Kf,hs]
 have hcase:∀s x,m s=some x->(∃y z,s=aR y/\mn y=some z/\x=z.map aR)\/(∃y a,s=inn y (a+1)/\gr rk N0 y=true/\x=some s):=by
  intro s x hs;rcases kP s with⟨y,rfl⟩|⟨y,a,rfl⟩|hno
  .change lk mn _ (aR y)=some x at hs;rw[Da]at hs;cases hy:mn y with
   |none=>grind
   |some z=>grind
  .change lk mn _ (inn y (a+1))=some x at hs;rw[Kf]at hs;grind
  .change lk mn _ s=some x at hs;rw[YG _ _ hno]at hs;cases hs
 have hlt:∀s x,mn s=some x->ncl s<N1:=by
  intro s x hs;rcases hm s x hs with h|⟨h,_⟩
  .rcases(hokM s x h).2 with⟨_,e,_⟩|⟨_,e,_⟩
   .exact e
   .have:=mA h6;omega
  .have:=(hstay s h).2.1;have:=mA h6;omega
 obtain⟨⟨k,hk⟩,hobs⟩:=Aa h2 (λa ha=>hp a (by grind)) hag;have hfst:∀y,(y,some y)∈mm->mem rk y=false->gr rk N0 y=true:=by
  intro y hy hr;rcases(hokM y _ hy).2 with⟨e,_⟩|⟨_,e,_⟩
  .grind
  .unfold gr;rw[(j7 _ _).2 e,hr]
 have hag1:j9 m m1:=λq hq=>hag q (by grind);have hupd:=MX h1 (λa ha=>hp a (by grind)) hag1;have h6':=mA h6;refine Mu m ?_ ?_ (by rw[Frm.jM,Frm.jM]) ?_ ?_
 .intro s x hs;rcases hcase s x hs with⟨y,z,rfl,h,_⟩|⟨y,a,rfl,h,_⟩
  .rw[show cls (aR y)=ncl y from fO y 0];grind
  .rw[fO];grind
 .intro s s' o hs hs';have inj:∀s s' o,mn s=some (some o)->mn s'=some (some o)->s=s':=by
   intro s s' o hs hs';rcases hm s (some o) hs with h|⟨h,e⟩
   .rcases(hokM s _ h).2 with⟨e1,e2,e3⟩|⟨e1,e2,e3⟩
    .grind
    .rcases hm s' (some o) hs' with h'|⟨h',e'⟩
     .grind
     grind
   .rcases hm s' (some o) hs' with h'|⟨h',e'⟩
    .grind
    grind
  rcases hcase s _ hs with⟨y,z,rfl,h,e⟩|⟨y,a,rfl,h,e⟩
  .rcases hcase s' _ hs' with⟨y',z',rfl,h',e'⟩|⟨y',a',rfl,h',e'⟩
   .cases z with
    |none=>cases e
    |some z=>
     cases z' with
     |none=>cases e'
     |some z'=>
      have e:=mj e;have e':=mj e';have:z=z':=lM (e.symm.trans e');grind
   .cases z with
    |none=>cases e
    |some z=>
     have e:=mj e;have e':=mj e';have:=(fL (e.symm.trans e')).2;omega
  .rcases hcase s' _ hs' with⟨y',z',rfl,h',e'⟩|⟨y',a',rfl,h',e'⟩
   .cases z' with
    |none=>cases e'
    |some z'=>
     have e:=mj e;have e':=mj e';have:=(fL (e'.symm.trans e)).2;omega
   grind
 .intro t ht;rw[Frm.jM]at ht;rw[Frm.mM ht,Frm.mM ht];unfold kw;rw[Frm.pS,Frm.pS];split
  .split
   .rename_i hu;exact(hupd _ (vD hu)).1
   .rw[PN];split
    .trivial
    grind
  .rename_i hin;have hh:t∉hav:=by grind
   have hgood:=Zu (λhb=>hh (hbad t hb));obtain⟨pre,e,hpre⟩:=hF;have:Frm.at F' t=Frm.at F t:=by rw[e,Frm.pS,if_neg];intro h;simp only[bZ]at h;obtain⟨q,hq,e⟩:=h;grind
   rw[this];exact zf _ λs hs=>hst s (gn hgood s hs)
 .intro s ob' hs;have kept:∀x o',x∉(obs.map λq=>(q.1,some q.2)).map (·.1)->(jD L obs).at x=some o'->gr rk N0 x=true/\fG (gr rk N0) o'.sites=true/\L'.at x=some o':=by
   intro x o' hnk ho;unfold jD at ho;rw[aU.pS,if_neg hnk]at ho;have hnk':mem (yF obs) x=false:=by
    cases hb:mem (yF obs) x with
    |false=>rfl
    |true=>
     exfalso;have:=(mem_iff _ _).1 hb;unfold yF at this;grind
   have:=gn h5 _ (aU.vD ho);dsimp only at this;rw[hnk',ho]at this;dsimp only at this;split at this
   .rename_i hst;refine⟨hst,this,?_⟩;obtain⟨pre,e⟩:=hL;rw[e,aU.pS,if_neg,ho];intro hin;have h4':=h4;rw[e]at h4';rw[show(pre++L).length-L.length=pre.length by simp,Cp]at h4';simp only[bZ]at hin;obtain⟨q,hq,e2⟩:=hin;have:=gn h4' q hq;rw[e2,hnk']at this;rw[(j7 _ _).2 (hstay x hst).2.1]at this;cases this
   .cases this
  have told:∀x,x∈(obs.map λq=>(q.1,some q.2)).map (·.1)->∃q∈obs,q.1=x/\(jD L obs).at x=some q.2:=by
   intro x hk;have e:(jD L obs).at x=aU.at (obs.map λq=>(q.1,some q.2)) x:=by unfold jD;rw[aU.pS,if_pos hk]
   rw[e];exact M6 (by grind)
  rcases kP s with⟨x,rfl⟩|⟨x,a,rfl⟩|hno
  .change Sg.a (jD L obs).at (aR x)=some ob' at hs;rw[Sg.cM]at hs;by_cases hk:x∈(obs.map λq=>(q.1,some q.2)).map (·.1)
   .obtain⟨q,hq,rfl,ho⟩:=told x hk;rw[ho]at hs;cases hs;rcases hobs q hq with⟨_,⟨y,ob,g1,g2,g3⟩|⟨g1,g2,g3⟩⟩|⟨g1,g2,g3,g4⟩
    .rw[g1];exact⟨ob.ob y,by show Sg.a L'.at (aR y)=_;rw[Sg.cM,g2];rfl,g3⟩
    .grind
    .have hq':=hfst q.1 g1 g2;rw[show m (aR q.1)=some (some (aR q.1))from hst q.1 hq' 0];exact⟨q.2.ob q.1,by show Sg.a L'.at (aR q.1)=_;rw[Sg.cM,g3];rfl,I5 _ q.1 (hst q.1 hq') (by grind)⟩
   .cases ho:(jD L obs).at x with
    |none=>grind
    |some o'=>
     rw[ho]at hs;cases hs;obtain⟨k1,k2,k3⟩:=kept x o' hk ho;rw[show m (aR x)=some (some (aR x))from hst x k1 0];exact⟨o'.ob x,by show Sg.a L'.at (aR x)=_;rw[Sg.cM,k3];rfl,I5 _ x (hst x k1) λs hs=>hst s (gn k2 s hs)⟩
  .change Sg.a (jD L obs).at (inn x (a+1))=some ob' at hs;rw[Sg.fW]at hs;by_cases hk:x∈(obs.map λq=>(q.1,some q.2)).map (·.1)
   .obtain⟨q,hq,rfl,ho⟩:=told x hk;rw[ho]at hs;rcases hobs q hq with⟨hfl,_⟩|⟨g1,g2,g3,g4⟩
    .have:=SOb.zY hfl a;grind
    .have hq':=hfst q.1 g1 g2;rw[show m (inn q.1 (a+1))=some (some (inn q.1 (a+1)))from hst q.1 hq' (a+1)];exact⟨ob',by show Sg.a L'.at (inn q.1 (a+1))=_;rw[Sg.fW,g3];exact hs,Jk hs⟩
   .cases ho:(jD L obs).at x with
    |none=>grind
    |some o'=>
     rw[ho]at hs;obtain⟨k1,k2,k3⟩:=kept x o' hk ho;rw[show m (inn x (a+1))=some (some (inn x (a+1)))from hst x k1 (a+1)];exact⟨ob',by show Sg.a L'.at (inn x (a+1))=_;rw[Sg.fW,k3];exact hs,Jk hs⟩
  .change Sg.a (jD L obs).at s=some ob' at hs;rw[Sg.js _ hno]at hs;cases hs
end
end
section
noncomputable section
def yG(N x s z:Nat):Bool:=match ib (ncl z) N,bH z s,bH z x with
 |true,false,false=>true
 |_,_,_=>false
def xw(N x s:Nat)(v:SV):Bool:=match v with
 | .owF y _=>(match ib (ncl y) N,bH y s with|true,false=>true|_,_=>false)
 |v=>fG (yG N x s) v.sites
def mS(N x s:Nat)(v:SV):Bool:=match v with
 | .agg l=>fG (xw N x s) l
 |v=>xw N x s v
def BW(N x s y:Nat)(ob:SOb):Bool:=match yG N x s y with
 |true=>(match ob with
  | .box _ cs=>fG (mS N x s) cs
  | .arr _ _ cs=>fG (mS N x s) cs
  | .row .. =>true
  | .mp _=>true
  | .fam _ _ _ _ ov=>fG (λq:Nat×SV=>mS N x s q.2) ov)
 |false=>false
open Classical in
def kV(N x a s:Nat):Rf:=λt=>if cls t<N then(if t=inn x (a+1)then some (some (aR s))else if t=aR s then none else some (some t))else none
def AD{N x s z:Nat}(h:yG N x s z=true):ncl z<N/\z≠s/\z≠x:=by
 unfold yG at h;split at h
 .rename_i h1 h2 h3;exact⟨(j7 _ _).1 h1,l8 h2,l8 h3⟩
 .cases h
def LP{N x a s t:Nat}(h1:cls t<N)(h2:t≠inn x (a+1))(h3:t≠aR s):kV N x a s t=some (some t):=by unfold kV;grind
def zR{N x a s z:Nat}(h1:ncl z<N)(h2:z≠s):kV N x a s (aR z)=some (some (aR z)):=
 LP (by rw[show cls (aR z)=ncl z from fO z 0];exact h1) (λe=>by have:=(fL e).2;omega) (λe=>h2 (lM e))
def wg{N x a s z b:Nat}(h1:ncl z<N)(h2:z=x->b≠a):kV N x a s (inn z (b+1))=some (some (inn z (b+1))):=
 LP (by rw[fO];exact h1) (λe=>h2 (fL e).1 (by have:=(fL e).2;omega)) (λe=>by have:=(fL e).2;omega)
def U3{N x a s z:Nat}(h:yG N x s z=true):vQ (kV N x a s) z:=by
 obtain⟨h1,h2,h3⟩:=AD h;intro b;cases b with
 |zero=>exact zR h1 h2
 |succ b=>exact wg h1 (by grind)
def Jj{N x a s:Nat}{v:SV}(h:xw N x s v=true):cU (kV N x a s) v.av v.av:=by
 unfold xw at h;split at h
 .rename_i y n;split at h
  .rename_i h1 h2;exact .inl ⟨_,zR ((j7 _ _).1 h1) (l8 h2),rfl⟩
  .cases h
 .exact zf v λz hz=>U3 (gn h z hz)
def I9{N x a s:Nat}:∀{cs:List SV},(∀v∈cs,xw N x s v=true)->fJ (kV N x a s) (avs cs) (avs cs)
 |[],_=>by rfl
 |v::cs,h=>by
  exact⟨_,_,rfl,Jj (by grind),I9 (by grind)⟩
def AE{N x a s:Nat}{v:SV}(h:mS N x s v=true):cU (kV N x a s) v.av v.av:=by
 unfold mS at h;split at h
 .exact zo (I9 (gn h))
 .exact Jj h
def Dc{N x a s:Nat}:∀{cs:List SV},(∀v∈cs,mS N x s v=true)->fJ (kV N x a s) (avs cs) (avs cs)
 |[],_=>by rfl
 |v::cs,h=>by
  exact⟨_,_,rfl,AE (by grind),Dc (by grind)⟩
def OU(F:Frm)(t:Nat):∀hav:List Nat,Frm.at ((hav.map λd=>(d,SV.any))++F) t=SV.any\/(t∉hav/\Frm.at ((hav.map λd=>(d,SV.any))++F) t=F.at t)
 |[] =>by grind
 |d::hav=>by
  rw[dB,kM,Frm.lV];by_cases h:t=d
  .grind
  .rw[if_neg h];rcases OU F t hav with h1|⟨h1,h2⟩
   .exact .inl h1
   grind
def y9{a i:Nat}(h:i≠a):∀ov:List (Nat×SV),(ov.filter λq=> !(bH q.1 a)).lookup i=ov.lookup i
 |[] =>rfl
 |q::ov=>by
  rw[List.filter_cons,dV];cases hq:bH q.1 a with
  |true=>
   have:=dI hq;rw[if_neg (by simp),y9 h ov,beq_eq_false_iff_ne.2 (by omega)]
  |false=>
   rw[if_pos (by simp),dV,y9 h ov]
def y6{a:Nat}:∀ov:List (Nat×SV),(ov.filter λq=> !(bH q.1 a)).lookup a=none
 |[] =>rfl
 |q::ov=>by
  rw[List.filter_cons];cases hq:bH q.1 a with
  |true=>exact y6 ov
  |false=>rw[if_pos (by simp),dV,beq_eq_false_iff_ne.2 (λe=>l8 hq e.symm)];exact y6 ov
def Vh{n N0 N x a s k:Nat}{F:Frm}{L:aU}{ty ity:TypeId}{lt:LT}{M:List (List lt.ty)}{l:List lt.ty}{ov:List (Nat×SV)}{hav:List Nat}
  (hx:L.at x=some (.fam ty ity lt M ((a,.own s lt k)::ov))) (hs:L.at s=some (.row ity lt l)) (ha:a<M.length) (hk:k=l.length) (hxN:ncl x<N)
  (hov:∀q∈ov,q.1≠a->mS N x s q.2=true) (hF:∀t,t<n->t∈hav\/mS N x s (F.at t)=true) (hL:∀y ob,L.at y=some ob->y=x\/y=s\/BW N x s y ob=true):
  fa (F.av n) L.fn N0 (Frm.av n ((hav.map λd=>(d,SV.any))++F)) (aU.fn ((x,some (.fam ty ity lt (M.set a l) (ov.filter λq=> !(bH q.1 a))))::(s,none)::L)) N:=by
 have hxs:x≠s:=λe=>by grind
 refine Mu (kV N x a s) ?_ ?_ (by rw[Frm.jM,Frm.jM]) ?_ ?_
 .intro t y ht;unfold kV at ht;grind
 .intro t t' o ht ht';unfold kV at ht ht';grind
 .intro t ht;rw[Frm.jM]at ht;rw[Frm.mM ht,Frm.mM ht];rcases OU F t hav with h|⟨h1,h2⟩
  .rw[h];trivial
  .rw[h2];exact AE (by grind)
 .intro t ob' ht;have hat:∀y,aU.at ((x,some (.fam ty ity lt (M.set a l) (ov.filter λq=> !(bH q.1 a))))::(s,none)::L) y=if y=x then some (.fam ty ity lt (M.set a l) (ov.filter λq=> !(bH q.1 a)))else if y=s then none else L.at y:=by
   intro y;show(match bH y x with|true=>_|false=>(match bH y s with|true=>_|false=>_))=_;cases h1:bH y x with
   |true=>simp_all
   |false=>
    rw[if_neg (l8 h1)];cases h2:bH y s with
    |true=>simp_all
    |false=>rw[if_neg (l8 h2)]
  have hset:∀i,i≠a->(M.set a l).getD i [] =M.getD i [] :=by grind
  have hseta:(M.set a l).getD a [] =l:=by rw[du,List.getElem?_set_self ha];rfl
  have hcons:∀i,i≠a->iE i ((a,SV.own s lt k)::ov)=ov.lookup i:=by grind
  rcases kP t with⟨y,rfl⟩|⟨y,b,rfl⟩|hno
  .change Sg.a _ (aR y)=some ob' at ht;rw[Sg.cM,hat y]at ht;by_cases hyx:y=x
   .subst hyx;rw[if_pos rfl]at ht;have ht:=mj ht;rw[zR hxN hxs];refine⟨_,by show Sg.a L.at (aR y)=_;rw[Sg.cM,hx];rfl,?_⟩;rw[<-ht];refine⟨rfl,rfl,?_⟩;show fJ _ ((bQ (M.set a l).length).map (i5 y (M.set a l) (ov.filter λq=> !(bH q.1 a)))) ((bQ M.length).map (i5 y M ((a,.own s lt k)::ov)));rw[vw];refine uJ _ _ _ λi _=> ?_;unfold i5;by_cases hi:i=a
    .subst hi;rw[y6,dV,beq_iff_eq.2 rfl,hseta];show cU _ (.own (inn y (i+1)) 0 l.length) (.own (aR s) 0 k);refine .inl ⟨aR s,?_,by rw[hk]⟩;unfold kV;rw[if_pos (by rw[fO];exact hxN),if_pos rfl]
    .rw[y9 hi,hcons i hi,hset i hi];cases ho:ov.lookup i with
     |some v=>exact AE (hov (i,v) (EB ho) hi)
     |none=>
      exact .inl ⟨_,wg hxN λ_=>hi,rfl⟩
   .rw[if_neg hyx]at ht;by_cases hys:y=s
    .grind
    .rw[if_neg hys]at ht;cases ho:L.at y with
     |none=>grind
     |some ob=>
      rw[ho]at ht;have ht:=mj ht;have hk':=((hL y ob ho).resolve_left hyx).resolve_left hys;unfold BW at hk';split at hk'
      case h_2=>cases hk'
      rename_i hz;rw[zR (AD hz).1 hys];refine⟨_,by show Sg.a L.at (aR y)=_;rw[Sg.cM,ho];rfl,?_⟩;rw[<-ht];split at hk'
      .exact⟨rfl,rfl,Dc (gn hk')⟩
      .exact⟨rfl,rfl,Dc (gn hk')⟩
      .exact⟨rfl,rfl,j5 _ _⟩
      .refine⟨rfl,rfl,?_⟩;show fJ _ (fu (gY _)) (fu (gY _));rw[sI];exact j5 _ _
      .refine⟨rfl,rfl,uJ _ _ _ λi _=> ?_⟩;unfold i5;split
       .rename_i v hv;exact AE (gn hk' (i,v) (EB hv))
       .exact .inl ⟨_,wg (AD hz).1 (by grind),rfl⟩
  .change Sg.a _ (inn y (b+1))=some ob' at ht;rw[Sg.fW,hat y]at ht;by_cases hyx:y=x
   .subst hyx;rw[if_pos rfl]at ht;change (match iE b (ov.filter λq=> !(bH q.1 a))with|some _=>none|none=>((M.set a l)[b]?).map λl=>(⟨ity,lt.w,(lt.enc l).map .p⟩:Ob))=some ob' at ht;by_cases hb:b=a
    .subst hb;rw[y6,List.getElem?_set_self ha]at ht;have ht:=mj ht;have hm:kV N y b s (inn y (b+1))=some (some (aR s)):=by unfold kV;rw[if_pos (by rw[fO];exact hxN),if_pos rfl]
     rw[hm];refine⟨_,by show Sg.a L.at (aR s)=_;rw[Sg.cM,hs];rfl,?_⟩;rw[<-ht];exact⟨rfl,rfl,j5 _ _⟩
    .rw[y9 hb,List.getElem?_set_ne (Ne.symm hb)]at ht;rw[wg hxN λ_=>hb];refine⟨ob',?_,?_⟩
     .show Sg.a L.at (inn y (b+1))=_;rw[Sg.fW,hx];show(match iE b ((a,SV.own s lt k)::ov)with|some _=>none|none=>(M[b]?).map λl=>(⟨ity,lt.w,(lt.enc l).map .p⟩:Ob))=_;grind
     .split at ht
      .cases ht
      .cases hM:M[b]? with
       |none=>grind
       |some l'=>
        rw[hM]at ht;rw[<-mj ht];exact⟨rfl,rfl,j5 _ _⟩
   .rw[if_neg hyx]at ht;by_cases hys:y=s
    .grind
    .rw[if_neg hys]at ht;cases ho:L.at y with
     |none=>grind
     |some ob=>
      have hk':=((hL y ob ho).resolve_left hyx).resolve_left hys;unfold BW at hk';split at hk'
      case h_2=>cases hk'
      rename_i hz;rw[wg (AD hz).1 (by grind)];rw[ho]at ht;refine⟨ob',by show Sg.a L.at (inn y (b+1))=_;rw[Sg.fW,ho];exact ht,?_⟩;change SOb.inner b ob=some ob' at ht;unfold SOb.inner at ht;split at ht
      .split at ht
       .cases ht
       .rename_i M' _ _ _;cases hM:M'[b]? with
        |none=>grind
        |some l'=>
         rw[hM]at ht;rw[<-mj ht];exact⟨rfl,rfl,j5 _ _⟩
      .cases ht
  .change Sg.a _ t=some ob' at ht;rw[Sg.js _ hno]at ht;cases ht
def JB{a:Nat}:∀{ov:List (Nat×SV)},(∀p∈mV ov a,p)->(ov.filter λq=> !(bH q.1 a))=ov
 |[],_=>rfl
 |q::ov,h=>by
  have h1:a≠q.1:=h _ cI;have h2:bH q.1 a=false:=by
   cases hb:bH q.1 a with
   |true=>simp_all
   |false=>rfl
  rw[List.filter_cons,if_pos (by rw[h2];rfl),JB λp hp=>h p (cE _ hp)]
def vP(N x s:Nat)(F:Frm):Frm->List Nat
 |[] =>[]
 |(d,_)::r=>match mS N x s (F.at d)with
  |true=>vP N x s F r
  |false=>d::vP N x s F r
def FH{N x s t:Nat}{F:Frm}:∀{G:Frm},t∈G.map (·.1)->t∈vP N x s F G\/mS N x s (F.at t)=true
 |[],h=>by grind
 |(d,v)::G,h=>by
  unfold vP;cases hk:mS N x s (F.at d)with
  |true=>
   rcases bT.1 h with h|h
   .grind
   .exact FH h
  |false=>
   rcases bT.1 h with h|h
   .grind
   .rcases FH (G:=G) h with h|h
    .exact .inl (cE _ h)
    grind
def PJ{t:Nat}:∀{G:Frm},t∉G.map (·.1)->G.at t=Frm.at [] t
 |[],_=>rfl
 |(d,v)::G,h=>by
  rw[Frm.lV,if_neg (by grind),PJ (by grind)]
def xM(N x:Nat)(F:Frm)(L:aU):Option (List Prop×Frm×aU):=match L.at x with
 |some (.fam ty ity lt M ((a,.own s lt' k)::ov))=>(match L.at s with
  |some (.row ity' lt2 l)=>(match decEq lt' lt,decEq lt2 lt,bH ity' ity,ib (ncl x) N,fG (λq:Nat×SV=>mS N x s q.2) ov,fG (λq:Nat×Option SOb=>match bH q.1 x,bH q.1 s,L.at q.1 with|false,false,some ob=>BW N x s q.1 ob|_,_,_=>true) L with
   | .isTrue _,.isTrue h,true,true,true,true=>some ((a<M.length)::(k=l.length)::mV ov a,((vP N x s F F).map λd=>(d,SV.any))++F,(x,some (.fam ty ity lt (M.set a (h▸l:List lt.ty)) ov))::(s,none)::L)
   |_,_,_,_,_,_=>none)
  |_=>none)
 |_=>none
def PK{y:Nat}{ob:SOb}:∀{L:aU},L.at y=some ob->∃q∈L,q.1=y
 |[],h=>by cases h
 |(k,o)::L,h=>by
  cases hb:bH y k with
  |true=>simp_all
  |false=>
   have:aU.at L y=some ob:=by change (match bH y k with|true=>o|false=>aU.at L y)=some ob at h;rw[hb]at h;exact h
   obtain⟨q,h1,h2⟩:=PK this;grind
def TP{n N0 N x:Nat}{F F':Frm}{L L':aU}{ps:List Prop}(h:xM N x F L=some (ps,F',L'))(hp:∀p∈ps,p):fa (F.av n) L.fn N0 (F'.av n) L'.fn N:=by
 unfold xM at h;split at h
 case h_2=>cases h
 rename_i ty ity lt M a s lt' k ov hx;split at h
 case h_2=>cases h
 rename_i ity' lt2 l hs;split at h
 case h_2=>cases h
 rename_i e1 e2 _ _ hi hN hov hL;subst e1;subst e2;cases h;have hi:=dI hi;subst hi;have hne:∀p∈mV ov a,p:=by grind
 have:=Vh (n:=n) (N0:=N0) (N:=N) (F:=F) (hav:=vP N x s F F) hx hs (hp _ (by grind)) (hp _ (by grind)) ((j7 _ _).1 hN) (λq hq _=>gn hov q hq) (λt _=> ?_) (λy ob ho=> ?_)
 .rw[JB hne]at this;exact this
 .by_cases hm:t∈F.map (·.1)
  .exact FH hm
  .right;rw[PJ hm];rfl
 .obtain⟨q,hq,rfl⟩:=PK ho;have:=gn hL q hq;split at this
  .grind
  .by_cases hx':q.1=x
   .omega
   .by_cases hs':q.1=s
    .omega
    .have b1:bH q.1 x=false:=by
      cases hb:bH q.1 x with
      |true=>exact absurd (dI hb) hx'
      |false=>rfl
     have b2:bH q.1 s=false:=by
      cases hb:bH q.1 s with
      |true=>exact absurd (dI hb) hs'
      |false=>rfl
     grind
def sx(N:Nat):Nat->List Nat->Frm->aU->List Prop×Frm×aU
 |0,_,F,L=>([],F,L)
 |_+1,[],F,L=>([],F,L)
 |f+1,x::xs,F,L=>match xM N x F L with
  |some (ps,F',L')=>(match sx N f (x::xs) F' L' with|(qs,r)=>(ps++qs,r))
  |none=>sx N f xs F L
def DX{n N:Nat}:∀{f:Nat} {xs:List Nat} {F F':Frm} {L L':aU} {ps:List Prop},sx N f xs F L=(ps,F',L')->(∀p∈ps,p)->∀N0,(ps=[]/\F'=F/\L'=L)\/fa (F.av n) L.fn N0 (F'.av n) L'.fn N
 |0,xs,F,F',L,L',ps,h,_,_=>by cases h;grind
 |f+1,[],F,F',L,L',ps,h,_,_=>by cases h;grind
 |f+1,x::xs,F,F',L,L',ps,h,hp,N0=>by
  unfold sx at h;split at h
  .rename_i p1 F1 L1 h1;split at h;rename_i qs r h2;cases h;have w1:=TP (n:=n) (N0:=N0) h1 λp hq=>hp p (by grind);rcases DX (n:=n) h2 (λp hq=>hp p (by grind)) N with⟨_,rfl,rfl⟩|w2
   .exact .inr w1
   .exact .inr λC0 B wI a w hst=>w2 C0 B wI a w (w1 C0 B wI a w hst)
  .exact DX h hp N0
def Tn{N x:Nat}{F F':Frm}{L L':aU}{ps:List Prop}(h:xM N x F L=some (ps,F',L')):(∃p,F'=p++F)/\∃q,L'=q++L:=by
 unfold xM at h;split at h
 case h_2=>cases h
 split at h
 case h_2=>cases h
 split at h
 case h_2=>cases h
 cases h;exact⟨⟨_,rfl⟩,⟨[(_,_),(_,_)],rfl⟩⟩
def Dw{N:Nat}:∀{f:Nat} {xs:List Nat} {F F':Frm} {L L':aU} {ps:List Prop},sx N f xs F L=(ps,F',L')->(∃p,F'=p++F)/\∃q,L'=q++L
 |0,xs,F,F',L,L',ps,h=>by cases h;simp_all
 |f+1,[],F,F',L,L',ps,h=>by cases h;simp_all
 |f+1,x::xs,F,F',L,L',ps,h=>by
  unfold sx at h;split at h
  .rename_i p1 F1 L1 h1;split at h;rename_i qs r h2;obtain⟨⟨p,e1⟩,⟨q,e2⟩⟩:=Tn h1;obtain⟨⟨p',e3⟩,⟨q',e4⟩⟩:=Dw h2;grind
  .exact Dw h
def Gd:aU->List Nat
 |[] =>[]
 |(k,some (.fam ..))::L=>k::Gd L
 |_::L=>Gd L
end
end
def frS(s:Nat)(cells:List PV)(x' y:AV):Prop:=x'= .any\/x'=y\/∃n,y= .own s 0 n/\x'= .p (.sl n cells)
def frO(s:Nat)(cells:List PV)(o:Option Ob)(ob:Ob):Prop:=o=some ob\/∃ob0,o=some ob0/\ob.ty=ob0.ty/\ob.esz=ob0.esz/\¬(ob.esz=0/\(ob.ty=0\/ob.ty=1))/\ob.cells.length=ob0.cells.length/\
 ∀(i:Nat) x,ob.cells[i]? =some x->∃y,ob0.cells[i]? =some y/\frS s cells x y
def frO.get{s:Nat}{cells:List PV}{o:Option Ob}{ob:Ob}(h:frO s cells o ob):∃ob0,o=some ob0/\ob.ty=ob0.ty/\ob.esz=ob0.esz:=by
 rcases h with h|⟨ob0,h1,h2,h3,_⟩
 .grind
 grind
def DG{F F':List AV}{L L':Sto}{N:Nat}{ty esz:Nat}(s:Nat)(cells:List PV)(hs:L s=some ⟨ty,esz,cells.map .p⟩)(hz:esz≠0)(hl:F'.length=F.length)
  (hF:∀t,t<F.length->frS s cells (F'.getD t .any) (F.getD t .any)) (hL:∀k ob,L' k=some ob->k≠s/\frO s cells (L k) ob):fa F L N F' L' N:=by
 intro C0 B wI a w ⟨⟨ρ,s1,s2,s3⟩,s4,s5,s6,s7⟩;have hdead:∀k,L k=none->L' k=none:=by
  intro k hk;cases h:L' k with
  |none=>rfl
  |some ob=>obtain⟨ob0,h0,_⟩:=(hL k ob h).2.get;grind
 have hmono:∀b o v,bF C0 B w ρ L b o v->bF C0 B w ρ L' b o v:=λb o v ⟨e1,e2,e3⟩=>⟨e1,λk c h=>hdead k (e2 k c h),e3⟩;have hone:∀x' y v,frS s cells x' y->aW ρ (bF C0 B w ρ L) y v->aW ρ (bF C0 B w ρ L') x' v:=by
  rintro x' y v (rfl|rfl|⟨n,rfl,rfl⟩) hv
  .unfold aW;trivial
  .exact aW.mono (λ_ _ h=>h) hmono _ v hv
  .unfold aW at hv|-;obtain⟨q,c,hρ,hcase⟩:=hv;obtain⟨q2,c2,hρ2,hob⟩:=s1.ob s _ hs;rw[hρ]at hρ2;cases hρ2;unfold aX;rcases hcase with⟨h1,h4,h5,_⟩|⟨b,o',c',h1,h4,h5,h6,h7⟩
   .subst h5;rcases hob with⟨_,⟨_,h8,_⟩|⟨h8,_⟩⟩|⟨b,arr,h8,_⟩
    .exact⟨none,0,h4,Nat.le_refl _,λ_=>⟨rfl,by simp_all⟩,λad e=>by cases e⟩
    .grind
    grind
   .obtain⟨rfl,rfl⟩:=h7 rfl;rcases hob with⟨h8,_⟩|⟨b2,arr,h8,h9,h10⟩
    .grind
    .rw[h1]at h8;cases h8;refine⟨_,c',h4,h5,(λe=>by cases e),λad e=> ?_⟩;cases e;refine⟨λ_=>rfl,cP.of _ _ _ λi x hi=> ?_⟩;obtain⟨u,k1,k2,k3⟩:=h10.cells i (.p x) (by grind);unfold aW at k3;refine⟨u,⟨by rw[jy,h10.cell];exact k1,λk c2 hk=> ?_,.inl h9⟩,k2,aX.mono hmono x u k3⟩;cases h:L' k with
     |none=>rfl
     |some ob=>
      obtain⟨hne,h2⟩:=hL k ob h;obtain⟨ob0,h2,_⟩:=h2.get;exact absurd (s1.inj k s ob0 _ b c2 c' h2 hs hk (by rw[hρ,h1])) hne
 refine⟨⟨ρ,⟨?_,?_,?_⟩,s2,?_⟩,s4,s5,by rw[s6,hl],s7⟩
 .intro k ob hk;obtain⟨hne,h2|⟨ob0,h2,g1,g2,g3,g4,g5⟩⟩:=hL k ob hk
  .obtain⟨q,c,hρ,hcase⟩:=s1.ob k ob h2;refine⟨q,c,hρ,?_⟩;rcases hcase with⟨g1,g2⟩|⟨b,arr,g1,g2,g3⟩
   .refine .inl ⟨g1,?_⟩;rcases g2 with g2|⟨g2,g3⟩
    .exact .inl g2
    .exact .inr ⟨g2,g3.mono (λ_ _ h=>h) hmono λ_ _ _ _=>rfl⟩
   .refine .inr ⟨b,arr,g1,g2,⟨g3.blk,g3.box,g3.row,λi x hi=> ?_⟩⟩;obtain⟨v,m1,m2,m3⟩:=g3.cells i x hi;exact⟨v,m1,m2,aW.mono (λ_ _ h=>h) hmono _ v m3⟩
  .obtain⟨q,c,hρ,hcase⟩:=s1.ob k ob0 h2;refine⟨q,c,hρ,?_⟩;rcases hcase with⟨k1,⟨k2,k3,k4⟩|⟨k2,k3⟩⟩|⟨b,arr,k1,k2,k3⟩
   .grind
   .exfalso;refine g3 ⟨by omega,?_⟩;rw[g1];rcases k3 with⟨k3,_⟩|⟨k3,_⟩
    .exact .inl k3
    grind
   .refine .inr ⟨b,arr,k1,k2,⟨by rw[g1];exact k3.blk,λh=>by rw[g4];exact k3.box (by omega),λh=>by rw[g4,g2];exact k3.row (by omega),λi x hi=> ?_⟩⟩;obtain⟨y,y1,y2⟩:=g5 i x hi;obtain⟨v,m1,m2,m3⟩:=k3.cells i y y1;grind
 .intro k k' o o' b c c' h1 h2 h3 h4;obtain⟨o1,e1,_⟩:=(hL k o h1).2.get;obtain⟨o2,e2,_⟩:=(hL k' o' h2).2.get;exact s1.inj k k' o1 o2 b c c' e1 e2 h3 h4
 .intro k k' o o' c c' h1 h2 h3 h4 h5 h6 h7;obtain⟨o1,e1,a1,a2⟩:=(hL k o h1).2.get;obtain⟨o2,e2,b1,b2⟩:=(hL k' o' h2).2.get;refine s1.mpi k k' o1 o2 c c' e1 e2 (by omega) (by omega) h5 h6 ?_;unfold rP at h7|-;grind
 .intro t;rcases nY t F.length with h|h
  .grind
  .rw[du,l7 (by omega)];show aW _ _ .any _;unfold aW;trivial
noncomputable section
def xx(d:Nat)(F:Frm)(L:aU):Option (List Prop×Frm×aU):=match F.at d with
 | .ownx s n=>(match L.at s with
   |some (.arr _ ez cs)=>(match bM (avs cs),bH ez 0 with
    |some _,false=>some ([],(d,.sl n cs)::F,(s,none)::L)
    |_,_=>none)
   |_=>none)
 | .own s _ n=>(match L.at s with
   |some (.row _ lt l)=>some ([n=l.length],(d,.lst lt l)::F,(s,none)::L)
   |_=>none)
 |_=>none
def Av{L:aU}{s:Nat}{ob:SOb}(hs:L.at s=some ob)(hf:ob.flat=true){k:Nat}{o:Ob}(h:aU.fn ((s,none)::L) k=some o):k≠aR s/\L.fn k=some o:=by have h1:=(bY.flat (σ:=L.at) (rd:=[]) (W:=[(s,none)]) λq hq=>by rw[bi.1 hq,hs];exact⟨hf,rfl⟩).2.2;rw[aU.Bg]at h1;have h2:aU.fn ((s,none)::L)=bC L.fn [(aR s,none)] :=h1.symm;rw[h2]at h;unfold bC at h;grind
def NV{n d t:Nat}{v:SV}{F:Frm}(ht:t<n):(Frm.av n ((d,v)::F)).getD t .any=if t=d then v.av else(F.av n).getD t .any:=by rw[Frm.mM ht,Frm.mM ht,Frm.lV];split<;>rfl
def UC{n N d:Nat}{F F':Frm}{L L':aU}{ps:List Prop}(h:xx d F L=some (ps,F',L'))(hp:∀p∈ps,p):fa (F.av n) L.fn N (F'.av n) L'.fn N:=by
 unfold xx at h;split at h
 .rename_i s m hd;split at h
  case h_2=>cases h
  rename_i ty ez cs hs;split at h<;>cases h;rename_i q hq hz;refine DG (aR s) q (ty:=ty) (esz:=ez) ?_ (l8 hz) (by rw[Frm.jM,Frm.jM]) ?_ λk ob hk=>⟨(Av hs rfl hk).1,.inl (Av hs rfl hk).2⟩
  .show Sg.a L.at (aR s)=_;rw[Sg.cM,hs,<-i9 hq];rfl
  .intro t ht;rw[Frm.jM]at ht;rw[NV ht];by_cases e:t=d
   .subst e;rw[if_pos rfl,Frm.mM ht,hd];exact .inr (.inr ⟨m,rfl,by show(match bM (avs cs)with|some q=>AV.p (.sl m q)|none=> .any)=_;rw[hq]⟩)
   .rw[if_neg e];exact .inr (.inl rfl)
 .rename_i s t0 m hd;split at h<;>cases h;rename_i ty lt l hs;have hm:m=l.length:=hp _ (bi.2 rfl);refine DG (aR s) (lt.enc l) (ty:=ty) (esz:=lt.w) ?_ (nk lt.kU) (by rw[Frm.jM,Frm.jM]) ?_ λk ob hk=>⟨(Av hs rfl hk).1,.inl (Av hs rfl hk).2⟩
  .show Sg.a L.at (aR s)=_;rw[Sg.cM,hs];rfl
  .intro t ht;rw[Frm.jM]at ht;rw[NV ht];by_cases e:t=d
   .subst e;rw[if_pos rfl,Frm.mM ht,hd];exact .inr (.inr ⟨m,rfl,by rw[hm];rfl⟩)
   .rw[if_neg e];exact .inr (.inl rfl)
 .cases h
def Hk(L:aU):SV->Option (List Prop×SV×Nat)
 | .ownx s n=>(match L.at s with
   |some (.arr _ ez cs)=>(match bM (avs cs),bH ez 0 with
    |some _,false=>some ([],.sl n cs,s)
    |_,_=>none)
   |_=>none)
 | .own s _ n=>(match L.at s with
   |some (.row _ lt l)=>some ([n=l.length],.lst lt l,s)
   |_=>none)
 |_=>none
def WZ{L:aU}{v w:SV}{s:Nat}{ps:List Prop}(h:Hk L v=some (ps,w,s))(hp:∀p∈ps,p):∃ob,L.at s=some ob/\ob.flat=true/\∃ty esz cells n,ob.ob s=⟨ty,esz,cells.map .p⟩/\esz≠0/\v.av= .own (aR s) 0 n/\w.av= .p (.sl n cells)/\(∀ty cs,ob≠ .box ty cs):=by
 unfold Hk at h;split at h
 .rename_i s m;split at h
  case h_2=>cases h
  rename_i ty ez cs hs;split at h<;>cases h;rename_i q hq hz;exact⟨_,hs,rfl,ty,ez,q,m,by rw[<-i9 hq];rfl,l8 hz,rfl,by show(match bM (avs cs)with|some q=>AV.p (.sl m q)|none=> .any)=_;rw[hq],λ_ _=>nofun⟩
 .rename_i s t0 m;split at h<;>cases h;rename_i ty lt l hs;have hm:m=l.length:=hp _ (bi.2 rfl);exact⟨_,hs,rfl,ty,lt.w,lt.enc l,m,rfl,nk lt.kU,rfl,by rw[hm];rfl,λ_ _=>nofun⟩
 .cases h
def xy(k i:Nat)(L:aU):Option (List Prop×aU):=match L.at k with
 |some (.box ty cs)=>(match cs[i]?,mi ty 1 with
  |some v,false=>(match Hk L v with
   |some (ps,w,s)=>some (ps,(k,some (.box ty (cs.set i w)))::(s,none)::L)
   |none=>none)
  |_,_=>none)
 |_=>none
def UD{n N k i:Nat}{F:Frm}{L L':aU}{ps:List Prop}(h:xy k i L=some (ps,L'))(hp:∀p∈ps,p):fa (F.av n) L.fn N (F.av n) L'.fn N:=by
 unfold xy at h;split at h
 case h_2=>cases h
 rename_i ty cs hk;split at h
 case h_2=>cases h
 rename_i v hv hty;split at h<;>cases h;rename_i w s hf;obtain⟨ob,e1,e2,tys,esz,cells,m,e3,e4,e5,e6,e7⟩:=WZ hf hp;have hks:k≠s:=λe=>by grind
 have hty:¬ty<=1:=λhh=>by rw[Nat.ble_eq_true_of_le hh]at hty;cases hty
 have up:aU.fn ((k,some (.box ty (cs.set i w)))::(s,none)::L)=bC L.fn [(aR k,some ((SOb.box ty (cs.set i w)).ob k)),(aR s,none)] :=by
  have h1:=(bY.flat (σ:=L.at) (rd:=[]) (W:=[(k,some (.box ty (cs.set i w))),(s,none)]) λq hq=>by
   rcases bT.1 hq with rfl|hq
   .rw[hk];exact⟨rfl,rfl⟩
   .rw[bi.1 hq,e1];exact⟨e2,rfl⟩).2.2
  rw[aU.Bg]at h1;exact h1.symm
 refine DG (aR s) cells (ty:=tys) (esz:=esz) ?_ e4 rfl (λt ht=> .inr (.inl rfl)) λj ob' hj=> ?_
 .show Sg.a L.at (aR s)=_;rw[Sg.cM,e1,eO,e3]
 .rw[up]at hj;unfold bC at hj;rw[dV,dV]at hj;by_cases h1:j=aR k
  .subst h1;rw[beq_iff_eq.2 rfl]at hj;cases hj;refine⟨λe=>hks (lM e),.inr ⟨(SOb.box ty cs).ob k,by show Sg.a L.at (aR k)=_;rw[Sg.cM,hk];rfl,rfl,rfl,?_,?_,?_⟩⟩
   .rintro⟨_,hh|hh⟩
    .have hh:ty=0:=hh;grind
    .have hh:ty=1:=hh;grind
   .show(avs (cs.set i w)).length=(avs cs).length;rw[ja,ja,vw]
   .intro a x hx;have hx:(avs (cs.set i w))[a]? =some x:=hx;rw[OT,yl]at hx;by_cases ha:i=a
    .subst ha;have hlt:i<cs.length:=by
      rcases nY i cs.length with h|h
      .exact h
      .grind
     rw[if_pos rfl,if_pos (by grind)]at hx;cases hx;exact⟨v.av,by show(avs cs)[i]? =_;rw[xZ,hv];rfl,.inr (.inr ⟨m,e5,e6⟩)⟩
    .rw[if_neg ha]at hx;exact⟨x,hx,.inr (.inl rfl)⟩
  .rw[beq_eq_false_iff_ne.2 h1]at hj;by_cases h2:j=aR s
   .grind
   .rw[beq_eq_false_iff_ne.2 h2]at hj;exact⟨h2,.inl hj⟩
def VG{k i:Nat}{L L':aU}{ps:List Prop}(h:xy k i L=some (ps,L')):∃q,L'=q++L:=by
 unfold xy at h;split at h
 case h_2=>cases h
 split at h
 case h_2=>cases h
 split at h<;>cases h;exact⟨[(_,_),(_,_)],rfl⟩
def G7(k:Nat):Nat->List SV->List (Nat×Nat)
 |_,[] =>[]
 |i,.lst _ _::r=>(k,i)::G7 k (i+1) r
 |i,_::r=>G7 k (i+1) r
def Hm:List (Nat×SOb)->List (Nat×Nat)
 |[] =>[]
 |(k,.box _ cs)::r=>G7 k 0 cs++Hm r
 |_::r=>Hm r
def s9:List (Nat×Nat)->aU->List Prop×aU
 |[],L=>([],L)
 |d::ds,L=>match xy d.1 d.2 L with
  |some (ps,L')=>(match s9 ds L' with|(qs,r)=>(ps++qs,r))
  |none=>s9 ds L
def Df{n N:Nat}{F:Frm}:∀{ds:List (Nat×Nat)} {L L':aU} {ps:List Prop},s9 ds L=(ps,L')->(∀p∈ps,p)->fa (F.av n) L.fn N (F.av n) L'.fn N
 |[],L,L',ps,h,_=>by cases h;exact fa.rfl
 |d::ds,L,L',ps,h,hp=>by
  unfold s9 at h;split at h
  .rename_i p1 L1 h1;split at h;rename_i qs r h2;cases h;have w1:=UD (n:=n) (N:=N) (F:=F) h1 λp hq=>hp p (iC _ hq);have w2:=Df (n:=n) (N:=N) (F:=F) h2 λp hq=>hp p (fb _ hq);exact λC0 B wI a w hst=>w2 C0 B wI a w (w1 C0 B wI a w hst)
  .exact Df h hp
def EL:∀{ds:List (Nat×Nat)} {L L':aU} {ps:List Prop},s9 ds L=(ps,L')->∃q,L'=q++L
 |[],L,L',ps,h=>by cases h;simp_all
 |d::ds,L,L',ps,h=>by
  unfold s9 at h;split at h
  .rename_i p1 L1 h1;split at h;rename_i qs r h2;cases h;obtain⟨q,e2⟩:=VG h1;obtain⟨q',e4⟩:=EL h2;grind
  .exact EL h
def Hl:Frm->List Nat
 |[] =>[]
 |(d,.lst _ _)::r=>d::Hl r
 |_::r=>Hl r
def tK:List Nat->Frm->aU->List Prop×Frm×aU
 |[],F,L=>([],F,L)
 |d::ds,F,L=>match xx d F L with
  |some (ps,F',L')=>(match tK ds F' L' with|(qs,r)=>(ps++qs,r))
  |none=>tK ds F L
def EK{n N:Nat}:∀{ds:List Nat} {F F':Frm} {L L':aU} {ps:List Prop},tK ds F L=(ps,F',L')->(∀p∈ps,p)->fa (F.av n) L.fn N (F'.av n) L'.fn N
 |[],F,F',L,L',ps,h,_=>by cases h;exact fa.rfl
 |d::ds,F,F',L,L',ps,h,hp=>by
  unfold tK at h;split at h
  .rename_i p1 F1 L1 h1;split at h;rename_i qs r h2;cases h;have w1:=UC (n:=n) (N:=N) h1 λp hq=>hp p (iC _ hq);have w2:=EK (n:=n) (N:=N) h2 λp hq=>hp p (fb _ hq);exact λC0 B wI a w hst=>w2 C0 B wI a w (w1 C0 B wI a w hst)
  .exact EK h hp
def VF{d:Nat}{F F':Frm}{L L':aU}{ps:List Prop}(h:xx d F L=some (ps,F',L')):(∃p,F'=p++F)/\∃q,L'=q++L:=by
 unfold xx at h;split at h
 .split at h
  case h_2=>cases h
  split at h<;>cases h;exact⟨⟨[_],rfl⟩,⟨[_],rfl⟩⟩
 .split at h<;>cases h;exact⟨⟨[_],rfl⟩,⟨[_],rfl⟩⟩
 .cases h
def E7:∀{ds:List Nat} {F F':Frm} {L L':aU} {ps:List Prop},tK ds F L=(ps,F',L')->(∃p,F'=p++F)/\∃q,L'=q++L
 |[],F,F',L,L',ps,h=>by cases h;simp_all
 |d::ds,F,F',L,L',ps,h=>by
  unfold tK at h;split at h
  .rename_i p1 F1 L1 h1;split at h;rename_i qs r h2;cases h;obtain⟨⟨p,e1⟩,⟨q,e2⟩⟩:=VF h1;obtain⟨⟨p',e3⟩,⟨q',e4⟩⟩:=E7 h2;grind
  .exact E7 h
end
noncomputable section
inductive Ann:Type 1
 |mk (Y:Type) (wit:Frm->aU->Option Y) (rk:List Nat) (inv:Y->List Prop) (upd:Y->Frm) (obs:Y->List (Nat×SOb)) (mu:Y->Nat) (inner:Y->List (Nat×Ann))
def Pu:List (Nat×Ann)->Nat->Option Ann
 |[],_=>none
 |(k,a)::l,x=>match bH x k with|true=>some a|false=>Pu l x
def asg:Code->List Nat
 | .region _ ops _=>ops.toList.filterMap (·.dst)
 | .seq a b=>asg a++asg b
 | .cond _ t e=>asg t++asg e
 | .block _ c=>asg c
 | .loop c=>asg c
 | .scope c=>asg c
 |_=>[]
def rE:Code->Option Nat
 | .region id _ _=>some id
 | .seq a b=>(match rE a with|some k=>some k|none=>rE b)
 | .cond _ t e=>(match rE t with|some k=>some k|none=>rE e)
 | .block _ c=>rE c
 | .loop c=>rE c
 | .scope c=>rE c
 |_=>none
def HJ(A:List (Nat×Ann))(c:Code)(j:Nat):Option Ann:=match rE c with
 |some k=>Pu A (k+j)
 |none=>none
def rI(N:Nat):List Nat->Nat
 |[] =>N
 |s::l=>(match ib (ncl s) (rI N l)with|true=>rI N l|false=>ncl s+1)
abbrev og:=Exit->Frm->aU->Nat->Fm
def HO(X:Cx)(n:Nat)(raw:Nat->Nat->Bool)(id:Nat)(ops:List Oper)(draw:Bool)(F:Frm)(L:aU)(N:Nat)(K:Frm->aU->Fm):Fm:=match draw with
 |true=>(match X.P.follows .mixedOrders,Br ops (Gl ops),dOk ops n with
  |true,true,true=>gS X n (raw id) N (ops.map (·.dst)) ops 0 F L [] λF L log=>(match xn (Gl ops) log with|true=>K F L|false=> .stuck (id+100000))
  |_,_,_=> .stuck (id+200000))
 |false=>(match gOk ops with
  |true=>gS X n (raw id) N (ops.map (·.dst)) ops 0 F L [] λF L _=>K F L
  |false=> .stuck (id+300000))
def yP(n:Nat)(F:Frm)(L:aU)(N:Nat)(rk:List Nat)(upd:Frm)(obs:List (Nat×SOb))(qs:List Prop)(F':Frm)(L':aU):Fm:=match tK (Hl upd) F' L' with
 |(pz,F0,La)=>match s9 (Hm obs) La with
  |(pb,L0)=>match sx NM 100 (Gd L0) F0 L0 with
   |(p0,F1,L1)=>(match fG (λq:Nat×SV=>mem ((F'.take (F'.length-F.length)).map (·.1)) q.1) (F1.take (F1.length-F'.length)),Bt n L N (rI N rk) rk upd obs F1 L1 with
    |true,some ps=>rC (pz++(pb++(p0++(ps++qs)))) .tt
    |_,_=> .stuck 400000)
def exq{Y:Type}(w:Option Y)(f:Y->Fm):Fm:=match w with
 |some y=>f y
 |none=> .ex Y f
def ES{Y:Type}{w:Option Y}{f:Y->Fm}(h:(exq w f).holds):∃y,(f y).holds:=by
 cases w with
 |some y=>exact⟨y,h⟩
 |none=>exact h
def O5(A:List (Nat×Ann))(c:Code):Nat->Option Nat
 |0=>none
 |k+1=>(match HJ A c (30001+k)with|some _=>some (k+1)|none=>O5 A c k)
def unr(body:og->Frm->aU->Nat->Fm)(Q:og):Nat->Frm->aU->Nat->Fm
 |0,_,_,_=> .stuck 810000
 |k+1,F,L,N=>body (λe F' L' N'=>match e with| .normal=>unr body Q k F' L' N'|e=>Q e F' L' N') F L N
abbrev Inl:=Nat->List SV->Frm->Nat->aU->Nat->(SV->aU->Nat->Fm)->Fm
def G5:Inl:=λ_ _ _ _ _ _ _=> .stuck 990000
def xv:List Oper->Option (List Oper×Oper)
 |[] =>none
 |o::l=>(match xv l with|some (p,q)=>some (o::p,q)|none=>some ([],o))
def Kh:∀{l pre:List Oper} {o:Oper},xv l=some (pre,o)->l=pre++[o]
 |[],pre,o,h=>by cases h
 |x::l,pre,o,h=>by
  unfold xv at h;split at h
  .rename_i p q hp;cases h;rw[Kh hp];rfl
  .rename_i hp;cases h;cases l with
   |nil=>rfl
   |cons y l=>
    unfold xv at hp;grind
def G9(X:Cx)(ops:List Oper):Option (List Oper×Oper×Nat×List Operand):=match xv ops with
 |some (pre,o)=>(match o.guard,o.op with
  |none,.call {callee:= .value (.func f),args, .. }=>(match X.inl f with|true=>some (pre,o,f,args.toList)|false=>none)
  |_,_=>none)
 |none=>none
def U6{X:Cx}{ops pre:List Oper}{o:Oper}{f:Nat}{args:List Operand}(h:G9 X ops=some (pre,o,f,args)):ops=pre++[o]/\o.guard=none/\∃c:Call,o.op= .call c/\c.callee= .value (.func f)/\c.args.toList=args:=by
 unfold G9 at h;split at h
 case h_2=>cases h
 rename_i p q hl;split at h
 case h_2=>cases h
 rename_i hg ho;split at h<;>cases h;exact⟨Kh hl,hg,_,ho,rfl,rfl⟩
def HN(X:Cx)(I:Inl):Prop:=∀(f:Nat) (xs:List SV) (F:Frm) (n:Nat) (L:aU) (N:Nat) (K:SV->aU->Nat->Fm) (o:Oper) (c:Call),o.op= .call c->c.callee= .value (.func f)->c.args.toList.map (kC (F.av n))=avs xs->(I f xs F n L N K).holds->
 tQ X.P o (F.av n) L.fn N λFA LA N'=>∃r L',r.ok/\FA=eT (F.av n) o.dst r.av/\LA=L'.fn/\gh L L'/\(K r L' N').holds
def L9(X:Cx):HN X G5:=λ_ _ _ _ _ _ _ _ _ _ _ _ h=>h.elim
def vc(X:Cx)(I:Inl)(n:Nat)(raw:Nat->Nat->Bool):Code->(Nat->Bool)->List (Nat×Ann)->og->Frm->aU->Nat->Fm
 | .skip,_,_,Q,F,L,N=>Q .normal F L N
 | .region id ops draw,_,_,Q,F,L,N=>(match draw,G9 X ops.toList with
   |false,some (pre,o,f,args)=>gS X n (raw id) N (ops.toList.map (·.dst)) pre 0 F L [] λF L _=>I f (args.map (tF n F)) F n L (N+pre.length) λr L' N'=>Q .normal (oj n F o.dst r) L' N'
   |_,_=>HO X n raw id ops.toList draw F L N λF L=>Q .normal F L (N+ops.size))
 | .seq a b,al,A,Q,F,L,N=>(match HJ A b 10000 with
   |none=>vc X I n raw a al A (λe F L N=>match e with| .normal=>vc X I n raw b al A Q F L N|e=>Q e F L N) F L N
   |some (.mk Y wit rk inv upd obs _ inner)=>(match fG al (jr F rk N F)with
    |true=> .both
     (vc X I n raw a (mem (asg a)) A (λe F1 L1 N1=>match e with| .normal=>exq (wit F1 L1) λy=>yP n F L N rk (upd y) (obs y) (inv y) F1 L1|e=>Q e F1 L1 N1) F L N)
     (.all Y λy=>Hh (inv y) (match fG (λq=>mem (asg a++jr F rk N F) q.1) (upd y)with
       |true=>vc X I n raw b al (inner y++A) Q (kw F (upd y) (asg a++jr F rk N F)) (jD L (obs y)) (rI N rk)
       |false=> .stuck 500000))
    |false=> .stuck 600000))
 | .cond c t e,al,A,Q,F,L,N=>(match tF n F c with
   | .lit true=>vc X I n raw t al A Q F L N
   | .lit false=>vc X I n raw e al A Q F L N
   | .prop p _=> .both (.imp p (vc X I n raw t al A Q F L N)) (.imp (¬p) (vc X I n raw e al A Q F L N))
   | .bool b=> .both (.imp (b=true) (vc X I n raw t al A Q F L N)) (.imp (b=false) (vc X I n raw e al A Q F L N))
   |_=> .stuck 700000)
 | .block id c,al,A,Q,F,L,N=>vc X I n raw c al A (λe F L N=>match e with| .exit id'=>(match bH id' id with|true=>Q .normal F L N|false=>Q (.exit id') F L N)|e=>Q e F L N) F L N
 | .loop c,al,A,Q,F,L,N=>(match HJ A c 0 with
   |none=>(match O5 A c 6 with
    |some k=>unr (λQ F L N=>vc X I n raw c al A Q F L N) Q k F L N
    |none=> .stuck 800000)
   |some (.mk Y wit rk inv upd obs mu inner)=>(match fG al (jr F rk N F)with
    |true=> .both
     (exq (wit F L) λy=>yP n F L N rk (upd y) (obs y) (inv y) F L)
     (.all Y λx=>Hh (inv x) (match fG (λq=>mem (asg c++jr F rk N F) q.1) (upd x)with
       |true=>vc X I n raw c (mem (asg c)) (inner x++A) (λe F1 L1 N1=>match e with| .normal=>exq (wit F1 L1) λy=>yP n F L N rk (upd y) (obs y) (inv y++[mu y<mu x]) F1 L1|e=>Q e F1 L1 N1) (kw F (upd x) (asg c++jr F rk N F)) (jD L (obs x)) (rI N rk)
       |false=> .stuck 500000))
    |false=> .stuck 600000))
 | .exit id,_,_,Q,F,L,N=>Q (.exit id) F L N
 | .ret,_,_,Q,F,L,N=>Q .ret F L N
 | .scope c,al,A,Q,F,L,N=>vc X I n raw c al A (λe F L N=>match e with| .goto _=> .stuck 910001|e=>Q e F L N) F L N
 | .label _,_,_,Q,F,L,N=>Q .normal F L N
 |_,_,_,_,_,_,_=> .stuck 900000
def iA.mono{n:Nat}{S T:Nat->Prop}{F:Frm}{L:aU}{FA:List AV}{LA:Sto}{G H:Frm->aU->Prop}(hS:∀d,S d->T d)(hG:∀F L,F.ok->G F L->H F L)(h:iA n S F L FA LA G):iA n T F L FA LA H:=by obtain⟨F',L',a,b,c,d,e,f⟩:=h;exact⟨F',L',a,b,c,d.mono hS,e,hG F' L' c f⟩
def least{p:Nat->Prop}(h:∃k,p k):∃k,p k/\∀j,p j->k<=j:=by
 obtain⟨k,hk⟩:=h;induction k using Nat.strongRecOn with
 |ind k ih=>
  grind
def Kn{F upd:Frm}{hav:List Nat}:Pre (λd=>d∈upd.map (·.1)\/d∈hav) F (kw F upd hav):=by refine⟨upd++(hav.map λd=>(d,SV.any)),by unfold kw;simp,λq hq=> ?_⟩;grind
def EJ{L:aU}{obs:List (Nat×SOb)}:gh L (jD L obs):=⟨_,rfl⟩
def MN{F upd:Frm}{hav:List Nat}(hF:F.ok)(hu:∀q∈upd,q.2.ok):(kw F upd hav).ok:=by
 intro t;unfold kw;rw[Frm.pS,Frm.pS];split
 .split
  .rename_i h;exact hu _ (vD h)
  .rw[PN];split<;>trivial
 .exact hF t
def OH{n:Nat}{F':Frm}:∀{upd:Frm} {ps:List Prop} {r:Rm},vM n F' upd=some (ps,r)->∀q∈upd,q.2.ok
 |[],ps,r,_,q,hq=>by cases hq
 |(d,v)::upd,ps,r,h,q,hq=>by
  unfold vM at h;split at h<;>cases h;rename_i p1 m1 p2 m2 h1 h2 h3 h4;rcases bT.1 hq with rfl|hq
  .exact SV.nI h2
  .exact OH h4 q hq
def F6{n:Nat}{F F' upd:Frm}{L L':aU}{N N':Nat}{rk:List Nat}{obs:List (Nat×SOb)}{hav:List Nat}{qs:List Prop}(h:(yP n F L N rk upd obs qs F' L').holds)
  (hF:Pre (λd=>d∈hav) F F') (hbad:∀d∈jr F rk N F,d∈hav) (hL:gh L L'):
  fa (F'.av n) L'.fn N' ((kw F upd hav).av n) (jD L obs).fn (rI N rk)/\(∀p∈qs,p)/\∀q∈upd,q.2.ok:=by
 unfold yP at h;split at h;rename_i pz F0 La hz;split at h;rename_i pb L0 hb;split at h;rename_i p0 F1 L1 h0;split at h
 .rename_i ps hc hm;have hp:=(rm h).1;obtain⟨⟨pa,ea1⟩,⟨qa,ea2⟩⟩:=Dw h0;obtain⟨⟨pb',eb1⟩,⟨qb,eb2⟩⟩:=E7 hz;obtain⟨qc,ec2⟩:=EL hb;obtain⟨p,e1⟩:∃p,F1=p++F':=by grind
  obtain⟨q,e2⟩:∃q,L1=q++L':=by grind
  have wz1:=EK (n:=n) (N:=N') hz λp hpp=>hp p (by grind);have wz2:=Df (n:=n) (N:=N') (F:=F0) hb λp hpp=>hp p (by grind);have wz:fa (F'.av n) L'.fn N' (F0.av n) L0.fn N':=λC0 B wI a w hst=>wz2 C0 B wI a w (wz1 C0 B wI a w hst);have hp:∀p∈p0++(ps++qs),p:=λp hpp=>hp p (by grind);have hF1:Pre (λd=>d∈hav) F F1:=by
   obtain⟨pre,e3,hpre⟩:=hF;refine⟨p++pre,by grind,λr hr=> ?_⟩;rcases bg.1 hr with hr|hr
   .have:=gn hc r (by rw[e1,show(p++F').length-F'.length=p.length by simp,Cp];exact hr);obtain⟨r',h1,h2⟩:=bZ.1 ((mem_iff _ _).1 this);grind
   .grind
  have hL1:gh L L1:=by obtain⟨pre,e3⟩:=hL;exact⟨q++pre,by grind⟩
  have hps:∀p∈ps,p:=λp hpp=>hp p (by grind);refine⟨?_,λp hpp=>hp p (by grind),?_⟩
  .rcases DX (n:=n) h0 (λp hpp=>hp p (by grind)) N' with⟨_,f1,f2⟩|w
   .have:=KZ (N':=N') hm hps hF1 hbad hL1;rw[f1,f2]at this;exact λC0 B wI a w' hst=>this C0 B wI a w' (wz C0 B wI a w' hst)
   .have:=KZ (N':=NM) hm hps hF1 hbad hL1;exact λC0 B wI a w' hst=>this C0 B wI a w' (w C0 B wI a w' (wz C0 B wI a w' hst))
  unfold Bt at hm;split at hm
  .cases hm
  .rename_i h1;exact OH h1
 .exact h.elim
def Mv{X:Cx}(hX:X.Ok){n:Nat}{raw:Nat->Nat->Bool}{id:Nat}{ops:Array Oper}{draw:Bool}{F:Frm}{L:aU}{N:Nat}{K:Frm->aU->Fm}(hF:F.ok)(h:(HO X n raw id ops.toList draw F L N K).holds):
  SD X.P draw ops.toList (F.av n) L.fn N λFA LA=>iA n (λd=>d∈asg (.region id ops draw)) F L FA LA λF' L'=>(K F' L').holds:=by
 have hd:∀o∈ops.toList,o.dst∈ops.toList.map (·.dst):=by grind
 have hS:∀d,some d∈ops.toList.map (·.dst)->d∈asg (.region id ops draw):=by intro d hd;obtain⟨o,ho,e⟩:=bZ.1 hd;exact IR.2 ⟨o,ho,e⟩
 unfold HO at h;split at h
 .split at h
  .rename_i h1 h2 h3;refine⟨_,h1,h2,by rw[Frm.jM];exact h3,?_⟩;refine jQ ?_ (xN hX ops.toList 0 F L [] hd hF h);intro FA LA log ht;have hf:xn (Gl ops.toList) log=true:=by
    obtain⟨_,_,_,_,_,_,_,hh⟩:=ht;split at hh
    .assumption
    .exact hh.elim
   refine⟨hf,ht.mono hS λF L _ hh=> ?_⟩;grind
  .exact h.elim
 .split at h
  .rename_i h1;exact⟨h1,jQ (λ_ _ _ ht=>ht.mono hS λ_ _ _ h=>h) (xN hX ops.toList 0 F L [] hd hF h)⟩
  .exact h.elim
def Ee{X:Cx}(hX:X.Ok){I:Inl}(hI:HN X I){n:Nat}{raw:Nat->Nat->Bool}:∀(c:Code) (al:Nat->Bool) (A:List (Nat×Ann)) (Q:og) (F:Frm) (L:aU) (N:Nat),(∀d∈asg c,al d=true)->F.ok->(vc X I n raw c al A Q F L N).holds->
  awp X.P c (λe FA LA N'=>iA n (λd=>al d=true) F L FA LA λF' L'=>(Q e F' L' N').holds) (F.av n) L.fn N:=by
 intro c;induction c with
 |skip=>intro al A Q F L N hal hF h;exact⟨F,L,rfl,rfl,hF,Pre.rfl,gh.rfl,h⟩
 |region id ops draw=>
  intro al A Q F L N hal hF h;unfold vc at h;cases draw with
  |true=>
   have:=Mv (draw:=true) hX hF h;left;obtain⟨anc,h1,h2,h3,h4⟩:=this;exact⟨anc,h1,h2,h3,jQ (λF L log ⟨a,b⟩=>⟨a,b.mono hal λ_ _ _ h=>h⟩) h4⟩
  |false=>
  split at h
  .rename_i pre o f args _ hin;obtain⟨e1,e2,c,e3,e4,e5⟩:=U6 hin;have hd:∀o'∈pre,o'.dst∈ops.toList.map (·.dst):=by grind
   have hS:∀d,some d∈ops.toList.map (·.dst)->al d=true:=by intro d hd;obtain⟨o',ho,e⟩:=bZ.1 hd;exact hal d (IR.2 ⟨o',ho,e⟩)
   refine .inr ⟨rfl,pre,o,e1,e2,jQ ?_ (xN hX pre 0 F L [] hd hF h)⟩;rintro FA LA log ⟨F',L',rfl,rfl,hF',hpre,hpreL,hh⟩;refine(hI f _ F' n L' _ _ o c e3 e4 ?_ hh).mono ?_
   .rw[e5,jA,dq];exact nZ λx _=>(FB x).symm
   .rintro FA LA N' ⟨r,L2,hr,rfl,rfl,hpl,hq⟩;refine⟨oj n F' o.dst r,L2,by rw[Fh],rfl,Fg hF' hr,((hpre.mono hS).trans (Ep λt ht=>hS t ?_)),hpreL.trans hpl,hq⟩;grind
  .have:=Mv (draw:=false) hX hF h;left;obtain⟨h1,h2⟩:=this;exact⟨h1,jQ (λF L log b=>b.mono hal λ_ _ _ h=>h) h2⟩
 |seq a b iha ihb=>
  intro al A Q F L N hal hF h;have hala:∀d∈asg a,al d=true:=λd hd=>hal d (iC _ hd);have halb:∀d∈asg b,al d=true:=λd hd=>hal d (fb _ hd);unfold vc at h;split at h
  .have h1:=iha al A _ F L N hala hF h;refine⟨λFA LA N'=>iA n (λd=>al d=true) F L FA LA λF' L'=>(vc X I n raw b al A Q F' L' N').holds,mx a ?_ h1,?_⟩
   .grind
   .rintro FA LA N' ⟨F',L',rfl,rfl,hF',hpre,hpreL,hh⟩;refine⟨_,_,_,fa.rfl,mx b ?_ (ihb al A Q F' L' N' halb hF' hh)⟩;intro e FA LA N' ht;exact ht.step hpre hpreL
  .rename_i Y wit rk inv upd obs mu inner hA;split at h
   case h_2=>exact h.elim
   rename_i hbad;have hbad:=gn hbad;obtain⟨h1,h2⟩:=Fm.tz h;have hmem:∀d,mem (asg a) d=true->d∈asg a:=λd=>(mem_iff d _).1;have h1:=iha (mem (asg a)) A _ F L N (λd hd=>(mem_iff _ _).2 hd) hF h1;refine Tc (λFA LA N'=>∃y,(∀p∈inv y,p)/\(∀q∈upd y,q.2.ok)/\FA=(kw F (upd y) (asg a++jr F rk N F)).av n/\LA=(jD L (obs y)).fn/\N'=rI N rk) (mx a ?_ h1) ?_
   .intro e FA LA N' ht;cases e
    case normal=>
     obtain⟨F',L',rfl,rfl,hF',hpre,hpreL,hh⟩:=ht;obtain⟨y,hh⟩:=ES hh;obtain⟨k1,k2,k3⟩:=F6 (N':=N') (hav:=asg a++jr F rk N F) hh (hpre.mono (by grind)) (by grind) hpreL;grind
    all_goals exact ht.mono (by grind) λ_ _ _ h=>h
   .rintro FA LA N' ⟨y,hy,hok,rfl,rfl,rfl⟩;have h2:=Jm ((h2:∀y:Y,Fm.holds _) y) hy;split at h2
    case h_2=>exact h2.elim
    rename_i hu;have hu:=gn hu;refine mx b ?_ (ihb al (inner y++A) Q _ _ _ halb (MN hF hok) h2);intro e FA LA N' ht;refine ht.step (Kn.mono ?_) EJ;rintro d (hd|hd)
    .obtain⟨q,hq,rfl⟩:=bZ.1 hd;rcases bg.1 ((mem_iff _ _).1 (hu q hq))with hd|hd
     .grind
     grind
    grind
 |cond c t e iht ihe=>
  intro al A Q F L N hal hF h;have halt:∀d∈asg t,al d=true:=λd hd=>hal d (iC _ hd);have hale:∀d∈asg e,al d=true:=λd hd=>hal d (fb _ hd);unfold vc at h;have ev:∀v,tF n F c=v->kC (F.av n) c=v.av:=λv hv=>by rw[<-FB,hv]
  split at h
  .rename_i hc;exact⟨true,ev _ hc,by grind,by grind⟩
  .rename_i hc;exact⟨false,ev _ hc,(by grind),by grind⟩
  .rename_i p d hc;obtain⟨h1,h2⟩:=Fm.tz h;refine⟨@decide p d,ev _ hc,λhh=>iht al A Q F L N halt hF ((h1:p->_) (by grind)),λhh=>ihe al A Q F L N hale hF ((h2:¬p->_) (by grind))⟩
  .rename_i b hc;obtain⟨h1,h2⟩:=Fm.tz h;exact⟨b,ev _ hc,λhh=>iht al A Q F L N halt hF ((h1:b=true->_) hh),λhh=>ihe al A Q F L N hale hF ((h2:b=false->_) hh)⟩
  .exact h.elim
 |block id c ih=>
  intro al A Q F L N hal hF h;have:=ih al A _ F L N hal hF h;refine mx c ?_ this;intro e FA LA N' ht;cases e
  case exit id'=>
   dsimp only at ht|-;cases hb:bH id' id with
   |true=>
    simp_all
   |false=>
    rw[if_neg (l8 hb)];grind
  all_goals exact ht
 |loop c ih=>
  intro al A Q F L N hal hF h;unfold vc at h;split at h
  .split at h
   case h_2=>exact h.elim
   rename_i k0 _
   let rep:Nat->List AV->Sto->Nat->Prop:=λk FA LA N'=>iA n (λd=>al d=true) F L FA LA λF' L'=>(unr (λQ F L N=>vc X I n raw c al A Q F L N) Q k F' L' N').holds
   have hmu:∃μ:List AV->Sto->Nat->Nat,∀FA LA N',(∃k,rep k FA LA N')->rep (μ FA LA N') FA LA N'/\∀k,rep k FA LA N'->μ FA LA N'<=k:=by
    have:∀FA LA N',∃k,(∃k,rep k FA LA N')->rep k FA LA N'/\∀j,rep j FA LA N'->k<=j:=by
     intro FA LA N';by_cases hh:∃k,rep k FA LA N'
     .obtain⟨k,h1,h2⟩:=least hh;exact⟨k,by grind⟩
     .simp_all
    exact⟨λFA LA N'=>Classical.choose (this FA LA N'),λFA LA N'=>Classical.choose_spec (this FA LA N')⟩
   obtain⟨μ,hμ⟩:=hmu;refine W7 (λFA LA N'=>∃k,rep k FA LA N') μ ⟨_,_,_,fa.rfl,k0,⟨F,L,rfl,rfl,hF,Pre.rfl,gh.rfl,h⟩⟩ ?_;intro FA LA N' hr;have hk:=(hμ FA LA N' hr).1;generalize hkk:μ FA LA N'=k at hk|-;obtain⟨F',L',rfl,rfl,hF',hpre,hpreL,hh⟩:=hk;cases k with
   |zero=>exact hh.elim
   |succ k=>
    refine mx c ?_ (ih al A _ F' L' N' hal hF' hh);intro e FA LA N2 ht;have ht:=ht.step hpre hpreL;cases e
    case normal=>
     have hr2:rep k FA LA N2:=ht;exact⟨_,_,_,fa.rfl,⟨k,hr2⟩,Nat.lt_succ_of_le ((hμ _ _ _ ⟨k,hr2⟩).2 k hr2)⟩
    all_goals exact ht
  rename_i Y wit rk inv upd obs mu inner hA;split at h
  case h_2=>exact h.elim
  rename_i hbad;have hbad:=gn hbad;obtain⟨h1,h2⟩:=Fm.tz h;obtain⟨y0,h1⟩:=ES h1;have hmem:∀d,mem (asg c) d=true->d∈asg c:=λd=>(mem_iff d _).1
  let hav:=asg c++jr F rk N F
  let rep:Y->List AV->Sto->Prop:=λy FA LA=>(∀p∈inv y,p)/\(∀q∈upd y,q.2.ok)/\FA=(kw F (upd y) hav).av n/\LA=(jD L (obs y)).fn
  obtain⟨k1,k2,k3⟩:=F6 (N':=N) (hav:=hav) h1 Pre.rfl (by grind) gh.rfl;have hmu:∃μ:List AV->Sto->Nat,∀FA LA,(∃y,rep y FA LA)->∃y,rep y FA LA/\mu y=μ FA LA/\∀z,rep z FA LA->μ FA LA<=mu z:=by
   have:∀FA LA,∃k,(∃y,rep y FA LA)->∃y,rep y FA LA/\mu y=k/\∀z,rep z FA LA->k<=mu z:=by
    intro FA LA;by_cases hh:∃y,rep y FA LA
    .obtain⟨y,hy⟩:=hh;obtain⟨k,⟨z,hz,e⟩,hk⟩:=least (p:=λk=>∃y,rep y FA LA/\mu y=k) ⟨_,y,hy,rfl⟩;exact⟨k,by grind⟩
    .exact⟨0,by grind⟩
   exact⟨λFA LA=>Classical.choose (this FA LA),λFA LA=>Classical.choose_spec (this FA LA)⟩
  obtain⟨μ,hμ⟩:=hmu;refine Yr (λFA LA N'=>(∃y,rep y FA LA)/\N'=rI N rk) μ (by grind) ?_;rintro FA LA N' ⟨hr,rfl⟩;obtain⟨x,⟨hx,hok,rfl,rfl⟩,hmx,_⟩:=hμ FA LA hr;have h2:=Jm ((h2:∀x:Y,Fm.holds _) x) hx;split at h2
  case h_2=>exact h2.elim
  rename_i hu;have hu:=gn hu;have hpre0:Pre (λd=>d∈hav) F (kw F (upd x) hav):=by
   refine Kn.mono ?_;rintro d (hd|hd)
   .obtain⟨q,hq,rfl⟩:=bZ.1 hd;exact(mem_iff _ _).1 (hu q hq)
   .exact hd
  refine mx c ?_ (ih (mem (asg c)) (inner x++A) _ _ _ _ (λd hd=>(mem_iff _ _).2 hd) (MN hF hok) h2);intro e FA' LA' N' ht;have up:∀(G:Frm->aU->Prop),iA n (λd=>mem (asg c) d=true) (kw F (upd x) hav) (jD L (obs x)) FA' LA' G->iA n (λd=>al d=true) F L FA' LA' G:=by
   intro G ht;refine(ht.mono (λd hd=>hal d (hmem d hd)) λ_ _ _ h=>h).step (hpre0.mono ?_) EJ;intro d hd;rcases bg.1 hd with hd|hd
   .exact hal d hd
   .grind
  cases e
  case normal=>
   obtain⟨F',L',rfl,rfl,hF',hpre,hpreL,hh⟩:=ht;obtain⟨y,hh⟩:=ES hh;obtain⟨k1,k2,k3⟩:=F6 (N':=N') (hav:=hav) hh (hpre0.trans (hpre.mono (by grind))) (by grind) (EJ.trans hpreL);have hry:rep y ((kw F (upd y) hav).av n) (jD L (obs y)).fn:=⟨λp h=>k2 p (by grind),k3,rfl,rfl⟩;refine⟨_,_,_,k1,by grind,?_⟩;obtain⟨z,_,ez,hz⟩:=hμ _ _ ⟨y,hry⟩;have g1:=hz y hry;have g2:mu y<mu x:=k2 _ (by grind);omega
  all_goals exact up _ ht
 |exit id=>intro al A Q F L N hal hF h;exact⟨F,L,rfl,rfl,hF,Pre.rfl,gh.rfl,h⟩
 |ret=>intro al A Q F L N hal hF h;exact⟨F,L,rfl,rfl,hF,Pre.rfl,gh.rfl,h⟩
 |rangeFunc f params x y _ _=>intro al A Q F L N hal hF h;exact h.elim
 |scope c ih=>
  intro al A Q F L N hal hF h;refine mx c ?_ (ih al A _ F L N hal hF h);intro e FA LA N' ht;cases e<;>first|exact ht|(obtain⟨_,_,_,_,_,_,_,hh⟩:=ht;exact hh.elim)
 |label l=>intro al A Q F L N hal hF h;exact⟨F,L,rfl,rfl,hF,Pre.rfl,gh.rfl,h⟩
 |goto l=>intro al A Q F L N hal hF h;exact h.elim
 |refuse s=>intro al A Q F L N hal hF h;exact h.elim
end
end Go.Proofs.YtdaeofhdgabhjaaGreat
