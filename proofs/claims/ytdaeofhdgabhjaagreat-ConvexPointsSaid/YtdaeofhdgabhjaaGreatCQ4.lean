/- What the statement stands on: contracts of functions, plain laws. Part 4 of 7, no condition of its own. (N21 N22 N23 E1 E3 N16 X1 X2 X3 X4 N24 X12 X5 X6 X7 X11 N25 X13 X8) -/
import Derived.Test.YtdaeofhdgabhjaaGreatCQ3
import Derived.MapKept
import Derived.IntWalk
set_option linter.all false
set_option maxRecDepth 100000
set_option maxHeartbeats 8000000
open List renaming getD_eq_getElem?_getD->dw,getElem?_eq_none->lr,replicate->cS,map_cons->cv,cons.injEq->nY,all_eq_true->bf,getElem_of_mem->jm,mem_map->bR,pairwise_cons->gh,lookup->hZ,getElem?_eq_getElem->fA,getElem?_eq_some_iff->rV,ext_getElem?->Cr,getElem?_set->yz,mem_append_left->fT,mem_append_right->fB,getElem?_map->gS,flatMap_cons->fG,length_cons->gu,length_take->lm,take_left->Cw,take_append_drop->tX,take_of_length_le->ip,drop_eq_nil_of_le->Sh,map_nil->kZ,mem_singleton->bZ,range->bV,length_map->db,map_append->dR,map_drop->Cy,map_take->Cz,getElem?_range->Ip,lookup_cons->dV,map_map->di,mem_cons_self->bo,mem_cons_of_mem->bk,ext_getElem->tW,append_assoc->kD,mem_cons->aj,map_congr_left->lk,replicate_succ->wF,length->fh,take_length->tg,drop_zero->C2,mem_append->bi,getElem_map->jR,not_mem_nil->cG,isEmpty_iff->It,mem_flatMap->cQ,length_set->y8,cons_append->jn,mem_filterMap->Iq
open Go.Op renaming operands->cX
open Go.Call renaming operands->jT
open Array renaming map->td,toList_inj->pC,getElem?_setIfInBounds->v7
open Go.Deferred renaming ofValue->te
open Go.Sem renaming run_bind->cg,run_pure->dc,run->fz
open Go.Result renaming andThen_ok->cl,andThen->wG
open Go.World renaming block_lt_of_cell?->jp,cell?_of_block->jA
open Go.Value renaming int->cY
open Prod renaming mk.injEq->tc
open Nat renaming decEq->pD,lt_or_ge->nU,zero_add->jo,add_mul->y5,min_eq_left->Is,mul_le_mul_right->Cs,sub_add_cancel->IR,mod_eq_of_lt->dp,beq->bF,ne_of_beq_eq_false->ls,blt->iT,ble->mf,le_of_ble_eq_true->pH,eq_of_beq_eq_true->dK,add_assoc->rP,ne_of_gt->nZ
open Go.Obj renaming map->wD
open Option renaming some.injEq->fm,bind_eq_some_iff->qT,map_eq_some_iff->ll,map_some->eE,bind_some->qS,some.inj->mh
open Go.Proofs.Tryz renaming prog->ak
open Go.IntKind renaming i64->iq
open Bool renaming and_eq_true->bn
open Int renaming toNat_natCast->jB,le_refl->i9
open Go.RowKit
open Go.Proofs.YtdaeofhdgabhjaaGreat.Geo
open Go.Proofs.YtdaeofhdgabhjaaGreat.Geo renaming nth->aEv
namespace Go.Proofs.YtdaeofhdgabhjaaGreat
section
abbrev Rf:=Nat->Option (Option Nat)
mutual
def cR(m:Rf):AV->AV->Prop
 | .any,_=>True
 | .p x,y=>y= .p x
 | .nil,y=>y= .nil
 | .undef,y=>y= .undef
 | .ptr s off,y=>∃o,m s=some (some o)/\y= .ptr o off
 | .own s o n,y=>(∃s',m s=some (some s')/\y= .own s' o n)\/(m s=some none/\y= .nil/\o=0/\n=0)
 | .agg l,y=>∃r,(y= .agg r\/∃q:List PV,y= .p (.agg q)/\r=q.map .p)/\fC m l r
 | .tup l,y=>∃r,(y= .tup r\/∃q:List PV,y= .p (.tup q)/\r=q.map .p)/\fC m l r
 | .fn f a b,y=>∃a2 b2,y= .fn f a2 b2/\fC m a a2/\fC m b b2
 | .mp s,y=>∃o,m s=some (some o)/\y= .mp o
def fC(m:Rf):List AV->List AV->Prop
 |[],r=>r=[]
 |x::l,r=>∃y r',r=y::r'/\cR m x y/\fC m l r'
end
def jK(m:Rf)(ρ:Ren):Ren:=λs=>match m s with
 |some (some o)=>ρ o
 |some none=>some (none,0)
 |none=>none
mutual
theorem uQ{m:Rf}{ρ:Ren}{C C':bE}(hC:∀b o v,C b o v->C' b o v):∀(x y:AV) (v:Value),cR m x y->aR ρ C y v->aR (jK m ρ) C' x v
 | .any,y,v,_,_=>by trivial
 | .p x,y,v,h,hv=>by subst h;exact aU.mono hC _ v hv
 | .nil,y,v,h,hv=>by subst h;exact hv
 | .undef,y,v,h,hv=>by subst h;exact hv
 | .ptr s off,y,v,h,hv=>by
   obtain⟨o,h1,rfl⟩:=h;obtain⟨b,c,h2,h3⟩:=hv;exact⟨b,c,by unfold jK;grind,h3⟩
 | .own s o n,y,v,h,hv=>by
   rcases h with⟨s',h1,rfl⟩|⟨h1,rfl,rfl,rfl⟩
   .obtain⟨q,c,h2,h3⟩:=hv;exact⟨q,c,by unfold jK;grind,h3⟩
   .exact⟨none,0,by unfold jK;rw[h1],.inl ⟨rfl,hv,rfl,rfl⟩⟩
 | .agg l,y,v,h,hv=>by
   obtain⟨r,hy,hr⟩:=h;have:∃vs:List Value,v= .agg vs.toArray/\ag ρ C r vs/\gg vs:=by
    rcases hy with rfl|⟨q,rfl,rfl⟩
    .exact hv
    .obtain⟨vs,h1,h2,h3⟩:=hv;exact⟨vs,h1,h2.toA,h3⟩
   obtain⟨vs,h1,h2,h3⟩:=this;exact⟨vs,h1,uJ hC l r vs hr h2,h3⟩
 | .tup l,y,v,h,hv=>by
   obtain⟨r,hy,hr⟩:=h;have:∃vs:List Value,v= .tuple vs.toArray/\ag ρ C r vs:=by
    rcases hy with rfl|⟨q,rfl,rfl⟩
    .exact hv
    .obtain⟨vs,h1,h2⟩:=hv;exact⟨vs,h1,h2.toA⟩
   obtain⟨vs,h1,h2⟩:=this;exact⟨vs,h1,uJ hC l r vs hr h2⟩
 | .fn f a b,y,v,h,hv=>by
   obtain⟨a2,b2,rfl,h1,h2⟩:=h;obtain⟨vs1,vs2,h3,h4,h5⟩:=hv;exact⟨vs1,vs2,h3,uJ hC a a2 vs1 h1 h4,uJ hC b b2 vs2 h2 h5⟩
 | .mp s,y,v,h,hv=>by
   obtain⟨o,h1,rfl⟩:=h;obtain⟨c,h2,h3⟩:=hv;exact⟨c,by unfold jK;grind,h3⟩
theorem uJ{m:Rf}{ρ:Ren}{C C':bE}(hC:∀b o v,C b o v->C' b o v):∀(l r:List AV) (vs:List Value),fC m l r->ag ρ C r vs->ag (jK m ρ) C' l vs
 |[],r,vs,h,hv=>by subst h;exact hv
 |x::l,r,vs,h,hv=>by
  obtain⟨y,r',rfl,h1,h2⟩:=h;obtain⟨v,vs',rfl,h3,h4⟩:=hv;exact⟨v,vs',rfl,uQ hC x y v h1 h3,uJ hC l r' vs' h2 h4⟩
end
def Kw{m:Rf}:∀{l r:List AV},fC m l r->l.length=r.length/\∀(i:Nat) x,l[i]? =some x->∃y,r[i]? =some y/\cR m x y
 |[],r,h=>by unfold fC at h;grind
 |x::l,r,h=>by
  obtain⟨y,r',rfl,h1,h2⟩:=h;obtain⟨h3,h4⟩:=Kw h2;grind
def p8(m:Rf)(ob' ob:Ob):Prop:=ob'.ty=ob.ty/\ob'.esz=ob.esz/\fC m ob'.cells ob.cells
def StR.rf{C0:bE}{B:Nat}{ρ:Ren}{w:World}{L L':Sto}(m:Rf)(hinj:∀s s' o,m s=some (some o)->m s'=some (some o)->s=s')
  (hL:∀s ob',L' s=some ob'->match m s with|some (some o)=>∃ob,L o=some ob/\p8 m ob' ob|some none=>ob'.esz≠0/\ob'.cells=[] |none=>False) (s1:StR C0 ρ L w B):
  (∀b o v,bC C0 B w ρ L b o v->bC C0 B w (jK m ρ) L' b o v)/\StR C0 (jK m ρ) L' w B:=by
 have hCC:∀b o v,bC C0 B w ρ L b o v->bC C0 B w (jK m ρ) L' b o v:=by
  intro b o v ⟨e1,e2,e3⟩;refine⟨e1,λs c hs=> ?_,e3⟩;cases hl:L' s with
  |none=>rfl
  |some ob'=>
   unfold jK at hs;grind
 refine⟨hCC,?_,?_,?_⟩
 .intro s ob' hl;have:=hL s ob' hl;split at this
  .rename_i o ho;obtain⟨ob,h1,h2,h3,h4⟩:=this;obtain⟨q,c,k1,k2⟩:=s1.ob o ob h1;refine⟨q,c,by unfold jK;grind,?_⟩;obtain⟨g1,g2⟩:=Kw h4;rcases k2 with⟨k2,⟨k3,k4,k5⟩|⟨k3,k4⟩⟩|⟨b,arr,k2,k3,k4⟩
   .grind
   .refine .inl ⟨k2,.inr ⟨by omega,?_⟩⟩;rcases k4 with⟨e1,e2,e3⟩|⟨e1,e2,es,clock,e3,e4⟩
    .refine .inl ⟨by grind,λi x' hi v hv=> ?_,by grind⟩;obtain⟨x,hx,hr⟩:=g2 i x' hi;exact uQ hCC _ _ v hr (e2 i x hx v hv)
    .exact .inr ⟨by grind,e2,es,clock,e3,uJ hCC _ _ _ h4 e4⟩
   .refine .inr ⟨b,arr,k2,k3,⟨by rw[h2];exact k4.blk,λhz=>by rw[g1];exact k4.box (by omega),λhz=>by rw[h3,g1];exact k4.row (by omega),?_⟩⟩;intro i x' hi;obtain⟨x,hx,hr⟩:=g2 i x' hi;obtain⟨v,g3,g4,g5⟩:=k4.cells i x hx;exact⟨v,g3,g4,uQ hCC _ _ v hr g5⟩
  .rename_i ho;exact⟨none,0,by unfold jK;rw[ho],by grind⟩
  grind
 .intro s s' o o' b c c' h1 h2 h3 h4;have g1:=hL s o h1;have g2:=hL s' o' h2;unfold jK at h3 h4;split at h3
  .rename_i x hx;rw[hx]at g1;obtain⟨ob,k1,_⟩:=g1;split at h4
   .rename_i x' hx';rw[hx']at g2;obtain⟨ob',k2,_⟩:=g2;have:=s1.inj x x' ob ob' b c c' k1 k2 h3 h4;grind
   .cases h4
   .cases h4
  .cases h3
  .cases h3
 .intro s s' o o' c c' h1 h2 m1 m2 h3 h4 hT;have g1:=hL s o h1;have g2:=hL s' o' h2;unfold jK at h3 h4;split at h3
  .rename_i x hx;rw[hx]at g1;obtain⟨ob,k1,k2,k3,_⟩:=g1;split at h4
   .rename_i x' hx';rw[hx']at g2;obtain⟨ob',q1,q2,q3,_⟩:=g2;have:=s1.mpi x x' ob ob' c c' k1 q1 (by omega) (by omega) h3 h4 (by unfold rN at*;grind);grind
   .grind
   .cases h4
  .grind
  .cases h3
def NS{F F':List AV}{L L':Sto}{N N':Nat}(m:Rf)(hlt:∀s x,m s=some x->cls s<N')(hinj:∀s s' o,m s=some (some o)->m s'=some (some o)->s=s')
  (hlen:F'.length=F.length) (hF:∀t,t<F.length->cR m (F'.getD t .any) (F.getD t .any))
  (hL:∀s ob',L' s=some ob'->match m s with|some (some o)=>∃ob,L o=some ob/\p8 m ob' ob|some none=>ob'.esz≠0/\ob'.cells=[] |none=>False):ff F L N F' L' N':=by
 intro C0 B wI a w ⟨⟨ρ,s1,s2,s3⟩,s4,s5,s6,s7⟩;obtain⟨hCC,hst⟩:=s1.rf m hinj hL;refine⟨⟨jK m ρ,hst,?_,?_⟩,s4,s5,by rw[s6,hlen],s7⟩
 .intro s hs;cases hr:m s with
  |none=>unfold jK;rw[hr]
  |some x=>grind
 .intro t;by_cases ht:t<F.length
  .exact uQ hCC _ _ _ (hF t ht) (s3 t)
  .rw[dw,lr (by omega)];trivial
variable {P:Program}
def IH(P:Program)(f:FuncId)(A:List PV)(r:AV)(σ1:Sto):Prop:=je P f=true/\
 ∀(C:bE) (w:World) (vs:List Value),(∀b o v,C b o v->w.cell? ⟨b,o,none⟩=some v)->ae C A vs->
  Calls P f vs.toArray w λe w'=>∃v ρ1,e= .returned v/\StR C ρ1 σ1 w' w.heap.size/\aR ρ1 (bC C w.heap.size w' ρ1 σ1) r v/\Below w.heap.size w w'
def yX(m:Rf)(L' L:Sto):Prop:=(∀s s' o,m s=some (some o)->m s'=some (some o)->s=s')/\
 ∀s ob',L' s=some ob'->match m s with|some (some o)=>∃ob,L o=some ob/\p8 m ob' ob|some none=>ob'.esz≠0/\ob'.cells=[] |none=>False
def Hv(P:Program)(rs:List ResultVar)(r:AV)(σ1:Sto):oU:=λe F L _=>match e with
 | .normal| .ret=>ik P rs F L λl=>∃m:Rf,yX m σ1 L/\cR m r (rL l)
 |_=>False
def Ty{f:FuncId}{fn:Func}{c:Code}{A:List PV}{r:AV}{σ1:Sto}(hok:je P f=true)(hf:P.funcs[f]? =some fn)(hb:fn.body=some c)
  {L0:Sto} {N0:Nat} (h0:si L0 N0) (h:awp P c (Hv P fn.results.toList r σ1) (A.map .p++cS (fn.ntmps-A.length) .undef) L0 N0):IH P f A r σ1:=by
 refine⟨hok,λC w vs hC hrep=>Kk hf hb hC hrep h0 h ?_⟩;rintro e a w' F L N hq ⟨⟨ρ,s1,s2,s3⟩,s4,s5,s6,s7⟩;have fin:ik P fn.results.toList F L (λl=>∃m:Rf,yX m σ1 L/\cR m r (rL l))->a.defers=[]/\∃v,(results fn a.tmps).run P w'= .ok v w'/\∃v' ρ1,Ending.returned v= .returned v'/\StR C ρ1 σ1 w' w.heap.size/\aR ρ1 (bC C w.heap.size w' ρ1 σ1) r v'/\Below w.heap.size w w':=by intro h;obtain⟨l,v,⟨m,⟨h1,h2⟩,h3⟩,hres,hrep⟩:=Nx s1 s3 h;obtain⟨k1,k2⟩:=s1.rf m h1 h2;exact⟨s5,v,hres,v,_,rfl,k2,uQ k1 _ _ v h3 hrep,s7⟩
 cases e<;>first|exact fin hq|exact hq.elim
variable {o:Oper} {E:Operand->AV} {σ:Nat->Option Ob} {n:Nat}
def Wx{c:Call}{f:Operand}{fid:FuncId}{A:List PV}{r r':AV}{σ1:Sto}{m1:Rf}{W':List (Nat×Option Ob)}(ho:o.op= .call c)(hc:c.callee= .value f)(hfv:E f= .p (.fn (.func fid) [] []))
  (hA:bK (c.args.toList.map E)=some A) (hS:IH P fid A r σ1) (hcl:∀s x,m1 s=some x->cls s=n) (hWn:∀s,W'.lookup s≠none->cls s=n/\W'.lookup s≠some none) (hR:yX m1 (λs=>(W'.lookup s).join) σ1)
  (hty:∀s ob,W'.lookup s=some (some ob)->¬(ob.esz=0/\ob.ty=0)) (hr:cR m1 r' r):bT P o E σ n r' [] W':=by
 have hfm:f∈o.op.operands.toList:=by rw[ho];simp[cX,jT,hc]
 have ham:∀x∈c.args.toList,x∈o.op.operands.toList:=by intro x hx;rw[ho];simp[cX,jT];exact .inr (by grind)
 intro C0 ρ g V w B hs hB _ hn hgn hE;have hargs:∀l:List Operand,(∀x∈l,x∈o.op.operands.toList)->ag ρ (bC C0 B w ρ g) (l.map E) (l.map (bH V)):=by
  intro l;induction l with
  |nil=>intro _;rfl
  |cons x l ih=>
   unfold ag;grind
 have hall:=qp hA (hargs _ ham);have hvf:bH V f= .func (.func fid) #[] #[] :=by have:=hE f hfm;rw[hfv]at this;unfold aR aU at this;obtain⟨v1,v2,h1,h2,h3⟩:=this;unfold ae at h2 h3;rw[h1,h2,h3]
 obtain⟨hok,hcalls⟩:=hS;have hrun:(execOp (bH V) o).run P w= .ok (.enter fid (c.args.toList.map (bH V)).toArray) w:=by
  unfold execOp;rw[ho];have e2: #[] ++td (bH V) c.args++ #[] =(c.args.toList.map (bH V)).toArray:=by apply pC.1;simp
  simp only[resolve,hc,hvf,te,cg,dc,cl,invoke,ky hok,e2]
 have hlive:∀s ob b c,g s=some ob->ρ s=some (some b,c)->b<w.heap.size:=by intro s ob b c e1 e2;obtain⟨_,arr,e3⟩:=hs.at e1 e2;exact e3.lt
 unfold cJ;rw[hrun];dsimp only;refine(hcalls (bC C0 B w ρ g) w _ (λb o v h=>h.1) hall).mono ?_;rintro e w' ⟨v,ρ1,rfl,t1,t2,hbel⟩;obtain⟨j1,j2⟩:=t1.rf m1 hR.1 hR.2;have hold:∀b,b<w.heap.size->w'.heap[b]? =w.heap[b]? :=λb hb=>hbel.block b hb;generalize hρL:jK m1 ρ1=ρL at*;have hLn:∀s q,ρL s=some q->cls s=n:=by
  intro s q hq;rw[<-hρL]at hq;unfold jK at hq;cases hm:m1 s with
  |none=>grind
  |some x=>grind
 let ρ':Ren:=λs=>if cls s=n then ρL s else ρ s
 have hρn:∀s,cls s=n->ρ' s=ρL s:=by grind
 have hρs:∀s,cls s≠n->ρ' s=ρ s:=by grind
 have hL':∀s ob,W'.lookup s=some (some ob)->(λs=>(W'.lookup s).join) s=some ob:=by grind
 have hup:∀s,W'.lookup s=none->ai g W' s=g s:=λs h=>by unfold ai;rw[h]
 have hupn:∀s,cls s≠n->ai g W' s=g s:=by grind
 have hnew:∀s ob,ai g W' s=some ob->cls s=n->W'.lookup s=some (some ob):=by
  intro s ob h hs';unfold ai at h;cases hl:W'.lookup s with
  |none=>grind
  |some x=>grind
 have hext:∀s q,ρ s=some q->ρ' s=some q:=by grind
 have hextL:∀s q,ρL s=some q->ρ' s=some q:=by grind
 have hge:∀s ob b c,W'.lookup s=some (some ob)->ρL s=some (some b,c)->w.heap.size<=b:=λs ob b c h1 h2=>(j2.at (hL' s ob h1) h2).1;have hmono:∀b o' x,bC C0 B w ρ g b o' x->bC C0 B w' ρ' (ai g W') b o' x:=by
  intro b o' x ⟨e1,e2,e3⟩;have hb:b<w.heap.size:=jp w ⟨b,o',none⟩ e1;refine⟨(jA (hold b hb)).trans e1,λs c' e4=> ?_,e3⟩;by_cases hsn:cls s=n
  .cases hu:ai g W' s with
   |none=>rfl
   |some ob=>grind
  .grind
 have hCL:∀b o' x,bC (bC C0 B w ρ g) w.heap.size w' ρL (λs=>(W'.lookup s).join) b o' x->bC C0 B w' ρ' (ai g W') b o' x:=by
  intro b o' x ⟨e1,e2,e3⟩;refine⟨e1,λs c' e4=> ?_,?_⟩
  .by_cases hsn:cls s=n
   .rw[hρn s hsn]at e4;cases hu:ai g W' s with
    |none=>rfl
    |some ob=>grind
   .rw[hρs s hsn]at e4;rw[hupn s hsn];rcases e3 with e3|e3
    .cases hg:g s with
     |none=>rfl
     |some ob=>grind
    .exact e3.2.1 s c' e4
  .rcases e3 with e3|e3
   .omega
   .exact e3.2.2
 refine⟨_,rfl,ρ',hρs,hmono,?_,aR.mono hextL hCL _ _ (by rw[<-hρL];exact uQ (by grind) _ _ _ hr t2),hbel.mono hB⟩;refine hs.stepG (by grind) hext hmono (by grind) (by grind) ?_;intro s ob hso;obtain⟨q,c',h1,⟨h2,h3|⟨h3,h4⟩⟩|⟨b,arr,h2,h3,h4⟩⟩:=j2.ob s ob (hL' s ob hso)
 .grind
 .refine⟨q,c',by grind,.inr (.inl ⟨h2,h3,?_,?_⟩)⟩
  .rcases h4 with⟨h5,_⟩|⟨h5,h6,es,clock,h7,h8⟩
   .grind
   .exact .inr ⟨h5,by grind,es,clock,h7,ag.mono hextL hCL _ _ h8⟩
  .intro s' ob' c2 hne hu he hρ2 hT;have hT1:ob.ty=1/\ob'.ty=1/\c'=c2:=by
    rcases hT with hT|hT
    .exact hT
    .grind
   by_cases hsn':cls s'=n
   .rw[hρn s' hsn']at hρ2;subst h2;exact hne (j2.mpi s s' ob ob' c' c2 (hL' s ob hso) (by grind) h3 he h1 hρ2 hT).symm
   .rw[hρs s' hsn']at hρ2;rw[hupn s' hsn']at hu;obtain⟨q2,c3,k1,⟨_,⟨k2,_⟩|⟨_,k2⟩⟩|⟨b,arr,k2,_⟩⟩:=hs.ob s' ob' hu
    .exact k2 he
    .rw[hρ2]at k1;cases k1;rcases k2 with⟨k3,_⟩|⟨_,_,es,clock,k3,_⟩
     .grind
     .have hlt:=qz k3;rcases h4 with⟨h5,_⟩|⟨_,h6,_⟩
      .grind
      omega
    grind
 .refine⟨q,c',by grind,.inr (.inr ⟨b,arr,h2,by grind,⟨h4.blk,h4.box,h4.row,λi x hi=> ?_⟩,?_⟩)⟩
  .obtain⟨u,g1,g2,g3⟩:=h4.cells i x hi;exact⟨u,g1,g2,aR.mono hextL hCL x u g3⟩
  .intro s' ob' c2 hne hu hρ2;subst h2;by_cases hsn':cls s'=n
   .rw[hρn s' hsn']at hρ2;exact hne (j2.inj s s' ob ob' b c' c2 (hL' s ob hso) (by grind) h1 hρ2).symm
   grind
end
section
def agI(xs:List Int):Value:= .agg (xs.map (cY .i64)).toArray
structure MKey(P:Program)(k:TypeId)(m:Nat):Prop where
 check:∀(w:World) (em:Bool) (xs:List Int),xs.length=m->(Instr.checkKey em 10000 k (agI xs)).run P w= .ok () w
 eq:∀(w:World) (xs ys:List Int),xs.length=m->ys.length=m->(Op.equal k (agI xs) (agI ys)).run P w= .ok (xs==ys) w
 now:∃d,P.underlying k=some d/\∀a b:Array Value,Instr.sameNow d (.agg a) (.agg b)=none
variable {P:Program}
def jd(es:List MapEntry)(ks:List (List Int×Value)):Prop:=es.map (λe=>(e.key,e.val))=ks.map λq=>(agI q.1,q.2)
def M2{k:TypeId}{m:Nat}(K:MKey P k m)(w:World)(xs:List Int)(hx:xs.length=m):∀(es:List MapEntry) (ks:List (List Int×Value)) (i:Nat),jd es ks->(∀q∈ks,q.1.length=m)->
  ((Instr.findAsking k (agI xs) es i).run P w= .ok none w/\∀q∈ks,q.1≠xs)\/∃j v,(Instr.findAsking k (agI xs) es i).run P w= .ok (some (i+j,v)) w/\ks[j]? =some (xs,v)
 |[],ks,i,h,_=>by
  have:ks=[] :=by simpa using h.symm
  subst this;exact .inl ⟨rfl,by grind⟩
 |e::es,ks,i,h,hl=>by
  cases ks with
  |nil=>unfold jd at h;simp at h
  |cons q ks=>
   unfold jd at h;simp only[cv,nY,tc]at h;obtain⟨⟨h1,h2⟩,h3⟩:=h;unfold Instr.findAsking;simp only[cg,h1,K.eq w xs q.1 hx (by grind),cl];by_cases hq:xs=q.1
   .right;refine⟨0,q.2,?_,by rw[hq];rfl⟩;simp_all
   .rcases M2 K w xs hx es ks (i+1) h3 (by grind)with⟨h4,h5⟩|⟨j,v,h4,h5⟩
    .grind
    .exact .inr ⟨j+1,v,by grind,h5⟩
def Mz{k:TypeId}{m:Nat}(K:MKey P k m)(w:World)(xs:List Int)(hx:xs.length=m)(es:List MapEntry)(ks:List (List Int×Value))(h:jd es ks)(hl:∀q∈ks,q.1.length=m):
  ((Instr.findKey k (agI xs) es).run P w= .ok none w/\∀q∈ks,q.1≠xs)\/∃j v,(Instr.findKey k (agI xs) es).run P w= .ok (some (j,v)) w/\ks[j]? =some (xs,v):=by
 obtain⟨d,hd,hn⟩:=K.now;unfold Instr.findKey;simp only[cg,run_underlying hd,cl];cases es with
 |nil=>
  left;have:ks=[] :=by simpa using h.symm
  subst this;exact⟨rfl,by grind⟩
 |cons e es=>
  have h1:Instr.findNow d (agI xs) (e::es) 0=none:=by
   unfold Instr.findNow;cases ks with
   |nil=>unfold jd at h;simp at h
   |cons q ks=>
    unfold jd at h;simp only[cv,nY,tc]at h;rw[h.1.1];unfold agI;rw[hn]
  rw[h1];simpa using M2 K w xs hx (e::es) ks 0 h hl
def TM(xs:List Int):Instr.sameBits 10000 (agI xs) (agI xs)=true:=by unfold agI Instr.sameBits;simp only[beq_self_eq_true,Bool.true_and,bf];rintro⟨x,y⟩ h;obtain⟨i,hi,e⟩:=jm h;simp only[List.getElem_zip,tc]at e;obtain⟨rfl,rfl⟩:=e;simp[Instr.sameBits]
def WQ(xs:List Int)(w:World):(Instr.keyThatStays (agI xs) (agI xs)).run P w= .ok (agI xs) w:=by unfold Instr.keyThatStays;rw[if_pos (TM xs)];rfl
def gF(ks:List (List Int×AV)):List AV:=ks.flatMap λq=>[.p (.agg (kn q.1)),q.2]
def Mr{C:bE}:∀{xs:List Int} {vs:List Value},ae C (kn xs) vs->vs=xs.map (cY .i64)
 |[],vs,h=>by exact h
 |x::xs,vs,h=>by
  unfold kn at h;obtain⟨v,r,rfl,h1,h2⟩:=h;rw[h1,Mr (xs:=xs) h2];rfl
def F6{ρ:Ren}{C:bE}{xs:List Int}{v:Value}(h:aR ρ C (.p (.agg (kn xs))) v):v=agI xs:=by obtain⟨vs,rfl,h1,_⟩:=h;rw[Mr h1];rfl
def YF{ρ:Ren}{C:bE}(xs:List Int):aR ρ C (.p (.agg (kn xs))) (agI xs):=by
 refine⟨_,rfl,?_,λu hu=> ?_⟩
 .induction xs with
  |nil=>rfl
  |cons x xs ih=>exact⟨_,_,rfl,by rfl,ih⟩
 .obtain⟨x,_,rfl⟩:=bR.1 hu;rfl
def FD{ρ:Ren}{C:bE}:∀{ks:List (List Int×AV)} {es:List MapEntry},ag ρ C (gF ks) (es.flatMap λe=>[e.key,e.val])->
  ∃kv:List (List Int×Value),jd es kv/\kv.length=ks.length/\∀(j:Nat) q,ks[j]? =some q->∃v,kv[j]? =some (q.1,v)/\aR ρ C q.2 v
 |[],es,h=>by
  unfold gF at h;unfold ag at h;cases es with
  |nil=>exact⟨[],rfl,rfl,by grind⟩
  |cons e es=>simp at h
 |q::ks,es,h=>by
  unfold gF at h;cases es with
  |nil=>unfold ag at h;grind
  |cons e es=>
   obtain⟨v,r,h1,h2,h3⟩:=h;cases h1;obtain⟨v,r,h1,h4,h5⟩:=h3;cases h1;obtain⟨kv,g1,g2,g3⟩:=FD (ks:=ks) (es:=es) h5;refine⟨(q.1,e.val)::kv,?_,by simp[g2],?_⟩
   .unfold jd at*;simp only[cv,g1,F6 h2]
   grind
def OX{ρ:Ren}{C:bE}:∀{ks:List (List Int×AV)} {es:List MapEntry} {kv:List (List Int×Value)},jd es kv->kv.length=ks.length->(∀(j:Nat) q,ks[j]? =some q->∃v,kv[j]? =some (q.1,v)/\aR ρ C q.2 v)->
  ag ρ C (gF ks) (es.flatMap λe=>[e.key,e.val])
 |[],es,kv,h,hl,_=>by
  have:kv=[] :=by grind
  subst this;unfold jd at h;have:es=[] :=by simpa using h
  subst this;rfl
 |q::ks,es,kv,h,hl,hk=>by
  cases kv with
  |nil=>simp at hl
  |cons p kv=>
   cases es with
   |nil=>unfold jd at h;simp at h
   |cons e es=>
    unfold jd at h;simp only[cv,nY,tc]at h;obtain⟨⟨h1,h2⟩,h3⟩:=h;obtain⟨v,h4,h5⟩:=hk 0 q rfl;simp at h4;subst h4;refine⟨_,_,rfl,by rw[h1];exact YF q.1,?_⟩;exact⟨_,_,rfl,by grind,OX (ks:=ks) (kv:=kv) h3 (by grind) λj q' hj=>by simpa using hk (j+1) q' (by grind)⟩
def oO:List (List Int×AV)->List Int->AV->AV
 |[],_,z=>z
 |q::ks,xs,z=>if q.1=xs then q.2 else oO ks xs z
def j6:List (List Int×AV)->List Int->AV->List (List Int×AV)
 |[],xs,v=>[(xs,v)]
 |q::ks,xs,v=>if q.1=xs then(xs,v)::ks else q::j6 ks xs v
def rO(ks:List (List Int×AV)):Prop:=ks.Pairwise λp q=>p.1≠q.1
def LD:∀{ks:List (List Int×AV)} {xs:List Int} {z:AV},(∀q∈ks,q.1≠xs)->oO ks xs z=z
 |[],_,_,_=>rfl
 |q::ks,xs,z,h=>by unfold oO;rw[if_neg (by grind)];exact LD (by grind)
def E1:∀{ks:List (List Int×AV)} {xs:List Int} {v:AV},(∀q∈ks,q.1≠xs)->j6 ks xs v=ks++[(xs,v)]
 |[],_,_,_=>rfl
 |q::ks,xs,z,h=>by unfold j6;rw[if_neg (by grind),E1 (by grind)];rfl
def Mn:∀{ks:List (List Int×AV)} {xs:List Int} {v z:AV} {j:Nat},rO ks->ks[j]? =some (xs,v)->oO ks xs z=v
 |[],_,_,_,_,_,h=>by simp at h
 |q::ks,xs,v,z,0,_,h=>by simp at h;unfold oO;grind
 |q::ks,xs,v,z,j+1,hd,h=>by
  unfold rO at hd;rw[gh]at hd;unfold oO;rw[if_neg (by grind)];exact Mn hd.2 h
def N6:∀{ks:List (List Int×AV)} {xs:List Int} {u v:AV} {j:Nat},rO ks->ks[j]? =some (xs,u)->j6 ks xs v=ks.set j (xs,v)
 |[],_,_,_,_,_,h=>by simp at h
 |q::ks,xs,u,v,0,_,h=>by simp at h;unfold j6;grind
 |q::ks,xs,u,v,j+1,hd,h=>by
  unfold rO at hd;rw[gh]at hd;unfold j6;rw[if_neg (by grind),N6 hd.2 h];rfl
variable {o:Oper} {E:Operand->AV} {σ:Nat->Option Ob} {n:Nat}
def T9{t:TypeId}(ho:o.op= .makeMap t none):bT P o E σ n (.mp (sit n 0)) [] [(sit n 0,some ⟨1,0,[]⟩)] :=by
 intro C0 ρ g V w B hs hB _ hn hgn hE;have hcl:∀s,cls s≠n->s≠sit n 0:=λs h e=>h (by rw[e];exact iE n 0);generalize sit n 0=m at*;have hrun:(execOp (bH V) o).run P w= .ok (.value (.map (some w.heap.size))) (w.alloc (.map #[] 0)):=by unfold execOp;rw[ho];rfl
 unfold cJ;rw[hrun];have hblk:(w.alloc (.map #[] 0)).heap[w.heap.size]? =some (.map #[] 0):=heap_alloc_new w _
 let ρ':Ren:=λs=>if s=m then some (none,w.heap.size)else ρ s
 have hext:∀s q,ρ s=some q->ρ' s=some q:=by intro s q hq;show(if s=m then _ else _)=_;rw[if_neg (by grind)];exact hq
 have hold:∀b,b<w.heap.size->(w.alloc (.map #[] 0)).heap[b]? =w.heap[b]? :=λb hb=>Below.heap_alloc w _ b hb;have hlk:∀s,s≠m->[(m,some (⟨1,0,[]⟩:Ob))].lookup s=none:=by intro s hs;simp[hZ,beq_eq_false_iff_ne.2 hs]
 have hup:∀s,s≠m->ai g [(m,some ⟨1,0,[]⟩)] s=g s:=by intro s hs;unfold ai;rw[hlk s hs]
 have hmono:∀b o' x,bC C0 B w ρ g b o' x->bC C0 B (w.alloc (.map #[] 0)) ρ' (ai g [(m,some ⟨1,0,[]⟩)]) b o' x:=by
  intro b o' x ⟨e1,e2,e0⟩;have hb:b<w.heap.size:=jp w ⟨b,o',none⟩ e1;refine⟨(jA (hold b hb)).trans e1,?_,e0⟩;intro s c' e3;by_cases e:s=m
  .grind
  .grind
 refine⟨ρ',by grind,hmono,?_,by unfold aR;grind,(Below.refl B w).alloc hB _⟩;refine hs.stepG ?_ hext hmono ?_ (by grind) ?_
 .grind
 .intro s ob' b c' _ e2 e3;obtain⟨_,arr,e4⟩:=hs.at e2 e3;exact hold b e4.lt
 .intro s ob' e;have e1:s=m:=by
   rcases pD s m with h|h
   .grind
   .exact h
  subst e1;have e2:ob'=⟨1,0,[]⟩:=by simp[hZ]at e;exact e.symm
  subst e2;refine⟨none,w.heap.size,by simp[ρ'],.inr (.inl ⟨rfl,rfl,.inr ⟨rfl,hB, #[],0,hblk,by rfl⟩,?_⟩)⟩;intro s' o' c' hne e3 e4 e5 hT;rw[hup s' hne]at e3;simp only[ρ',if_neg hne]at e5;obtain⟨q2,c3,k1,⟨_,⟨k2,_⟩|⟨_,k2⟩⟩|⟨b,arr,k2,_⟩⟩:=hs.ob s' o' e3
  .exact k2 e4
  .rw[e5]at k1;rcases hT with⟨_,hT2,hT3⟩|⟨hT,_⟩
   .rcases k2 with⟨k3,_⟩|⟨_,_,es,clock,k3,_⟩
    .grind
    grind
   .cases hT
  grind
def Ml{C0:bE}{B:Nat}{ρ:Ren}{g:Nat->Option Ob}{w:World}{s c:Nat}{cells:List AV}(hs:StR C0 ρ g w B)(hg:g s=some ⟨1,0,cells⟩)(hρ:ρ s=some (none,c)):
  B<=c/\∃es clock,w.heap[c]? =some (wD es clock)/\ag ρ (bC C0 B w ρ g) cells (es.toList.flatMap λe=>[e.key,e.val]):=by
 obtain⟨q2,c3,k1,⟨_,⟨k2,_⟩|⟨_,k2⟩⟩|⟨b,arr,k2,_⟩⟩:=hs.ob s _ hg
 .grind
 .rw[hρ]at k1;rcases k2 with⟨k3,_⟩|⟨_,k3,es,clock,k4,k5⟩
  .cases k3
  grind
 grind
def Ux{t k e:TypeId}{x i:Operand}{m s:Nat}{ks:List (List Int×AV)}{xs:List Int}{z:AV}{zv:Value}(ho:o.op= .lookup t x i false)(ht:P.underlying t=some (.map k e))(K:MKey P k m)(hz:∀w,(zeroValue e).run P w= .ok zv w)(hzr:∀ρ C,aR ρ C z zv)
  (hx:E x= .mp s) (hi:E i= .p (.agg (kn xs))) (hxs:xs.length=m) (hob:σ s=some ⟨1,0,gF ks⟩) (hks:∀q∈ks,q.1.length=m) (hd:rO ks):bT P o E σ n (oO ks xs z) [s] [] :=by
 refine bT.pure λC0 ρ g V w B hs hR hE=> ?_;have hgs:g s=some ⟨1,0,gF ks⟩:=by grind
 have hvx:=hE x (by rw[ho];simp[cX]);have hvi:=hE i (by rw[ho];simp[cX]);rw[hx]at hvx;rw[hi]at hvi;obtain⟨c,hρ,hvx⟩:=hvx;obtain⟨_,es,clock,hb,hrep⟩:=Ml hs hgs hρ;obtain⟨kv,g1,g2,g3⟩:=FD hrep;have hkl:∀q∈kv,q.1.length=m:=by
  intro q hq;obtain⟨j,hj,e1⟩:=jm hq;have hj':j<ks.length:=by omega
  obtain⟨v,h1,_⟩:=g3 j ks[j] (by grind);rw[fA hj,e1]at h1;cases h1;grind
 have hrun:∃v,(Instr.lookup t (.map (some c)) (agI xs) false).run P w= .ok v w/\aR ρ (bC C0 B w ρ g) (oO ks xs z) v:=by
  rcases Mz K w xs hxs es.toList kv g1 hkl with⟨h1,h2⟩|⟨j,v,h1,h2⟩
  .refine⟨zv,by simp[Instr.lookup,run_underlying ht,MapKept.run_getObj_map hb,K.check w _ xs hxs,h1,hz,wG],?_⟩;rw[LD]
   .exact hzr _ _
   .intro q hq e;obtain⟨j,hj,e1⟩:=jm hq;obtain⟨v,h3,_⟩:=g3 j q (by grind);grind
  .refine⟨v,by simp[Instr.lookup,run_underlying ht,MapKept.run_getObj_map hb,K.check w _ xs hxs,h1,wG],?_⟩;have hj:j<ks.length:=by rw[<-g2];grind
   obtain⟨q,hq⟩:∃q,ks[j]? =some q:=⟨_,fA hj⟩;obtain⟨u,h3,h4⟩:=g3 j q hq;rw[h2]at h3;simp only[fm,tc]at h3;obtain⟨e1,rfl⟩:=h3;rw[Mn (v:=q.2) hd (by rw[hq,e1])];exact h4
 obtain⟨v,h1,h2⟩:=hrun;unfold cJ execOp;rw[ho];simp only[hvx,F6 hvi,cg,h1,cl,dc];grind
def jd.get{es:List MapEntry}{kv:List (List Int×Value)}(h:jd es kv){j:Nat}{q:List Int×Value}(hq:kv[j]? =some q):∃e,es[j]? =some e/\e.key=agI q.1/\e.val=q.2:=by have:=congrArg (λl=>l[j]?) h;grind
def TR{t k e:TypeId}{x i y:Operand}{m s:Nat}{ks:List (List Int×AV)}{xs:List Int}(ho:o.op= .mapUpdate t x i y)(ht:P.underlying t=some (.map k e))(K:MKey P k m)
  (hx:E x= .mp s) (hi:E i= .p (.agg (kn xs))) (hxs:xs.length=m) (hob:σ s=some ⟨1,0,gF ks⟩) (hks:∀q∈ks,q.1.length=m) (hd:rO ks):
  bT P o E σ n .undef [s] [(s,some ⟨1,0,gF (j6 ks xs (E y))⟩)] :=by
 intro C0 ρ g V w B hs hB hR hn hgn hE;have hgs:g s=some ⟨1,0,gF ks⟩:=by grind
 have hvx:=hE x (by rw[ho];simp[cX]);have hvi:=hE i (by rw[ho];simp[cX]);have hvy:=hE y (by rw[ho];simp[cX]);rw[hx]at hvx;rw[hi]at hvi;obtain⟨c,hρ,hvx⟩:=hvx;obtain⟨hBc,es,clock,hb,hrep⟩:=Ml hs hgs hρ;obtain⟨kv,g1,g2,g3⟩:=FD hrep;have hkl:∀q∈kv,q.1.length=m:=by
  intro q hq;obtain⟨j,hj,e1⟩:=jm hq;have hj':j<ks.length:=by omega
  obtain⟨v,h1,_⟩:=g3 j ks[j] (by grind);rw[fA hj,e1]at h1;cases h1;grind
 generalize hV:bH V y=vy at*;have hrun:∃(es':Array MapEntry) (clock':Nat),(Instr.mapUpdate t (.map (some c)) (agI xs) vy).run P w= .ok () {w with heap:=w.heap.setIfInBounds c (.map es' clock')}/\
   ∃kv',jd es'.toList kv'/\kv'.length=(j6 ks xs (E y)).length/\∀(ρ':Ren) (C':bE),(∀s q,ρ s=some q->ρ' s=some q)->(∀b o x,bC C0 B w ρ g b o x->C' b o x)->∀(j:Nat) q,(j6 ks xs (E y))[j]? =some q->∃v,kv'[j]? =some (q.1,v)/\aR ρ' C' q.2 v:=by
  rcases Mz K w xs hxs es.toList kv g1 hkl with⟨h1,h2⟩|⟨j,v,h1,h2⟩
  .refine⟨es.push ⟨agI xs,vy,clock⟩,clock+1,?_,kv++[(xs,vy)],?_,?_,?_⟩
   .simp[Instr.mapUpdate,run_underlying ht,MapKept.run_getObj_map hb,K.check w _ xs hxs,h1,MapKept.run_setObj_map _ hb,wG]
   .unfold jd at*;grind
   .rw[E1]
    .simp[g2]
    .intro q hq e;obtain⟨j,hj,e1⟩:=jm hq;obtain⟨v,h3,_⟩:=g3 j q (by grind);grind
   .intro ρ' C' hρ' hC' j q hq;rw[E1]at hq
    .rcases nU j ks.length with hj|hj
     .rw[List.getElem?_append_left hj]at hq;obtain⟨v,h3,h4⟩:=g3 j q hq;exact⟨v,by grind,aR.mono hρ' hC' _ _ h4⟩
     .rw[List.getElem?_append_right hj]at hq;have hj2:j-ks.length=0:=by have:=(rV.1 hq).1;simp at this;omega
      rw[hj2]at hq;simp at hq;subst hq;exact⟨vy,by grind,aR.mono hρ' hC' _ _ hvy⟩
    .intro q hq e;obtain⟨j,hj,e1⟩:=jm hq;obtain⟨v,h3,_⟩:=g3 j q (by grind);grind
  .obtain⟨e0,h5,h6,h7⟩:=g1.get h2;have hj:j<ks.length:=by rw[<-g2];grind
   obtain⟨q0,hq0⟩:∃q,ks[j]? =some q:=⟨_,fA hj⟩;have hput:j6 ks xs (E y)=ks.set j (xs,E y):=N6 (u:=q0.2) hd (by grind);have hes:es[j]? =some e0:=by simpa using h5
   refine⟨es.modify j (λe=>{e with key:=agI xs,val:=vy}),clock,?_,kv.set j (xs,vy),?_,?_,?_⟩
   .simp[Instr.mapUpdate,run_underlying ht,MapKept.run_getObj_map hb,K.check w _ xs hxs,h1,hes,h6,WQ,MapKept.run_setObj_map _ hb,wG]
   .unfold jd at*;have e1:(es.modify j (λe=>{e with key:=agI xs,val:=vy})).toList=es.toList.set j {e0 with key:=agI xs,val:=vy}:=by
     apply Cr;intro i;rw[yz];by_cases hij:j=i
     .grind
     .grind
    simp_all
   .grind
   .intro ρ' C' hρ' hC' i q hq;rw[hput,yz]at hq;split at hq
    .rename_i e1;cases hq;exact⟨vy,by grind,aR.mono hρ' hC' _ _ hvy⟩
    .obtain⟨v,h3,h4⟩:=g3 i q hq;exact⟨v,by grind,aR.mono hρ' hC' _ _ h4⟩
 obtain⟨es',clock',hr,kv',f1,f2,f3⟩:=hrun;have hclt:=qz hb;unfold cJ execOp;rw[ho];simp only[hvx,F6 hvi,hV,cg,hr,cl,dc];have hold:∀b,b≠c->({w with heap:=w.heap.setIfInBounds c (.map es' clock')}:World).heap[b]? =w.heap[b]? :=by intro b hbc;show(w.heap.setIfInBounds c _)[b]? =_;rw[v7,if_neg (by grind)]
 have hnb:({w with heap:=w.heap.setIfInBounds c (.map es' clock')}:World).heap[c]? =some (wD es' clock'):=by show(w.heap.setIfInBounds c _)[c]? =_;rw[v7,if_pos rfl,if_pos hclt]
 have hsize:({w with heap:=w.heap.setIfInBounds c (.map es' clock')}:World).heap.size=w.heap.size:=by simp
 have hos:({w with heap:=w.heap.setIfInBounds c (.map es' clock')}:World).os=w.os/\({w with heap:=w.heap.setIfInBounds c (.map es' clock')}:World).tape=w.tape/\({w with heap:=w.heap.setIfInBounds c (.map es' clock')}:World).output=w.output:=by grind
 generalize ({w with heap:=w.heap.setIfInBounds c (.map es' clock')}:World)=w' at*;have hlk:∀s',s'≠s->[(s,some (⟨1,0,gF (j6 ks xs (E y))⟩:Ob))].lookup s'=none:=by intro s' hs';simp[hZ,beq_eq_false_iff_ne.2 hs']
 have hup:∀s',s'≠s->ai g [(s,some ⟨1,0,gF (j6 ks xs (E y))⟩)] s'=g s':=by intro s' hs';unfold ai;rw[hlk s' hs']
 have hmono:∀b' o' x',bC C0 B w ρ g b' o' x'->bC C0 B w' ρ (ai g [(s,some ⟨1,0,gF (j6 ks xs (E y))⟩)]) b' o' x':=by
  intro b' o' x' ⟨e1,e2,e0⟩;have hne:b'≠c:=by intro e3;subst e3;unfold World.cell? at e1;simp[hb]at e1
  refine⟨(jA (hold b' hne)).trans e1,?_,e0⟩;intro s' c' e3;by_cases e:s'=s
  .grind
  .grind
 refine⟨ρ,λ_ _=>rfl,hmono,?_,by rfl,⟨hos.1,hos.2.1,hos.2.2,by omega,by grind⟩⟩;refine hs.stepG (by grind) (λ_ _ h=>h) hmono ?_ ?_ ?_
 .intro s' o' b' c' e1 e2 e3;refine hold b' λe=> ?_;obtain⟨_,arr,e4⟩:=hs.at e2 e3;exact uo hb e4.blk e.symm
 .intro s' o' c' es2 clock2 e1 e2 e3 e4 e5 e6;refine hold c' λe=> ?_;subst e;have:=hs.mpi s' s o' _ c' c' e2 hgs e3 rfl e5 hρ (.inl (by grind));grind
 .intro s' o' e;have e1:s'=s:=by
   rcases pD s' s with h|h
   .grind
   .exact h
  subst e1;have e2:o'=⟨1,0,gF (j6 ks xs (E y))⟩:=by simp[hZ]at e;exact e.symm
  subst e2;refine⟨none,c,hρ,.inr (.inl ⟨rfl,rfl,.inr ⟨rfl,hBc,es',clock',hnb,OX f1 f2 (f3 ρ _ (λ_ _ h=>h) hmono)⟩,?_⟩)⟩;intro s2 o2 c2 hne e3 e4 e5 hT;rw[hup s2 hne]at e3;exact hne (hs.mpi s' s2 _ o2 c c2 hgs e3 rfl e4 hρ e5 (by
   rcases hT with⟨_,h2,h3⟩|⟨h1,_⟩
   .exact .inl ⟨rfl,h2,h3⟩
   .cases h1)).symm
end
section
def gp:Nat->(Nat->Option Ob)->AV->Option PV
 |_,_,.p x=>some x
 |_,_,.nil=>some (.sl 0 [])
 |_,_,.own .. =>some .junk
 |_,_,.any=>some .junk
 |0,_,.ptr .. =>some .junk
 |d+1,σ,.ptr s off=>(σ s).bind λob=>(dj (gp d σ) ob.cells).map λl=> .pro l off
 |d+1,σ,.agg l=>(dj (gp d σ) l).map .agg
 |d+1,σ,.fn f a b=>(dj (gp d σ) a).bind λx=>(dj (gp d σ) b).map λy=> .fn f x y
 |_,_,_=>none
def fu:Nat->(Nat->Option Ob)->AV->List Nat
 |0,_,_=>[]
 |d+1,σ,.ptr s _=>s::(match σ s with|some ob=>bL (fu d σ) ob.cells|none=>[])
 |d+1,σ,.agg l=>bL (fu d σ) l
 |d+1,σ,.fn _ a b=>bL (fu d σ) a++bL (fu d σ) b
 |_,_,_=>[]
def Vl{C0:bE}{ρ:Ren}{g σ:Nat->Option Ob}{w:World}{B s0 b0 c0:Nat}{o0:Ob}(hs:StR C0 ρ g w B)(hg0:g s0=some o0)(hρ0:ρ s0=some (some b0,c0)):
  ∀(d:Nat) (x:AV) (y:PV) (v:Value),gp d σ x=some y->(∀s∈fu d σ x,s≠s0/\g s=σ s)->aR ρ (bC C0 B w ρ g) x v->aU (λb o u=>w.cell? ⟨b,o,none⟩=some u/\b≠b0) y v:=by
 have hfull:∀b o v,bC C0 B w ρ g b o v->w.cell? ⟨b,o,none⟩=some v/\b≠b0:=λb o v h=>⟨h.1,λe=>by subst e;have:=h.2.1 s0 c0 hρ0;grind⟩;intro d;induction d with
 |zero=>
  intro x y v h hr hx;unfold gp at h;split at h<;>first|(cases h;done)|skip
  .cases h;exact aU.mono hfull _ v hx
  .cases h;unfold aR at hx;unfold aU;grind
  .cases h;trivial
  .cases h;trivial
  .cases h;trivial
  all_goals (rename_i e;cases e)
 |succ d ih=>
  have ihL:∀(l:List AV) (m:List PV) (vs:List Value),dj (gp d σ) l=some m->(∀s∈bL (fu d σ) l,s≠s0/\g s=σ s)->ag ρ (bC C0 B w ρ g) l vs->ae (λb o u=>w.cell? ⟨b,o,none⟩=some u/\b≠b0) m vs:=by
   intro l m vs h hr hv;obtain⟨h1,h2⟩:=n7 h;refine ae.of _ _ (by rw[<-h1];exact hv.length) λi y hi=> ?_;have hlt:i<l.length:=by rw[h1];grind
   obtain⟨y',h3,h4⟩:=h2 i l[i] (by grind);rw[hi]at h3;cases h3;obtain⟨v,h5,h6⟩:=hv.get _ _ i l[i] (by grind);exact⟨v,h5,ih _ _ v h4 (λs hs'=>hr s (ng (by grind) hs')) h6⟩
  intro x y v h hr hx;unfold gp at h;split at h<;>first|(cases h;done)|skip
  .cases h;exact aU.mono hfull _ v hx
  .cases h;unfold aR at hx;unfold aU;grind
  .cases h;trivial
  .cases h;trivial
  .omega
  .rename_i σ _ _ _ d' s off e;cases e;simp only[qT,ll]at h;obtain⟨ob,h1,l,h2,rfl⟩:=h;obtain⟨hne,hg⟩:=hr s (by simp[fu]);have hg:g s=some ob:=hg.trans h1;have hr2:∀s'∈bL (fu d σ) ob.cells,s'≠s0/\g s'=σ s':=λs' hs'=>hr s' (by simp only[fu,h1];grind);obtain⟨b,c,hq,hv⟩:=hx;refine⟨b,0,by grind,?_⟩;obtain⟨hBb,arr,hO⟩:=hs.at hg hq;obtain⟨g1,g2⟩:=n7 h2;refine cL.of _ _ _ λi y hi=> ?_;have hlt:i<ob.cells.length:=by rw[g1];grind
   obtain⟨y',h5,h6⟩:=g2 i ob.cells[i] (by grind);rw[hi]at h5;cases h5;obtain⟨v,k1,k2,k3⟩:=hO.cells i ob.cells[i] (by grind);refine⟨v,⟨by rw[jo,hO.cell];exact k1,λe=> ?_⟩,k2,ih _ _ v h6 (λs hs'=>hr2 s (ng (by grind) hs')) k3⟩;subst e;exact hne (hs.inj s s0 _ _ b c c0 hg hg0 hq hρ0)
  .rename_i d' l e;cases e;simp only[ll]at h;obtain⟨m,h2,rfl⟩:=h;obtain⟨vs,h3,h4,h5⟩:=hx;exact⟨vs,h3,ihL l m vs h2 (λs hs'=>hr s hs') h4,h5⟩
  .rename_i d' f a b e;cases e;simp only[qT,ll]at h;obtain⟨x1,h1,x2,h2,rfl⟩:=h;obtain⟨vs1,vs2,h3,h4,h5⟩:=hx;exact⟨vs1,vs2,h3,ihL a x1 vs1 h1 (λs hs'=>hr s (fT _ hs')) h4,ihL b x2 vs2 h2 (λs hs'=>hr s (fB _ hs')) h5⟩
def Jz{C0:bE}{ρ:Ren}{g σ:Nat->Option Ob}{w:World}{B s0 b0 c0 d:Nat}{o0:Ob}(hs:StR C0 ρ g w B)(hg0:g s0=some o0)(hρ0:ρ s0=some (some b0,c0)):
  ∀{l:List AV} {m:List PV} {vs:List Value},dj (gp d σ) l=some m->(∀s∈bL (fu d σ) l,s≠s0/\g s=σ s)->ag ρ (bC C0 B w ρ g) l vs->ae (λb o u=>w.cell? ⟨b,o,none⟩=some u/\b≠b0) m vs:=by
 intro l m vs h hr hv;obtain⟨h1,h2⟩:=n7 h;refine ae.of _ _ (by rw[<-h1];exact hv.length) λi y hi=> ?_;have hlt:i<l.length:=by rw[h1];grind
 obtain⟨y',h3,h4⟩:=h2 i l[i] (by grind);rw[hi]at h3;cases h3;obtain⟨v,h5,h6⟩:=hv.get _ _ i l[i] (by grind);exact⟨v,h5,Vl hs hg0 hρ0 d _ _ v h4 (λs hs'=>hr s (ng (by grind) hs')) h6⟩
variable {P:Program}
def flat1(x:PV):Bool:=match x with
 | .int .. | .bool _| .str _=>true
 |_=>false
def EV{C C':bE}{x:PV}{v:Value}(hf:flat1 x=true)(h:aU C x v):aU C' x v:=by cases x<;>first|(cases hf;done)|(unfold aU at*;exact h)
def IJ(P:Program)(f:FuncId)(n:Nat)(A:List PV)(ty esz:Nat)(cells cells':List PV)(m:Nat):Prop:=je P f=true/\cells'.length<=cells.length/\m<=n/\cells'.all flat1=true/\
 ∀(C:bE) (w:World) (b c:Nat) (arr:Array Value) (vs:List Value),(∀b' o v,C b' o v->w.cell? ⟨b',o,none⟩=some v/\b'≠b)->Lent C w b c ty esz cells arr->n<=c->ae C A vs->
  Calls P f (.slice (some ⟨b,0,none⟩) n c::vs).toArray w λe w'=>∃arr',e= .returned (.slice (some ⟨b,0,none⟩) m c)/\w'.heap[b]? =some (.cells arr' ty (0,0))/\arr'.size=arr.size/\
   (∀(i:Nat) x,cells'[i]? =some x->∃v,arr'[i]? =some v/\v.oneCell'=true/\aU C x v)/\w.grownBy w' (some b)
variable {o:Oper} {E:Operand->AV} {σ:Nat->Option Ob} {n:Nat}
def Lo{c:Call}{f:Operand}{fid:FuncId}{s k m ty esz:Nat}{rest:List AV}{A cells cells':List PV}(ho:o.op= .call c)(hc:c.callee= .value f)(hfv:E f= .p (.fn (.func fid) [] []))
  (hargs:c.args.toList.map E= .own s 0 k::rest) (hob:σ s=some ⟨ty,esz,cells.map .p⟩) (he:esz≠0) (hk:0<k) (hA:dj (gp 3 σ) rest=some A) (hns:s∉bL (fu 3 σ) rest) (hS:IJ P fid k A ty esz cells cells' m):
  bT P o E σ n (.own (sit n 0) 0 m) (s::bL (fu 3 σ) rest) [(s,none),(sit n 0,some ⟨ty,esz,cells'.map .p⟩)] :=by
 have hfm:f∈o.op.operands.toList:=by rw[ho];simp[cX,jT,hc]
 have ham:∀x∈c.args.toList,x∈o.op.operands.toList:=by intro x hx;rw[ho];simp[cX,jT];exact .inr (by grind)
 obtain⟨hok,hlen,hmk,hfl,hcall⟩:=hS;intro C0 ρ g V w B hs hB hR hn hgn hE;have hn:=hn _ (iE n 0);have hgn:=hgn _ (iE n 0);have hcl:∀s,cls s≠n->s≠sit n 0:=λs h e=>h (by rw[e];exact iE n 0);have hl:∀l:List Operand,(∀x∈l,x∈o.op.operands.toList)->ag ρ (bC C0 B w ρ g) (l.map E) (l.map (bH V)):=by
  intro l;induction l with
  |nil=>intro _;rfl
  |cons x l ih=>
   unfold ag;grind
 have hall:=hl _ ham;rw[hargs]at hall;unfold ag at hall;obtain⟨v,us,hvs,hv,hus⟩:=hall;have hvf:bH V f= .func (.func fid) #[] #[] :=by have:=hE f hfm;rw[hfv]at this;unfold aR aU at this;obtain⟨v1,v2,h1,h2,h3⟩:=this;unfold ae at h2 h3;rw[h1,h2,h3]
 have hrun:(execOp (bH V) o).run P w= .ok (.enter fid (v::us).toArray) w:=by
  unfold execOp;rw[ho];have e2: #[] ++td (bH V) c.args++ #[] =(v::us).toArray:=by rw[<-hvs];apply pC.1;simp
  simp only[resolve,hc,hvf,te,cg,dc,cl,invoke,ky hok,e2]
 have hgs:g s=some ⟨ty,esz,cells.map .p⟩:=by grind
 unfold aR at hv;obtain⟨q,cap,hρ,⟨_,_,hk0,_⟩|⟨b,o',c',rfl,rfl,h5,h6,h7⟩⟩:=hv
 .omega
 obtain⟨rfl,rfl⟩:=h7 rfl;obtain⟨hBb,arr,hO⟩:=hs.at hgs hρ;have hL:Lent (λb' o u=>w.cell? ⟨b',o,none⟩=some u/\b'≠b) w b c' ty esz cells arr:=by refine⟨hO.blk,λh=>by omega,λh=>by simpa using hO.row h,λi x hi=> ?_⟩;obtain⟨u,h1,h2,h3⟩:=hO.cells i (.p x) (by grind);unfold aR at h3;exact⟨u,h1,h2,aU.mono (λb' o v h=>⟨h.1,λe=>by subst e;have:=h.2.1 s c' hρ;grind⟩) x u h3⟩
 have hcN:cells.length<=arr.size:=by simpa using(hO.row he).2.1
 unfold cJ;rw[hrun];dsimp only;refine(hcall _ w b c' arr us (by grind) hL h5 (Jz hs hgs hρ hA (by grind) hus)).mono ?_;rintro e w' ⟨arr',rfl,hblk,hsz,hcells,hG⟩;generalize hnS:sit n 0=nS at*;have hsn:s≠nS:=λe=>by grind
 let ρ':Ren:=λt=>if t=nS then some (some b,c')else ρ t
 have hρn:ρ' nS=some (some b,c'):=if_pos rfl;have hρs:∀t,t≠nS->ρ' t=ρ t:=by grind
 have hext:∀t q,ρ t=some q->ρ' t=some q:=by grind
 have hlk:∀t,t≠s->t≠nS->[(s,none),(nS,some (⟨ty,esz,cells'.map .p⟩:Ob))].lookup t=none:=by intro t h1 h2;simp[hZ,beq_eq_false_iff_ne.2 h1,beq_eq_false_iff_ne.2 h2]
 have hup:∀t,t≠s->t≠nS->ai g [(s,none),(nS,some ⟨ty,esz,cells'.map .p⟩)] t=g t:=by intro t h1 h2;unfold ai;rw[hlk t h1 h2]
 have hups:ai g [(s,none),(nS,some ⟨ty,esz,cells'.map .p⟩)] s=none:=by unfold ai;simp[hZ]
 have hold:∀k,k<w.heap.size->k≠b->w'.heap[k]? =w.heap[k]? :=λk h1 h2=>hG.block k h1 (by grind);have hmono:∀b' o' x,bC C0 B w ρ g b' o' x->bC C0 B w' ρ' (ai g [(s,none),(nS,some ⟨ty,esz,cells'.map .p⟩)]) b' o' x:=by
  intro b' o' x ⟨e1,e2,e0⟩;have hne:b'≠b:=λe=>by grind
  refine⟨(jA (hold b' (jp w ⟨b',o',none⟩ e1) hne)).trans e1,?_,e0⟩;intro t c2 e3;by_cases h1:t=nS
  .grind
  .grind
 refine⟨_,rfl,ρ',by grind,hmono,?_,by unfold aR;grind,⟨hG.os,hG.tape,hG.output,hG.size,by grind⟩⟩;refine hs.step (by grind) hext hmono ?_ ?_ λk es clock hk=>hold k (qz hk) (uo hk hO.blk)
 .intro t ob b' c2 e1 e2 e3;obtain⟨_,arr2,e4⟩:=hs.at e2 e3;refine hold b' e4.lt λe=> ?_;subst e;have:=hs.inj t s ob _ b' c2 c' e2 hgs e3 hρ;grind
 .intro t ob e1;have e2:t=nS:=by
   rcases pD t nS with h1|h1
   .grind
   .exact h1
  subst e2;have e3:ob=⟨ty,esz,cells'.map .p⟩:=by simp[hZ,beq_eq_false_iff_ne.2 (Ne.symm hsn)]at e1;exact e1.symm
  subst e3;obtain⟨r1,r2,r3⟩:=hO.row he;refine⟨some b,c',hρn,.inr ⟨b,arr',rfl,hBb,⟨hblk,by grind,by grind,λi x hi=> ?_⟩,?_⟩⟩
  .rw[gS]at hi;cases hc2:cells'[i]? with
   |none=>grind
   |some y=>
    rw[hc2]at hi;simp only[eE,fm]at hi;subst hi;obtain⟨u,h1,h2,h3⟩:=hcells i y hc2;exact⟨u,h1,h2,by exact EV (by grind) h3⟩
  .intro t' ob' c2 hne hg' hr';rw[hρs t' hne]at hr';by_cases h2:t'=s
   .grind
   .rw[hup t' h2 hne]at hg';exact h2 (hs.inj t' s ob' _ b c2 c' hg' hgs hr' hρ)
def Lm{c:Call}{f:Operand}{fid:FuncId}{s k ty esz:Nat}{rest:List AV}{A cells cells':List PV}(ho:o.op= .call c)(hc:c.callee= .value f)(hfv:E f= .p (.fn (.func fid) [] []))
  (hargs:c.args.toList.map E= .own s 0 k::rest) (hob:σ s=some ⟨ty,esz,cells.map .p⟩) (he:esz≠0) (hk:0<k) (hA:dj (gp 3 σ) rest=some A) (hns:s∉bL (fu 3 σ) rest) (hfl:cells'.all flat1=true) (hS:mS P fid (some k) A ty esz cells cells'):
  bT P o E σ n .undef (s::bL (fu 3 σ) rest) [(s,some ⟨ty,esz,cells'.map .p⟩)] :=by
 have hfm:f∈o.op.operands.toList:=by rw[ho];simp[cX,jT,hc]
 have ham:∀x∈c.args.toList,x∈o.op.operands.toList:=by intro x hx;rw[ho];simp[cX,jT];exact .inr (by grind)
 obtain⟨hok,hlen,hcall,_⟩:=hS;intro C0 ρ g V w B hs hB hR hn hgn hE;have hl:∀l:List Operand,(∀x∈l,x∈o.op.operands.toList)->ag ρ (bC C0 B w ρ g) (l.map E) (l.map (bH V)):=by
  intro l;induction l with
  |nil=>intro _;rfl
  |cons x l ih=>
   unfold ag;grind
 have hall:=hl _ ham;rw[hargs]at hall;obtain⟨v,us,hvs,hv,hus⟩:=hall;have hvf:bH V f= .func (.func fid) #[] #[] :=by have:=hE f hfm;rw[hfv]at this;unfold aR aU at this;obtain⟨v1,v2,h1,h2,h3⟩:=this;unfold ae at h2 h3;rw[h1,h2,h3]
 have hrun:(execOp (bH V) o).run P w= .ok (.enter fid (v::us).toArray) w:=by
  unfold execOp;rw[ho];have e2: #[] ++td (bH V) c.args++ #[] =(v::us).toArray:=by rw[<-hvs];apply pC.1;simp
  simp only[resolve,hc,hvf,te,cg,dc,cl,invoke,ky hok,e2]
 have hgs:g s=some ⟨ty,esz,cells.map .p⟩:=by grind
 obtain⟨q,cap,hρ,⟨_,_,hk0,_⟩|⟨b,o',c',rfl,rfl,h5,h6,h7⟩⟩:=hv
 .omega
 obtain⟨rfl,rfl⟩:=h7 rfl;obtain⟨hBb,arr,hO⟩:=hs.at hgs hρ;have hL:Lent (λb' o u=>w.cell? ⟨b',o,none⟩=some u/\b'≠b) w b c' ty esz cells arr:=by refine⟨hO.blk,λh=>by omega,λh=>by simpa using hO.row h,λi x hi=> ?_⟩;obtain⟨u,h1,h2,h3⟩:=hO.cells i (.p x) (by grind);unfold aR at h3;exact⟨u,h1,h2,aU.mono (λb' o v h=>⟨h.1,λe=>by subst e;have:=h.2.1 s c' hρ;grind⟩) x u h3⟩
 unfold cJ;rw[hrun];refine(hcall _ w b c' arr us (by grind) hL (by grind) (Jz hs hgs hρ hA (by grind) hus)).mono ?_;rintro e w' ⟨arr',rfl,hL',hG⟩;have hlk:∀t,t≠s->[(s,some (⟨ty,esz,cells'.map .p⟩:Ob))].lookup t=none:=by intro t h1;simp[hZ,beq_eq_false_iff_ne.2 h1]
 have hup:∀t,t≠s->ai g [(s,some ⟨ty,esz,cells'.map .p⟩)] t=g t:=by intro t h1;unfold ai;rw[hlk t h1]
 have hold:∀k,k<w.heap.size->k≠b->w'.heap[k]? =w.heap[k]? :=λk h1 h2=>hG.block k h1 (by grind);have hmono:∀b' o' x,bC C0 B w ρ g b' o' x->bC C0 B w' ρ (ai g [(s,some ⟨ty,esz,cells'.map .p⟩)]) b' o' x:=by
  intro b' o' x ⟨e1,e2,e0⟩;have hne:b'≠b:=λe=>by grind
  refine⟨(jA (hold b' (jp w ⟨b',o',none⟩ e1) hne)).trans e1,?_,e0⟩;intro t c2 e3;by_cases h2:t=s
  .grind
  .grind
 refine⟨_,rfl,ρ,λ_ _=>rfl,hmono,?_,by rfl,⟨hG.os,hG.tape,hG.output,hG.size,by grind⟩⟩;refine hs.step (by grind) (λ_ _ h=>h) hmono ?_ ?_ λk es clock hk=>hold k (qz hk) (uo hk hO.blk)
 .intro t ob b' c2 e1 e2 e3;obtain⟨_,arr2,e4⟩:=hs.at e2 e3;refine hold b' e4.lt λe=> ?_;subst e;have:=hs.inj t s ob _ b' c2 c' e2 hgs e3 hρ;grind
 .intro t ob e1;have e2:t=s:=by
   rcases pD t s with h1|h1
   .grind
   .exact h1
  subst e2;have e3:ob=⟨ty,esz,cells'.map .p⟩:=by simp[hZ]at e1;exact e1.symm
  subst e3;refine⟨some b,c',hρ,.inr ⟨b,arr',rfl,hBb,⟨hL'.blk,by grind,λh=>by simpa using hL'.row h,λi x hi=> ?_⟩,?_⟩⟩
  .rw[gS]at hi;cases hc2:cells'[i]? with
   |none=>grind
   |some y=>
    rw[hc2]at hi;simp only[eE,fm]at hi;subst hi;obtain⟨u,h1,h2,h3⟩:=hL'.cells i y hc2;exact⟨u,h1,h2,by exact EV (by grind) h3⟩
  .intro t' ob' c2 hne hg' hr';rw[hup t' hne]at hg';exact hne (hs.inj t' t ob' _ b c2 c' hg' hgs hr' hρ)
end
def fE(x y:Int):Int:=if x<y then-1 else if y<x then 1 else 0
def aBq(ax ay bx b_y:Int)(w:World):fz ak (binOp .eql 44 (.agg #[.int .i64 ax,.int .i64 ay]) (.agg #[.int .i64 bx,.int .i64 b_y])) w= .ok (.bool (ax==bx&&ay==b_y)) w:=by
 have u3:=Tryz.underlying3;have a3:=Tryz.isAgg3;have z3:=Tryz.sizeOf3;have hS:ak.underlying 44=some (.struct (ak.fieldsOf 44)):=by kernel_rfl
 have hp:ak.stoodInHeld 44=false:=by kernel_rfl
 rw[run_eql_struct,show(10000:Nat)=9999+1 from rfl,run_equalIn_agg w 9999 44 _ _ hS hp];simp only[Program.fieldsOf,Tryz.underlying44]
 go_simp
 grind
section
def fe(r:List V):List PV:=r.flatMap λv=>[.int .i64 v.x,.int .i64 v.y]
def CV(l:List S):List PV:=l.flatMap λs=>[.int .i64 s.a.x,.int .i64 s.a.y,.int .i64 s.b.x,.int .i64 s.b.y]
def gL(r:List V):PV:= .sl r.length (fe r)
def HI(l:List S):PV:= .sl l.length (CV l)
def oJ(l:List aE):PV:= .sl l.length (l.map gL)
def kM(s:Shape):PV:= .agg [gL s.outer,oJ s.holes]
def jk{α:Type}(m:Nat)(enc:List α->List PV)(e:α->List PV):Prop:=∀l,enc l=l.flatMap e/\∀x,(e x).length=m
section
variable {α:Type} {m:Nat} {enc:List α->List PV} {e:α->List PV}
def jk.length(h:jk m enc e)(l:List α):(enc l).length=l.length*m:=by
 rw[(h l).1];induction l with
 |nil=>simp
 |cons x l ih=>simp only[fG,List.length_append,ih,(h []).2 x,gu,y5];omega
def jk.append(h:jk m enc e)(l k:List α):enc (l++k)=enc l++enc k:=by rw[(h _).1,(h l).1,(h k).1,List.flatMap_append]
def jk.at(h:jk m enc e)(l:List α)(i:Nat)(hi:i<l.length):((enc l).drop (i*m)).take m=e l[i] :=by
 have h1:l=l.take i++l[i] ::l.drop (i+1):=by rw[List.getElem_cons_drop];simp
 have h2:enc l=enc (l.take i)++(e l[i] ++enc (l.drop (i+1))):=by
  conv=>lhs;rw[h1]
  rw[h.append,(h (l[i] ::_)).1,fG,<-(h _).1]
 have h3:=h.length (l.take i);rw[lm,Is (by omega)]at h3;rw[h2,<-h3,List.drop_left,<-(h []).2 l[i],Cw]
def jk.take(h:jk m enc e)(l:List α)(k:Nat):(enc l).take (k*m)=enc (l.take k):=by
 by_cases hk:k<=l.length
 .have h3:=h.length (l.take k);rw[lm,Is hk]at h3
  conv=>lhs;rw[<-tX k l,h.append,<-h3,Cw]
 .rw[ip (by rw[h.length];exact Cs _ (by omega)),ip (by omega)]
def jk.drop(h:jk m enc e)(l:List α)(k:Nat):(enc l).drop (k*m)=enc (l.drop k):=by
 by_cases hk:k<=l.length
 .have h3:=h.length (l.take k);rw[lm,Is hk]at h3
  conv=>lhs;rw[<-tX k l,h.append,<-h3,List.drop_left]
 .have e1:l.drop k=[] :=Sh (by omega);rw[e1,Sh (by rw[h.length];exact Cs _ (by omega)),(h []).1];rfl
end
def u6:jk 2 fe λv=>[.int .i64 v.x,.int .i64 v.y] :=λ_=>⟨rfl,λ_=>rfl⟩
def aA8:jk 4 CV λs=>[.int .i64 s.a.x,.int .i64 s.a.y,.int .i64 s.b.x,.int .i64 s.b.y] :=λ_=>⟨rfl,λ_=>rfl⟩
def nth_eq{v:List V}{i:Nat}(h:i<v.length):aEv v i=v[i] :=by unfold aEv;grind
def Zv{v:List V}{i:Nat}(h:i<v.length):((fe v).drop (i*2)).take 2=[.int .i64 (aEv v i).x,.int .i64 (aEv v i).y] :=by rw[nth_eq h];exact u6.at v i h
def YY:yM ak 44 2:=by
 intro xs ys x y w hx hy;match xs,ys,hx,hy with
 |[a,b],[c,d],_,_=>
  have h1:=aBq a b c d w;refine⟨?_,?_⟩
  .simp only[cv,kZ];simp[eqGuard,h1]
  .simp only[cv,kZ];simp[eqGuard];rw[run_neq_struct];rw[run_eql_struct]at h1;revert h1;generalize fz ak (Op.equalIn 10000 44 (Value.agg #[cY iq a,cY iq b]) (Value.agg #[cY iq c,cY iq d])) w=R;intro h1;cases R with
   |ok q w'=>
    simp[wG]at h1;obtain⟨rfl,rfl⟩:=h1;simp[wG];grind
   |_=>simp_all
def bB(l:List S)(i:Nat):S:=l.getD i default
def aY(l:List (Nat×Nat))(i:Nat):Nat×Nat:=l.getD i default
def co(l:List Int)(i:Nat):Int:=l.getD i 0
def oZ(l:List Bool)(i:Nat):Bool:=l.getD i false
def oF{α:Type}{l:List α}{i:Nat}{d:α}(h:i<l.length):l.getD i d=l[i] :=by grind
def jH{l:List S}{i:Nat}(h:i<l.length):bB l i=l[i] :=oF h
def lF{l:List aE}{i:Nat}(h:i<l.length):aA l i=l[i] :=oF h
def oA{l:List (Nat×Nat)}{i:Nat}(h:i<l.length):aY l i=l[i] :=oF h
def Me{l:List S}{i:Nat}(h:i<l.length):bB l i∈l:=by rw[jH h];grind
section
variable {α:Type} {m:Nat} {enc:List α->List PV} {e:α->List PV}
def jk.sub(h:jk m enc e)(l:List α){k:Nat}(hk:k<l.length)(j n:Nat)(hj:j+n<=m):((enc l).drop (k*m+j)).take n=((e l[k]).drop j).take n:=by
 have h1:=h.at l k hk;have h2:(((enc l).drop (k*m)).drop j).take n=((((enc l).drop (k*m)).take m).drop j).take n:=by
  rw[List.drop_take,List.take_take]
  congr 1;omega
 simp_all
def jk.get(h:jk m enc e)(l:List α){k:Nat}(hk:k<l.length)(j:Nat)(hj:j<m):(enc l)[k*m+j]? =(e l[k])[j]? :=by have h1:=h.at l k hk;grind
end
section
variable {α:Type} {m:Nat} {enc:List α->List PV} {e:α->List PV}
end
def BI:(∀a b:Bool,((a&&b)=true)=(a=true/\b=true))/\(∀a b:Bool,((a||b)=true)=(a=true\/b=true))/\(∀a b:Bool,((a&&b)=false)=(a=false\/b=false))/\(∀a b:Bool,((a||b)=false)=(a=false/\b=false))/\(∀b:Bool,((!b)=true)=(b=false))/\(∀b:Bool,((!b)=false)=(b=true))/\(∀(p:Prop) [Decidable p],(decide p=true)=p)/\(∀(p:Prop) [Decidable p],(decide p=false)=¬p)/\(∀{α:Type} [BEq α] [LawfulBEq α] (a b:α),((a==b)=true)=(a=b))/\(∀{α:Type} [BEq α] [LawfulBEq α] (a b:α),((a==b)=false)=(a≠b))/\(∀{α:Type} [BEq α] [LawfulBEq α] (a b:α),((a !=b)=true)=(a≠b))/\(∀{α:Type} [BEq α] [LawfulBEq α] (a b:α),((a !=b)=false)=(a=b)):=
 ⟨by simp,by simp,by simp,by simp,by simp,by simp,λp _=>by simp,λp _=>by simp,λa b=>by simp,λa b=>by simp,λa b=>by simp,λa b=>by simp⟩
end
section
noncomputable section
inductive Fm:Type 1
 |tt
 |stuck (n:Nat)
 |need (p:Prop) (f:Fm)
 |imp (p:Prop) (f:Fm)
 |both (f g:Fm)
 |all (X:Type) (f:X->Fm)
 |ex (X:Type) (f:X->Fm)
def Fm.isTT:Fm->Bool
 | .tt=>true
 |_=>false
def Fm.holds:Fm->Prop
 | .tt=>True
 | .stuck _=>False
 | .need p f=>(match f.isTT with|true=>p|false=>p/\f.holds)
 | .imp p f=>p->f.holds
 | .both f g=>(match f.isTT,g.isTT with|true,_=>g.holds|false,true=>f.holds|false,false=>f.holds/\g.holds)
 | .all X f=>∀x:X,(f x).holds
 | .ex X f=>∃x:X,(f x).holds
def Fm.G3{f:Fm}(h:f.isTT=true):f.holds:=by cases f<;>first|trivial|cases h
def Fm.Ur{p:Prop}{f:Fm}(h:(Fm.need p f).holds):p/\f.holds:=by
 unfold Fm.holds at h;split at h
 .rename_i e;exact⟨h,Fm.G3 e⟩
 .exact h
def Fm.uD{f g:Fm}(h:(Fm.both f g).holds):f.holds/\g.holds:=by
 unfold Fm.holds at h;split at h
 .rename_i e;exact⟨Fm.G3 e,h⟩
 .rename_i e;exact⟨h,Fm.G3 e⟩
 .exact h
def rA:List Prop->Fm->Fm
 |[],f=>f
 |p::l,f=> .need p (rA l f)
def re:∀{l:List Prop} {f:Fm},(rA l f).holds->(∀p∈l,p)/\f.holds
 |[],f,h=>⟨by grind,h⟩
 |q::l,f,h=>by
  obtain⟨h1,h2⟩:=Fm.Ur h;obtain⟨h3,h4⟩:=re h2;grind
def oi:List Prop->Prop
 |[] =>True
 |[p] =>p
 |p::l=>p/\oi l
def jY:∀{l:List Prop},oi l↔∀p∈l,p
 |[] =>⟨by grind,λ_=>trivial⟩
 |[p] =>⟨λh q hq=>(by rw[bZ.1 hq];exact h),λh=>h p (by grind)⟩
 |p::q::l=>by
  show p/\oi (q::l)↔_;rw[jY];exact⟨by grind,λh=>⟨h p (by grind),by grind⟩⟩
def H3(l:List Prop)(f:Fm):Fm:=match l with
 |[] =>f
 |p::l=> .imp (oi (p::l)) f
def KM{l:List Prop}{f:Fm}(h:(H3 l f).holds)(hl:∀p∈l,p):f.holds:=by
 cases l with
 |nil=>exact h
 |cons p l=>exact(h:oi (p::l)->_) (jY.2 hl)
inductive LT where
 |V|S|R|I|B|P|Q
deriving DecidableEq
@[reducible] def LT.ty : LT → Type
  | .V => Geo.V
  | .S => Geo.S
  | .R => aE
  | .I => Int
  | .B => Bool
  | .P => Nat × Nat
  | .Q => List Int
def LT.w:LT->Nat
 | .V=>2
 | .S=>4
 | .R=>1
 | .I=>1
 | .B=>1
 | .P=>2
 | .Q=>1
def CW(l:List Int):List PV:=l.flatMap λn=>[.int .i64 n]
def af(l:List (List Int))(i:Nat):List Int:=l.getD i []
def LT.rowP:(t:LT)->t.ty->List PV
 | .V=>λv=>[.int .i64 v.x,.int .i64 v.y]
 | .S=>λs=>[.int .i64 s.a.x,.int .i64 s.a.y,.int .i64 s.b.x,.int .i64 s.b.y]
 | .R=>λr=>[.sl r.length (fe r)]
 | .I=>λn=>[.int .i64 n]
 | .B=>λb=>[.bool b]
 | .P=>λp=>[.int .i64 p.1,.int .i64 p.2]
 | .Q=>λr=>[.sl r.length (CW r)]
def LT.enc(t:LT)(l:List t.ty):List PV:=l.flatMap t.rowP
def LT.wide(t:LT):jk t.w t.enc t.rowP:=λ_=>⟨rfl,λx=>by cases t<;>rfl⟩
def LT.kP(t:LT):0<t.w:=by cases t<;>decide
def LT.nth:(t:LT)->List t.ty->Nat->t.ty
 | .V=>aEv
 | .S=>bB
 | .R=>aA
 | .I=>co
 | .B=>oZ
 | .P=>aY
 | .Q=>af
def LT.nth_eq(t:LT)(l:List t.ty){i:Nat}(h:i<l.length):t.nth l i=l[i] :=by
 cases t
 .exact Go.Proofs.YtdaeofhdgabhjaaGreat.nth_eq h
 .exact jH h
 .exact lF h
 .exact oF h
 .exact oF h
 .exact oA h
 .exact oF h
inductive SV where
 |any|undef|nil
 |int (k:IntKind) (n:Int)
 |bool (b:Bool)
 |lit (b:Bool)
 |prop (p:Prop) (d:Decidable p)
 |str (s:ByteArray)
 |agg (l:List SV)
 |tup (l:List SV)
 |lst (t:LT) (l:List t.ty)
 |sl (n:Nat) (cells:List SV)
 |pe (t:LT) (l:List t.ty) (i off:Nat)
 |pro (cells:List SV) (off:Nat)
 |fn (f:Nat) (first caps:List SV)
 |fnp (f:Nat) (first caps:List SV)
 |clo1 (pv:PV) (t:LT) (q:t.ty->Bool) (dom:t.ty->Prop)
 |clo2 (pv:PV) (t:LT) (q:t.ty->t.ty->Int) (dom:t.ty->t.ty->Prop)
 |ptr (s off:Nat)
 |pte (s:Nat) (t:LT) (i off:Nat)
 |own (s:Nat) (t:LT) (n:Nat)
 |owns (s:Nat) (t:LT) (o n:Nat)
 |ownx (s n:Nat)
 |ptb (F:Nat->Bool) (n off:Nat)
 |ownf (x:Nat) (t:LT) (a n:Nat)
 |ptef (x:Nat) (t:LT) (a i off:Nat)
 |ptf (x a:Nat)
 |owF (x n:Nat)
 |junk
 |mp (s:Nat)
def NM:Nat:=1000000
def ncl(x:Nat):Nat:=x % NM
def idx(s:Nat):Nat:=(s/2^cls s-1)/2
def F8(n i:Nat):idx (sit n i)=i:=by unfold idx;rw[iE];unfold sit;rw[Nat.mul_div_cancel_left _ (by grind)];omega
def Nn(n i:Nat):0<sit n i:=Nat.mul_pos (by grind) (by omega)
structure Sites where
 inn:Nat->Nat->Nat
 nm:Nat->Nat
 sub:Nat->Nat
 h1:∀x a,nm (inn x a)=x
 h2:∀x a,sub (inn x a)=a
 h3:∀x a,cls (inn x a)=ncl x
 h4:∀x,x<NM->inn x 0=sit x 0
theorem Ue:Nonempty Sites:=⟨⟨λx a=>sit (x % NM) (sit (x/NM) a-1),λs=>cls (idx s+1)*NM+cls s,λs=>idx (idx s+1),
 λx a=>by rw[F8,iE,IR (Nn _ _),iE];exact Nat.div_add_mod' x NM,
 λx a=>by rw[F8,IR (Nn _ _),F8],
 λx a=>iE _ _,
 λx h=>by rw[dp h,Nat.div_eq_of_lt h];rfl⟩⟩
def sites:Sites:=Classical.choice Ue
def inn(x a:Nat):Nat:=sites.inn x a
def aO(x:Nat):Nat:=inn x 0
def nm(s:Nat):Nat:=sites.nm s
def sub(s:Nat):Nat:=sites.sub s
def se(x a:Nat):nm (inn x a)=x:=sites.h1 x a
def sP(x a:Nat):sub (inn x a)=a:=sites.h2 x a
def fO(x a:Nat):cls (inn x a)=ncl x:=sites.h3 x a
def fJ{x y a b:Nat}(h:inn x a=inn y b):x=y/\a=b:=⟨by rw[<-se x a,h,se],by rw[<-sP x a,h,sP]⟩
def k8{x y:Nat}(h:aO x=aO y):x=y:=(fJ h).1
def zZ{x:Nat}(h:x<NM):aO x=sit x 0:=sites.h4 x h
def CB(n:Nat)(F:Nat->Bool):List PV:=(bV n).map λk=> .bool (F k)
def XS(F:Nat->Bool){n k:Nat}(h:k<n):(CB n F)[k]? =some (.bool (F k)):=by unfold CB;grind
def j0(l:List AV):AV:=match bK l with|some q=> .p (.tup q)|none=> .tup l
mutual
def SV.av:SV->AV
 | .any=> .any
 | .undef=> .undef
 | .nil=> .nil
 | .int k n=> .p (.int k n)
 | .bool b=> .p (.bool b)
 | .lit b=> .p (.bool b)
 | .prop p d=> .p (.bool (@decide p d))
 | .str s=> .p (.str s)
 | .agg l=>eJ (avs l)
 | .tup l=>j0 (avs l)
 | .lst t l=> .p (.sl l.length (t.enc l))
 | .sl n cs=>(match bK (avs cs)with|some q=> .p (.sl n q)|none=> .any)
 | .pe t l i off=> .p (.pro (t.enc l) (i*t.w+off))
 | .pro cs off=>(match bK (avs cs)with|some q=> .p (.pro q off)|none=> .any)
 | .fn f a b=> .fn (.func f) (avs a) (avs b)
 | .fnp f a b=>(match bK (avs a),bK (avs b)with|some x,some y=> .p (.fn (.func f) x y)|_,_=> .any)
 | .clo1 pv _ _ _=> .p pv
 | .clo2 pv _ _ _=> .p pv
 | .ptr s off=> .ptr (aO s) off
 | .pte s t i off=> .ptr (aO s) (i*t.w+off)
 | .own s _ n=> .own (aO s) 0 n
 | .owns s t o n=> .own (aO s) (o*t.w) n
 | .ownx s n=> .own (aO s) 0 n
 | .ptb F n off=> .p (.pro (CB n F) off)
 | .ownf x _ a n=> .own (inn x (a+1)) 0 n
 | .ptef x t a i off=> .ptr (inn x (a+1)) (i*t.w+off)
 | .ptf x a=> .ptr (aO x) a
 | .owF x n=> .own (aO x) 0 n
 | .junk=> .p .junk
 | .mp s=> .mp (aO s)
def avs:List SV->List AV
 |[] =>[]
 |x::l=>x.av::avs l
end
def iy:∀l:List SV,avs l=l.map SV.av
 |[] =>rfl
 |x::l=>by rw[avs,iy l];rfl
def jV(l:List SV):(avs l).length=l.length:=by rw[iy,db]
def rr(l m:List SV):avs (l++m)=avs l++avs m:=by rw[iy,iy,iy,dR]
def FV(l:List SV)(k:Nat):avs (l.drop k)=(avs l).drop k:=by rw[iy,iy,Cy]
def FU(l:List SV)(k:Nat):avs (l.take k)=(avs l).take k:=by rw[iy,iy,Cz]
def xu(l:List SV)(k:Nat):(avs l)[k]? =(l[k]?).map SV.av:=by rw[iy,gS]
def O3(l:List SV)(k:Nat)(x:SV):avs (l.set k x)=(avs l).set k x.av:=by rw[iy,iy,List.map_set]
def LT.row:(t:LT)->t.ty->List SV
 | .V=>λv=>[.int .i64 v.x,.int .i64 v.y]
 | .S=>λs=>[.int .i64 s.a.x,.int .i64 s.a.y,.int .i64 s.b.x,.int .i64 s.b.y]
 | .R=>λr=>[.lst .V r]
 | .I=>λn=>[.int .i64 n]
 | .B=>λb=>[.bool b]
 | .P=>λp=>[.int .i64 p.1,.int .i64 p.2]
 | .Q=>λr=>[.lst .I r]
def LT.BM(t:LT)(x:t.ty):avs (t.row x)=(t.rowP x).map .p:=by cases t<;>rfl
def LT.dec:(t:LT)->List SV->Option t.ty
 | .V,[.int .i64 x,.int .i64 y] =>some ⟨x,y⟩
 | .S,[.int .i64 a,.int .i64 b,.int .i64 c,.int .i64 d] =>some ⟨⟨a,b⟩,⟨c,d⟩⟩
 | .R,[.lst .V r] =>some r
 | .R,[.nil] =>none
 | .I,[.int .i64 n] =>some n
 | .Q,[.lst .I r] =>some r
 | .B,[.bool b] =>some b
 | .B,[.lit b] =>some b
 | .B,[.prop p d] =>some (@decide p d)
 | .P,[.int .i64 (.ofNat a),.int .i64 (.ofNat b)] =>some (a,b)
 |_,_=>none
def LT.yJ{t:LT}{cs:List SV}{x:t.ty}(h:t.dec cs=some x):avs cs=(t.rowP x).map .p:=by unfold LT.dec at h;split at h<;>first|(cases h;done)|(cases h;rfl)
def LT.decs(t:LT):Nat->List SV->Option (List t.ty)
 |0,[] =>some []
 |0,_=>none
 |n+1,cs=>match t.dec (cs.take t.w),t.decs n (cs.drop t.w)with
  |some x,some l=>some (x::l)
  |_,_=>none
def LT.ui{t:LT}:∀{n:Nat} {cs:List SV} {l:List t.ty},t.decs n cs=some l->l.length=n/\avs cs=(t.enc l).map .p
 |0,[],l,h=>by simp only[LT.decs,fm]at h;subst h;exact⟨rfl,rfl⟩
 |0,_::_,l,h=>by simp[LT.decs]at h
 |n+1,cs,l,h=>by
  unfold LT.decs at h;split at h
  .rename_i x l' h1 h2;cases h;obtain⟨h3,h4⟩:=LT.ui h2;have h5:=LT.yJ h1;refine⟨by simp[h3],?_⟩;have h6:avs cs=avs (cs.take t.w)++avs (cs.drop t.w):=by rw[<-rr,tX]
   rw[h6,h5,h4];simp only[LT.enc,fG,dR]
  .cases h
def dS:∀l:List PV,bK (l.map .p)=some l
 |[] =>rfl
 |x::l=>by simp only[cv,bK,dS l,eE]
def rp(l:List PV):eJ (l.map .p)= .p (.agg l):=by unfold eJ;rw[dS]
def LT.sub(t:LT)(l:List t.ty){i:Nat}(h:i<l.length)(off m:Nat)(hm:off+m<=t.w):
  ((t.enc l).drop (i*t.w+off)).take m=((t.rowP (t.nth l i)).drop off).take m:=by
 rw[LT.nth_eq t l h];exact t.wide.sub l h off m hm
def LT.get(t:LT)(l:List t.ty){i:Nat}(h:i<l.length)(off:Nat)(hm:off<t.w):
  (t.enc l)[i*t.w+off]? =(t.rowP (t.nth l i))[off]? :=by
 have h1:=congrArg (λl=>l[0]?) (LT.sub t l h off 1 (by omega));grind
def svK:Value->SV
 | .int k n=> .int k n
 | .bool b=> .lit b
 | .string s=> .str s
 | .slice none 0 0=> .nil
 |_=> .any
def PC(v:Value):(svK v).av=kO v:=by unfold svK;split<;>simp only[SV.av,kO]
def Fg:∀vs:List Value,avs (vs.map svK)=vs.map kO
 |[] =>rfl
 |v::vs=>by simp only[cv,avs,PC,Fg vs]
def svC:Value->SV
 | .agg cs=>if cs.toList.all (·.oneCell')=true then .agg (cs.toList.map svK)else .any
 | .tuple vs=>if vs.toList=[]then .undef else .any
 |v=>svK v
def aAm(v:Value):(svC v).av=sQ v:=by
 unfold svC;split
 .split<;>rename_i h<;>simp only[sQ,SV.av,Fg,h] <;>rfl
 .split<;>rename_i h<;>simp only[sQ,SV.av,h,if_true,if_false]
 .rw[PC];unfold sQ;grind
abbrev Frm:=List (Nat×SV)
def Frm.at:Frm->Nat->SV
 |[],_=> .undef
 |(d,v)::F,t=>match bF t d with|true=>v|false=>Frm.at F t
def Frm.lJ(d:Nat)(v:SV)(F:Frm)(t:Nat):Frm.at ((d,v)::F) t=if t=d then v else Frm.at F t:=by
 conv=>lhs;unfold Frm.at
 split
 .simp_all
 .rename_i h;rw[if_neg (ls h)]
def Frm.av(n:Nat)(F:Frm):List AV:=(bV n).map λt=>(F.at t).av
def Frm.jE(n:Nat)(F:Frm):(F.av n).length=n:=by simp[Frm.av]
def Frm.mE{n:Nat}{F:Frm}{t:Nat}(h:t<n):(F.av n).getD t .any=(F.at t).av:=by unfold Frm.av;grind
def Frm.aA3{n:Nat}{F:Frm}{d:Nat}{v:SV}(h:d<n):eK (F.av n) (some d) v.av=Frm.av n ((d,v)::F):=by
 unfold eK;apply Cr;intro i;rw[yz];by_cases hi:i<n
 .by_cases e:d=i
  .subst e;rw[if_pos rfl,if_pos (by rw[Frm.jE];exact h)];unfold Frm.av;rw[gS,Ip h,eE,Frm.lJ,if_pos rfl]
  .rw[if_neg e];unfold Frm.av;rw[gS,gS,Ip hi,eE,eE,Frm.lJ,if_neg (by grind)]
 .have h1:(Frm.av n ((d,v)::F))[i]? =none:=lr (by rw[Frm.jE];omega);have h2:(F.av n)[i]? =none:=lr (by rw[Frm.jE];omega);grind
def tG(n:Nat)(F:Frm):Operand->SV
 | .tmp t=>(match iT t n with|true=>F.at t|false=> .any)
 | .const v=>svC v
 | .func f=> .fnp f [] []
 | .global _=> .any
def FM{n:Nat}{F:Frm}(x:Operand):(tG n F x).av=j5 (F.av n) x:=by
 cases x with
 |tmp t=>
  show(match iT t n with|true=>F.at t|false=>SV.any).av=(F.av n).getD t .any;cases h:iT t n with
  |true=>rw[Frm.mE (by simp_all)]
  |false=>
   have h2:¬(t+1<=n):=λhh=>by have:=Nat.ble_eq_true_of_le hh;rw[show iT t n=mf (t+1) n from rfl]at h;grind
   rw[dw,lr (by rw[Frm.jE];grind)];rfl
 |const v=>exact aAm v
 |func f=>rfl
 |global g=>rfl
inductive SOb where
 |box (ty:TypeId) (cells:List SV)
 |row (ty:TypeId) (t:LT) (l:List t.ty)
 |arr (ty esz:Nat) (cells:List SV)
 |fam (ty ity:TypeId) (t:LT) (L:List (List t.ty)) (ov:List (Nat×SV))
 |mp (ks:List (Nat×Nat))
def il(x:Nat){α:Type}(L:List (List α))(ov:List (Nat×SV))(i:Nat):AV:=match ov.lookup i with
 |some v=>v.av
 |none=> .own (inn x (i+1)) 0 (L.getD i []).length
def gW(ks:List (Nat×Nat)):List (List Int×AV):=ks.map λk=>([(k.1:Int),(k.2:Int)],.p (.bool true))
def ry:∀ks:List (Nat×Nat),gF (gW ks)=(ks.flatMap λk=>[PV.agg (kn [(k.1:Int),(k.2:Int)]),.bool true]).map .p
 |[] =>rfl
 |k::ks=>by
  have:=ry ks;unfold gF gW at*;grind
def SOb.ob(x:Nat):SOb->Ob
 | .box ty cs=>⟨ty,0,avs cs⟩
 | .row ty t l=>⟨ty,t.w,(t.enc l).map .p⟩
 | .arr ty esz cs=>⟨ty,esz,avs cs⟩
 | .fam ty _ _ L ov=>⟨ty,1,(bV L.length).map (il x L ov)⟩
 | .mp ks=>⟨1,0,gF (gW ks)⟩
def SOb.inner(a:Nat):SOb->Option Ob
 | .fam _ ity t L ov=>(match ov.lookup a with|some _=>none|none=>(L[a]?).map λl=>⟨ity,t.w,(t.enc l).map .p⟩)
 |_=>none
def SOb.flat:SOb->Bool
 | .fam .. =>false
 |_=>true
def SOb.zb{ob:SOb}(h:ob.flat=true)(a:Nat):ob.inner a=none:=by cases ob<;>first|rfl|cases h
abbrev aP:=List (Nat×Option SOb)
def aP.at:aP->Nat->Option SOb
 |[],_=>none
 |(k,x)::L,s=>match bF s k with|true=>x|false=>aP.at L s
abbrev Sg:=Nat->Option SOb
open Classical in
def Sg.a(σ:Sg):Sto:=λs=>if inn (nm s) (sub s)=s then(match sub s with
 |0=>(σ (nm s)).map (SOb.ob (nm s))
 |a+1=>(σ (nm s)).bind (SOb.inner a))else none
def Sg.cI(σ:Sg)(x:Nat):σ.a (aO x)=(σ x).map (SOb.ob x):=by unfold Sg.a aO;rw[sP,se,if_pos rfl]
def Sg.fX(σ:Sg)(x a:Nat):σ.a (inn x (a+1))=(σ x).bind (SOb.inner a):=by unfold Sg.a;rw[sP,se,if_pos rfl]
def Sg.jj(σ:Sg){s:Nat}(h:∀x a,s≠inn x a):σ.a s=none:=by unfold Sg.a;grind
def kE(s:Nat):(∃x,s=aO x)\/(∃x a,s=inn x (a+1))\/∀x a,s≠inn x a:=by
 by_cases h:∃x a,s=inn x a
 .obtain⟨x,a,rfl⟩:=h;cases a with
  |zero=>exact .inl ⟨x,rfl⟩
  |succ a=>grind
 grind
def aP.up(W:aP)(σ:Sg):Sg:=λs=>match W.lookup s with|some x=>x|none=>σ s
def aP.Bi(W L:aP):W.up L.at=(W++L).at:=by
 funext s
 unfold aP.up;induction W with
 |nil=>rfl
 |cons q W ih=>
  obtain⟨k,x⟩:=q;show _=(match bF s k with|true=>x|false=>aP.at (W++L) s);rw[dV];cases h:bF s k with
  |true=>simp_all
  |false=>rw[beq_eq_false_iff_ne.2 (ls h)];exact ih
def bY(σ:Sg)(rd:List Nat)(W:aP)(R':List Nat)(W':List (Nat×Option Ob)):Prop:=
 inC R' (rd.map ncl)/\inC (W'.map (·.1)) (W.map λq=>ncl q.1)/\ai σ.a W'=(W.up σ).a
def bY.read(σ:Sg)(rd:List Nat):bY σ rd [] (rd.map aO) [] :=by refine⟨λs hs=> ?_,λs hs=>by grind,rfl⟩;obtain⟨x,hx,rfl⟩:=bR.1 hs;rw[show cls (aO x)=ncl x from fO x 0];grind
def frs(σ:Sg)(n:Nat):Bool:=match iT n NM,σ n with
 |true,none=>true
 |_,_=>false
def mC{σ:Sg}{n:Nat}(h:frs σ n=true):aO n=sit n 0/\σ n=none:=by
 unfold frs at h;split at h
 .rename_i h1 h2;exact⟨zZ (by simp_all),h2⟩
 .cases h
def qA:Option SOb->Bool
 |some ob=>ob.flat
 |none=>true
def aP.sto(W:aP):List (Nat×Option Ob):=W.map λq=>(aO q.1,q.2.map (SOb.ob q.1))
def Uw(W:aP)(x:Nat):W.sto.lookup (aO x)=(W.lookup x).map λo=>o.map (SOb.ob x):=by
 induction W with
 |nil=>rfl
 |cons q W ih=>
  obtain⟨k,o⟩:=q;show((aO k,o.map (SOb.ob k))::aP.sto W).lookup (aO x)=_;rw[dV,dV];by_cases h:x=k
  .subst h;simp
  .rw[beq_eq_false_iff_ne.2 h,beq_eq_false_iff_ne.2 λe=>h (k8 e)];exact ih
def Jv{W:aP}{s:Nat}(h:∀x,s≠aO x):W.sto.lookup s=none:=by
 induction W with
 |nil=>rfl
 |cons q W ih=>
  show((aO q.1,q.2.map (SOb.ob q.1))::aP.sto W).lookup s=_;grind
def bY.flat{σ:Sg}{rd:List Nat}{W:aP}(h:∀q∈W,qA (σ q.1)=true/\qA q.2=true):bY σ rd W (rd.map aO) W.sto:=by
 refine⟨(bY.read σ rd).1,λs hs=> ?_,?_⟩
 .unfold aP.sto at hs;rw[di]at hs;obtain⟨q,hq,rfl⟩:=bR.1 hs;show cls (aO q.1)∈_;rw[show cls (aO q.1)=ncl q.1 from fO q.1 0];grind
 .funext s
  unfold ai;rcases kE s with⟨x,rfl⟩|⟨x,a,rfl⟩|hno
  .rw[Uw,Sg.cI,Sg.cI];unfold aP.up;grind
  .rw[Jv λy e=>by have:=(fJ e).2;omega,Sg.fX,Sg.fX];unfold aP.up;cases hl:W.lookup x with
   |none=>rfl
   |some o=>
    have hm:(x,o)∈W:=by
     clear h;induction W with
     |nil=>cases hl
     |cons q W ih=>
      grind
    obtain⟨h1,h2⟩:=h _ hm;have nofam:∀p:Option SOb,qA p=true->p.bind (SOb.inner a)=none:=λp hp=>by
     cases p with
     |none=>rfl
     |some ob=>exact SOb.zb hp a
    grind
  .rw[Jv λy e=>hno y 0 e,Sg.jj σ hno,Sg.jj _ hno]
end
end
noncomputable section
def aJ(x:Int):Prop:= -9223372036854775808<=x/\x<=9223372036854775807
def uG{x:Int}(h:aJ x):iq.wrap x=x:=by unfold aJ at h;exact IntWalk.i64_in _ (by omega)
def ix(a:Int)(n:Nat):Prop:=0<=a/\a<(n:Int)
def eW{k n:Nat}(h:k<n):ix k n:=⟨by omega,by omega⟩
def i5{k n:Nat}(h:0<n):ix (((k % n:Nat):Int)) n:=eW (Nat.mod_lt _ h)
abbrev SR:=Option (List Prop×SV×List Nat×aP)
abbrev SE:=Operand->SV
def SE.a(E:SE):Operand->AV:=λx=>(E x).av
def rG(P:Program)(n:Nat)(o:Oper)(E:SE)(σ:Sg)(R:SR):Prop:=
 ∀ps r rd W,R=some (ps,r,rd,W)->(∀p∈ps,p)->AOp P n o E.a σ.a λr' R' W'=>r'=r.av/\bY σ rd W R' W'
def SV.ok:SV->Prop
 | .pe _ l i _=>i<l.length
 |_=>True
def SV.ape:SV->Bool
 | .pe .. =>true
 |_=>false
def SV.nF{v:SV}(h:v.ape=false):v.ok:=by cases v<;>first|trivial|cases h
def yL(x:SV):Option (List SV):=match x with
 | .agg l=>some l
 | .tup _=>none
 | .any=>none
 | .undef=>none
 | .sl n cs=>(match bK (avs cs)with|some _=>some [.sl n cs] |none=>none)
 | .pro cs o=>(match bK (avs cs)with|some _=>some [.pro cs o] |none=>none)
 | .fnp f a b=>(match bK (avs a),bK (avs b)with|some _,some _=>some [.fnp f a b] |_,_=>none)
 | .clo1 .. =>none
 | .clo2 .. =>none
 | .junk=>none
 |x=>some [x]
def Ti(l:List AV):lM (eJ l)=some l:=by
 unfold eJ;cases h:bK l with
 |some q=>rw[show lM (.p (.agg q))=some (q.map .p)from rfl,<-iu h]
 |none=>rfl
def Ed{x:SV}{l:List SV}(h:yL x=some l):lM x.av=some (avs l):=by
 cases x<;>simp only[yL,reduceCtorEq,fm]at h<;>first|(subst h;rfl)|skip
 .subst h;exact Ti _
 .rename_i n cs;cases hq:bK (avs cs)with
  |none=>grind
  |some q=>rw[hq]at h;cases h;simp only[avs,SV.av,hq,lM]
 .rename_i cs o;cases hq:bK (avs cs)with
  |none=>grind
  |some q=>rw[hq]at h;cases h;simp only[avs,SV.av,hq,lM]
 .rename_i f a b;cases ha:bK (avs a)<;>cases hb:bK (avs b)<;>rw[ha,hb]at h<;>simp only[reduceCtorEq,fm]at h;subst h;simp only[avs,SV.av,ha,hb,lM]
def qG(cs:List SV)(off:Nat):List SV->List SV
 |[] =>cs
 |x::l=>qG (cs.set off x) (off+1) l
def xf:∀(l cs:List SV) (off:Nat),avs (qG cs off l)=gX (avs cs) off (avs l)
 |[],cs,off=>rfl
 |x::l,cs,off=>by rw[qG,xf l,O3];rfl
def vI(place:Nat->Option (Nat×Nat))(cells:List SV):List (Nat×SV)->Option (List SV)
 |[] =>some cells
 |(i,v)::rest=>match place i,yL v with
  |some (off,size),some l=>(match bF l.length size,mf (off+size) cells.length with
   |true,true=>vI place (qG cells off l) rest
   |_,_=>none)
  |_,_=>none
def FL{place:Nat->Option (Nat×Nat)}:∀(parts:List (Nat×SV)) {cells l:List SV},vI place cells parts=some l->nK place (avs cells) (parts.map λq=>(q.1,q.2.av))=some (avs l)
 |[],cells,l,h=>by simp only[vI,fm]at h;subst h;rfl
 |(i,v)::rest,cells,l,h=>by
  unfold vI at h;split at h
  .rename_i off size m h1 h2;split at h
   .have:=FL rest h;show(match place i,lM v.av with|some (off,size),some l=>if l.length=size/\off+size<=(avs cells).length then nK place (gX (avs cells) off l) (rest.map λ(q:Nat×SV)=>(q.1,q.2.av))else none|_,_=>none)=_;rw[h1,Ed h2];dsimp only;rw[if_pos ⟨by rw[jV];simp_all,by rw[jV];simp_all⟩,<-xf];exact this
   .cases h
  .cases h
def oP(P:Program)(t:TypeId)(cs:List SV)(off:Nat):Option SV:=match tok P t,iQ P t with
 |true,true=>(match bF ((cs.drop off).take (aZ P t)).length (aZ P t)with|true=>some (.agg ((cs.drop off).take (aZ P t)))|false=>none)
 |true,false=>cs[off]?
 |false,_=>none
def qj{P:Program}{t:TypeId}{cs:List SV}{off:Nat}{r:SV}(h:oP P t cs off=some r){K:AV->Prop}(hK:K r.av):rB P t (avs cs) off K:=by
 unfold oP at h;split at h
 .rename_i h1 h2;split at h
  .cases h;refine⟨h1,?_⟩;rw[if_pos h2];refine⟨_,rfl,?_,?_⟩
   .rw[<-FV,<-FU,jV];simp_all
   .rw[<-FV,<-FU];exact hK
  .cases h
 .rename_i h1 h2;refine⟨h1,?_⟩;rw[if_neg (by rw[h2];simp)];exact⟨r.av,by rw[xu,h];rfl,hK⟩
 .cases h
def FE{P:Program}{t:TypeId}{cs:List PV}{off:Nat}{K:AV->Prop}(h:rB P t (cs.map .p) off K):Hb P t cs off λr=>K (.p r):=by
 obtain⟨h1,h2⟩:=h;refine⟨h1,?_⟩;split at h2
 .rename_i hg;rw[if_pos hg];obtain⟨l,h3,h4,h5⟩:=h2;refine⟨(cs.drop off).take (aZ P t),rfl,?_,?_⟩
  .grind
  .rw[<-h3,<-Cy,<-Cz,rp]at h5;exact h5
 grind
def EH{P:Program}{t:TypeId}{lt:LT}{l:List lt.ty}{i off:Nat}(hi:i<l.length)(hoff:off+(match iQ P t with|true=>aZ P t|false=>1)<=lt.w){f:List PV->List AV}(hf:f=List.map .p){K:AV->Prop}
  (h:rB P t (f (lt.rowP (lt.nth l i))) off K):rB P t (f (lt.enc l)) (i*lt.w+off) K:=by
 subst hf;obtain⟨h1,h2⟩:=h;refine⟨h1,?_⟩;split at h2
 .rename_i hg;rw[hg]at hoff;rw[if_pos hg];obtain⟨m,h3,h4,h5⟩:=h2;refine⟨m,?_,h4,h5⟩;rw[<-Cy,<-Cz,LT.sub lt l hi off _ hoff,<-h3,Cz,Cy]
 .rename_i hg;have hg':iQ P t=false:=by simpa using hg
  rw[if_neg hg];obtain⟨x,h3,h4⟩:=h2;refine⟨x,?_,h4⟩;rw[gS]at h3|-;rw[LT.get lt l hi off (by grind)];exact h3
def mP:List (Nat×SV)->Nat->List Prop
 |[],_=>[]
 |q::l,a=>(a≠q.1)::mP l a
def rt:∀{ov:List (Nat×SV)} {a:Nat},(∀p∈mP ov a,p)->ov.lookup a=none
 |[],_,_=>rfl
 |q::l,a,h=>by
  rw[dV,beq_eq_false_iff_ne.2 (h _ bo)];exact rt λp hp=>h p (bk _ hp)
def bY.readI(σ:Sg)(x a:Nat):bY σ [x] [] [inn x (a+1)] [] :=by refine⟨λs hs=> ?_,λs hs=>by grind,rfl⟩;rw[bZ.1 hs,fO];grind
def YU(x:Nat){α:Type}(L:List (List α))(ov:List (Nat×SV)){a:Nat}(h:a<L.length):((bV L.length).map (il x L ov))[a]? =some (il x L ov a):=by grind
def EN{σ:Sg}{x a:Nat}{ty ity:TypeId}{lt:LT}{L:List (List lt.ty)}{ov:List (Nat×SV)}(hs:σ x=some (.fam ty ity lt L ov))(ha:a<L.length)(ho:ov.lookup a=none):σ.a (inn x (a+1))=some ⟨ity,lt.w,(lt.enc (L.getD a [])).map .p⟩:=by rw[Sg.fX,hs];show(match ov.lookup a with|some _=>none|none=>(L[a]?).map λl=>(⟨ity,lt.w,(lt.enc l).map .p⟩:Ob))=_;grind
def bY.cell{σ:Sg}{x:Nat}{ty ity:TypeId}{lt:LT}{L:List (List lt.ty)}{q:Nat×SV}{ov:List (Nat×SV)}{v:SV}(hs:σ x=some (.fam ty ity lt L (q::ov))):
  bY σ [x] [(x,some (.fam ty ity lt L ((q.1,v)::ov)))] [aO x] [(aO x,some ⟨ty,1,((bV L.length).map (il x L (q::ov))).set q.1 v.av⟩)] :=by
 refine⟨(bY.read σ [x]).1,λs hs=> ?_,?_⟩
 .rw[bZ.1 hs];rw[show cls (aO x)=ncl x from fO x 0];grind
 .funext s
  unfold ai;rcases kE s with⟨y,rfl⟩|⟨y,b,rfl⟩|hno
  .rw[Sg.cI,Sg.cI,dV];unfold aP.up;rw[dV];by_cases e:y=x
   .subst e;rw[beq_iff_eq.2 rfl,beq_iff_eq.2 rfl];dsimp only[eE]
    congr 1
    congr 1
    refine tW (by simp) λi h1 h2=> ?_;rw[List.getElem_set];unfold il;grind
   .rw[beq_eq_false_iff_ne.2 e,beq_eq_false_iff_ne.2 λh=>e (k8 h)];rfl
  .rw[Sg.fX,Sg.fX,dV,beq_eq_false_iff_ne.2 λh=>by have:=(fJ h).2;omega];unfold aP.up;rw[dV];by_cases e:y=x
   .subst e;rw[beq_iff_eq.2 rfl,hs];unfold SOb.inner;grind
   grind
  .rw[Sg.jj _ hno,Sg.jj _ hno,dV,beq_eq_false_iff_ne.2 (show s≠aO x from λh=>hno x 0 h)];rfl
def HG(P:Program)(t:TypeId)(x:SV)(σ:Sg):SR:=match x with
 | .pe lt l i off=>(match mf (off+(match iQ P t with|true=>aZ P t|false=>1)) lt.w,oP P t (lt.row (lt.nth l i)) off with
   |true,some r=>some ([],r,[],[])
   |_,_=>none)
 | .pro cs off=>(match bK (avs cs),oP P t cs off with
   |some _,some r=>some ([],r,[],[])
   |_,_=>none)
 | .ptb F n off=>(match tok P t,iQ P t with
   |true,false=>some ([off<n],.bool (F off),[],[])
   |_,_=>none)
 | .ptr s off=>(match σ s with
   |some (.box _ cs)=>(match oP P t cs off with|some r=>some ([],r,[s],[])|none=>none)
   |some (.arr _ _ cs)=>(match oP P t cs off with|some r=>some ([],r,[s],[])|none=>none)
   |_=>none)
 | .pte s lt i off=>(match σ s with
   |some (.row _ lt' l)=>(match decEq lt' lt,mf (off+(match iQ P t with|true=>aZ P t|false=>1)) lt'.w,oP P t (lt'.row (lt'.nth l i)) off with
    | .isTrue _,true,some r=>some ([i<l.length],r,[s],[])
    |_,_,_=>none)
   |_=>none)
 | .ptf x a=>(match σ x with
   |some (.fam _ _ lt L ov)=>(match tok P t,iQ P t with
    |true,false=>some ((a<L.length)::mP ov a,.ownf x lt a (L.getD a []).length,[x],[])
    |_,_=>none)
   |_=>none)
 | .ptef x lt a i off=>(match σ x with
   |some (.fam _ _ lt' L ov)=>(match decEq lt' lt,mf (off+(match iQ P t with|true=>aZ P t|false=>1)) lt'.w,oP P t (lt'.row (lt'.nth (L.getD a []) i)) off with
    | .isTrue _,true,some r=>some ((a<L.length)::(i<(L.getD a []).length)::mP ov a,r,[x],[])
    |_,_,_=>none)
   |_=>none)
 |_=>none
def Xf{P:Program}{n:Nat}{o:Oper}{E:SE}{σ:Sg}{t:TypeId}{x:Operand}(ho:o.op= .load t x)(hx:(E x).ok):rG P n o E σ (HG P t (E x) σ):=by
 intro ps r rd W h hp;unfold AOp;rw[ho];dsimp only;unfold HG at h;split at h
 .rename_i lt l i off e;split at h<;>cases h;rename_i h1 h2;rw[e]at hx;rw[show E.a x= .p (.pro (lt.enc l) (i*lt.w+off)) by unfold SE.a;rw[e];rfl];refine FE (K:=λr'=>r'=r.av/\_) ?_;refine EH hx (pH h1) rfl ?_;rw[<-LT.BM];exact qj h2 ⟨rfl,bY.read σ []⟩
 .rename_i cs off e;split at h<;>cases h;rename_i q h1 h2;rw[show E.a x= .p (.pro q off) by unfold SE.a;rw[e];simp only[SV.av,h1]];refine FE (K:=λr'=>r'=r.av/\_) ?_;rw[<-iu h1];exact qj h2 ⟨rfl,bY.read σ []⟩
 .rename_i F m off e;split at h<;>cases h;rename_i h1 h2;have hlt:off<m:=hp _ (by grind);rw[show E.a x= .p (.pro (CB m F) off) by unfold SE.a;rw[e];rfl];refine FE (K:=λr'=>r'=(SV.bool (F off)).av/\_) ?_;exact⟨h1,by rw[if_neg (by rw[h2];simp)];exact⟨.p (.bool (F off)),by rw[gS,XS F hlt];rfl,rfl,bY.read σ []⟩⟩
 .rename_i s off e;rw[show E.a x= .ptr (aO s) off by unfold SE.a;rw[e];rfl];split at h
  .rename_i ty cs hs;split at h<;>cases h;rename_i h2;refine⟨_,by rw[Sg.cI,hs];rfl,?_⟩;exact qj h2 ⟨rfl,bY.read σ [s]⟩
  .rename_i ty ez cs hs;split at h<;>cases h;rename_i h2;refine⟨_,by rw[Sg.cI,hs];rfl,?_⟩;exact qj h2 ⟨rfl,bY.read σ [s]⟩
  .cases h
 .rename_i s lt i off e;rw[show E.a x= .ptr (aO s) (i*lt.w+off) by unfold SE.a;rw[e];rfl];split at h
  .rename_i ty lt' l hs;split at h<;>cases h;rename_i he h1 h2 h3;subst he;refine⟨_,by rw[Sg.cI,hs];rfl,?_⟩;refine EH (hp _ (by simp)) (pH h2) rfl ?_;rw[<-LT.BM];exact qj h3 ⟨rfl,bY.read σ [s]⟩
  .cases h
 .rename_i y a e;rw[show E.a x= .ptr (aO y) a by unfold SE.a;rw[e];rfl];split at h
  .rename_i ty ity lt L ov hs;split at h<;>cases h;rename_i h1 h2;have ha:a<L.length:=hp _ (by grind);have ho:ov.lookup a=none:=rt (by grind);refine⟨_,by rw[Sg.cI,hs];rfl,h1,?_⟩;rw[if_neg (by rw[h2];simp)];refine⟨_,YU y L ov ha,?_,bY.read σ [y]⟩;unfold il;rw[ho];rfl
  .cases h
 .rename_i y lt a i off e;rw[show E.a x= .ptr (inn y (a+1)) (i*lt.w+off) by unfold SE.a;rw[e];rfl];split at h
  .rename_i ty ity lt' L ov hs;split at h<;>cases h;rename_i he h1 h2 h3;subst he;have ha:a<L.length:=hp _ (by grind);have hi:i<(L.getD a []).length:=hp _ (by grind);have ho:ov.lookup a=none:=rt (by grind);refine⟨_,EN hs ha ho,?_⟩;refine EH hi (pH h2) rfl ?_;rw[<-LT.BM];exact qj h3 ⟨rfl,bY.readI σ y a⟩
  .cases h
 .cases h
def BH(P:Program)(t:TypeId)(a v:SV)(σ:Sg):SR:=match yL v,(P.info? t).isSome with
 |some l,true=>(match bF l.length (aZ P t)with
  |true=>(match a with
   | .ptr s off=>(match σ s with
     |some (.box ty cs)=>(match mf (off+l.length) cs.length with|true=>some ([],.undef,[s],[(s,some (.box ty (qG cs off l)))])|false=>none)
     |some (.arr ty ez cs)=>(match mf (off+l.length) cs.length with|true=>some ([],.undef,[s],[(s,some (.arr ty ez (qG cs off l)))])|false=>none)
     |_=>none)
   | .pte s lt i off=>(match σ s with
     |some (.row ty lt' m)=>(match decEq lt' lt,mf (off+l.length) lt'.w,lt'.dec (qG (lt'.row (lt'.nth m i)) off l)with
      | .isTrue _,true,some e=>some ([i<m.length],.undef,[s],[(s,some (.row ty lt' (m.set i e)))])
      |_,_,_=>none)
     |_=>none)
   | .ptf x a=>(match l,σ x with
     |[v],some (.fam ty ity lt L (q::ov))=>some ([a=q.1,a<L.length],.undef,[x],[(x,some (.fam ty ity lt L ((q.1,v)::ov)))])
     |_,_=>none)
   |_=>none)
  |false=>none)
 |_,_=>none
def Tx{a b c l:List AV}{k off:Nat}(hk:k=a.length)(hoff:off+l.length<=b.length):gX (a++b++c) (k+off) l=a++gX b off l++c:=by
 induction l generalizing b off with
 |nil=>rfl
 |cons x l ih=>
  simp only[gu]at hoff;rw[gX,gX,kD,List.set_append_right _ _ (by omega),show k+off-a.length=off by omega,List.set_append_left _ _ (by omega),<-kD,show k+off+1=k+(off+1) by omega,ih (by simp;omega)]
def Zu(t:LT)(l:List t.ty){i:Nat}(h:i<l.length)(e:t.ty):t.enc l=t.enc (l.take i)++t.rowP l[i] ++t.enc (l.drop (i+1))/\t.enc (l.set i e)=t.enc (l.take i)++t.rowP e++t.enc (l.drop (i+1)):=by
 constructor
 .conv=>lhs;rw[<-tX i l,<-List.getElem_cons_drop h]
  unfold LT.enc;grind
 .rw[List.set_eq_take_append_cons_drop,if_pos h];unfold LT.enc;grind
def Vi{P:Program}{n:Nat}{o:Oper}{E:SE}{σ:Sg}{t:TypeId}{a x:Operand}(ho:o.op= .store t a x):rG P n o E σ (BH P t (E a) (E x) σ):=by
 intro ps r rd W h hp;unfold AOp;rw[ho];dsimp only;unfold BH at h;split at h
 case h_2=>cases h
 rename_i l hl ht;split at h
 case h_2=>cases h
 rename_i hsz;have hl':lM (E.a x)=some (avs l):=Ed hl;have hsz':(avs l).length=aZ P t:=by rw[jV];exact dK hsz
 split at h
 .rename_i s off e;rw[show E.a a= .ptr (aO s) off by unfold SE.a;rw[e];rfl];unfold uk;split at h
  .rename_i ty cs hs;split at h<;>cases h;refine⟨_,_,by rw[Sg.cI,hs];rfl,hl',hsz',ht,?_,rfl,?_⟩
   .show off+(avs l).length<=(avs cs).length;rw[jV,jV];simp_all
   .show bY _ _ _ _ [(aO s,some (⟨ty,0,gX (avs cs) off (avs l)⟩:Ob))];rw[<-xf];exact bY.flat (W:=[(s,some (.box ty (qG cs off l)))]) λq hq=>by rw[bZ.1 hq,hs];exact⟨rfl,rfl⟩
  .rename_i ty ez cs hs;split at h<;>cases h;refine⟨_,_,by rw[Sg.cI,hs];rfl,hl',hsz',ht,?_,rfl,?_⟩
   .show off+(avs l).length<=(avs cs).length;rw[jV,jV];simp_all
   .show bY _ _ _ _ [(aO s,some (⟨ty,ez,gX (avs cs) off (avs l)⟩:Ob))];rw[<-xf];exact bY.flat (W:=[(s,some (.arr ty ez (qG cs off l)))]) λq hq=>by rw[bZ.1 hq,hs];exact⟨rfl,rfl⟩
  .cases h
 .rename_i s lt i off e;rw[show E.a a= .ptr (aO s) (i*lt.w+off) by unfold SE.a;rw[e];rfl];unfold uk;split at h
  .rename_i ty lt' m hs;split at h<;>cases h;rename_i he h1 _ h2 h3;subst he;have hi:i<m.length:=hp _ (by simp);obtain⟨e1,e2⟩:=Zu lt' m hi h1;have h2':=pH h2;have hlen:(lt'.enc (m.take i)).length=i*lt'.w:=by rw[lt'.wide.length,lm,Is (by omega)]
   refine⟨_,_,by rw[Sg.cI,hs];rfl,hl',hsz',ht,?_,rfl,?_⟩
   .show i*lt'.w+off+(avs l).length<=((lt'.enc m).map AV.p).length;rw[jV,db,lt'.wide.length];have:(i+1)*lt'.w<=m.length*lt'.w:=Cs _ (by omega);grind
   .have e3:gX ((lt'.enc m).map AV.p) (i*lt'.w+off) (avs l)=(lt'.enc (m.set i h1)).map AV.p:=by
     rw[e2,dR,dR,<-LT.yJ h3,xf,LT.BM,LT.nth_eq lt' m hi]
     conv=>lhs;rw[e1,dR,dR]
     rw[Tx (by grind) (by rw[jV,db,(lt'.wide []).2];exact h2')]
    show bY _ _ _ _ [(aO s,some (⟨ty,lt'.w,gX ((lt'.enc m).map AV.p) (i*lt'.w+off) (avs l)⟩:Ob))];rw[e3];exact bY.flat (W:=[(s,some (.row ty lt' (m.set i h1)))]) λq hq=>by rw[bZ.1 hq,hs];exact⟨rfl,rfl⟩
  .cases h
 .rename_i y b e;rw[show E.a a= .ptr (aO y) b by unfold SE.a;rw[e];rfl];unfold uk;split at h<;>cases h;rename_i v ty ity lt L q ov hs;have hb:b=q.1:=hp _ (by grind);have hL:b<L.length:=hp _ (by grind);refine⟨_,_,by rw[Sg.cI,hs];rfl,hl',hsz',ht,?_,rfl,?_⟩
  .show b+1<=((bV L.length).map (il y L (q::ov))).length;grind
  .subst hb;exact bY.cell hs
 .cases h
def u9(P:Program)(t:TypeId):Option (List SV):=match po P t with
 |true=>(match P.info? t with
  |some i=>(match i.zero with|some z=>some (z.cells.toList.map svK)|none=>none)
  |none=>none)
 |false=>none
def uN{P:Program}{t:TypeId}{z:List SV}(h:u9 P t=some z):pp P t=some (avs z)/\po P t=true:=by
 unfold u9 at h;split at h
 .rename_i hz;split at h
  .rename_i i hi;split at h<;>cases h;rename_i zv hzv;refine⟨?_,hz⟩;unfold pp;rw[hi,qS,hzv,eE,Fg]
  .cases h
 .cases h
def bY.new{σ:Sg}{n:Nat}{ob:SOb}(h:σ n=none)(hs:aO n=sit n 0)(hf:ob.flat=true):bY σ [] [(n,some ob)] [] [(sit n 0,some (ob.ob n))] :=by rw[<-hs];exact bY.flat (rd:=[]) (W:=[(n,some ob)]) λq hq=>by rw[bZ.1 hq,h];exact⟨rfl,hf⟩
def BL(P:Program)(σ:Sg)(n:Nat)(t:TypeId):SR:=match u9 P t,frs σ n with
 |some z,true=>some ([],.ptr n 0,[],[(n,some (.box t z))])
 |_,_=>none
def Vx{P:Program}{n:Nat}{o:Oper}{E:SE}{σ:Sg}{t:TypeId}(ho:o.op= .alloc t):rG P n o E σ (BL P σ n t):=by intro ps r rd W h hp;unfold AOp;rw[ho];unfold BL at h;split at h<;>cases h;rename_i z hz hf;obtain⟨h1,h2⟩:=uN hz;obtain⟨f1,f2⟩:=mC hf;exact⟨_,h1,h2,by show _=AV.ptr (aO n) 0;rw[f1],bY.new f2 f1 rfl⟩
def CE(σ:Sg)(n:Nat)(t:TypeId)(x:SV):SR:=match yL x,frs σ n with
 |some l,true=>some ([],.ptr n 0,[],[(n,some (.box t l))])
 |_,_=>none
def Y8{P:Program}{n:Nat}{o:Oper}{E:SE}{σ:Sg}{t:TypeId}{x:Operand}(ho:o.op= .box t x):rG P n o E σ (CE σ n t (E x)):=by intro ps r rd W h hp;unfold AOp;rw[ho];unfold CE at h;split at h<;>cases h;rename_i l hl hf;obtain⟨f1,f2⟩:=mC hf;exact⟨_,Ed hl,by show _=AV.ptr (aO n) 0;rw[f1],bY.new f2 f1 rfl⟩
def BK(P:Program)(t:TypeId)(parts:List (Nat×SV)):SR:=match u9 P t,Fx P t with
 |some z,true=>(match vI (Gi P t) z parts with|some l=>some ([],.agg l,[],[])|none=>none)
 |_,_=>none
def Vt{P:Program}{n:Nat}{o:Oper}{E:SE}{σ:Sg}{t:TypeId}{parts:Array (Nat×Operand)}(ho:o.op= .build t parts):rG P n o E σ (BK P t (parts.toList.map λq=>(q.1,E q.2))):=by
 intro ps r rd W h hp;unfold AOp;rw[ho];unfold BK at h;split at h
 .rename_i z hz hk;split at h<;>cases h;rename_i l hl;obtain⟨h1,h2⟩:=uN hz;have:=FL _ hl;rw[di]at this;exact⟨_,h1,h2,hk,_,this,rfl,bY.read σ []⟩
 .cases h
def CI:Nat->List SV->List SV
 |0,_=>[]
 |m+1,z=>z++CI m z
def Ny(z:List SV):∀m,avs (CI m z)=mO m (avs z)
 |0=>rfl
 |m+1=>by rw[CI,rr,Ny z m];rfl
def As(P:Program)(σ:Sg)(n:Nat)(t:TypeId)(len:Nat)(parts:List (Nat×SV)):SR:=match dC P t with
 |some e=>(match u9 P e,mf (len*aZ P e) 1000000,frs σ n with
  |some (z0::zs),true,true=>(match vI (λi=>some (i*aZ P e,aZ P e)) (CI len (z0::zs)) parts with
   |some l=>some ([],.ownx n len,[],[(n,some (.arr e (aZ P e) l))])
   |none=>none)
  |_,_,_=>none)
 |none=>none
def Uh{P:Program}{n:Nat}{o:Oper}{E:SE}{σ:Sg}{t:TypeId}{len:Nat}{parts:Array (Nat×Operand)}(ho:o.op= .buildSlice t len parts):rG P n o E σ (As P σ n t len (parts.toList.map λq=>(q.1,E q.2))):=by
 intro ps r rd W h hp;unfold AOp;rw[ho];unfold As at h;split at h
 .rename_i e he;split at h
  .rename_i z0 zs hz hb hf;split at h<;>cases h;rename_i l hl;obtain⟨f1,f2⟩:=mC hf;obtain⟨h1,h2⟩:=uN hz;have:=FL _ hl;rw[di,Ny]at this;exact⟨e,_,he,h1,h2,(by simp[avs]),pH hb,_,this,by show _=AV.own (aO n) 0 len;rw[f1],bY.new f2 f1 rfl⟩
  .cases h
 .cases h
def G9(c a b:SV):Option SV:=match c with
 | .lit true=>some a
 | .lit false=>some b
 | .prop p d=>(match a,b with
   | .int .i64 x,.int .i64 y=>some (.int .i64 (@ite _ p d x y))
   | .bool x,.bool y=>some (.bool (@ite _ p d x y))
   | .prop q e,.lit y=>some (.bool (@ite _ p d (@decide q e) y))
   | .lit x,.prop q e=>some (.bool (@ite _ p d x (@decide q e)))
   | .bool x,.lit y=>some (.bool (@ite _ p d x y))
   | .lit x,.bool y=>some (.bool (@ite _ p d x y))
   |_,_=>none)
 | .bool c=>(match a,b with
   | .int .i64 x,.int .i64 y=>some (.int .i64 (if c=true then x else y))
   | .bool x,.bool y=>some (.bool (if c=true then x else y))
   | .bool x,.lit y=>some (.bool (if c=true then x else y))
   | .lit x,.bool y=>some (.bool (if c=true then x else y))
   |_,_=>none)
 |_=>none
def XY{c a b r:SV}(h:G9 c a b=some r){K:AV->Prop}(hK:K r.av):vB c.av a.av b.av K:=by
 unfold G9 at h;split at h
 .cases h;exact hK
 .cases h;exact hK
 .rename_i p d;split at h<;>cases h<;>(simp only[SV.av,vB]at*;cases d<;>rename_i hp<;>simpa[hp]using hK)
 .rename_i c;split at h<;>cases h<;>(simp only[SV.av,vB]at*;cases c<;>simpa using hK)
 .cases h
def Gf(P:Program)(t:TypeId)(x:SV)(f:Nat):Option SV:=match tL P t f with
 |some q=>(match x with
  | .ptr s off=>some (.ptr s (off+q.1))
  | .pe lt l i off=>some (.pe lt l i (off+q.1))
  | .pte s lt i off=>some (.pte s lt i (off+q.1))
  | .pro cs off=>(match bK (avs cs)with|some _=>some (.pro cs (off+q.1))|none=>none)
  |_=>none)
 |none=>none
def Vp{P:Program}{t:TypeId}{x:SV}{f:Nat}{r:SV}(h:Gf P t x f=some r){K:AV->Prop}(hK:K r.av):Gt P t f x.av K/\(x.ok->r.ok):=by
 unfold Gf at h;split at h
 .rename_i q hq;split at h
  .cases h;exact⟨⟨q,hq,hK⟩,λ_=>trivial⟩
  .cases h;exact⟨⟨q,hq,by simpa[SV.av,rP]using hK⟩,λh=>h⟩
  .cases h;exact⟨⟨q,hq,by simpa[SV.av,rP]using hK⟩,λ_=>trivial⟩
  .split at h<;>cases h;rename_i m hm;refine⟨⟨q,hq,?_⟩,λ_=>trivial⟩;simp only[SV.av,hm]at hK|-;exact hK
  .cases h
 .cases h
def Ge(P:Program)(t:TypeId)(x:SV)(f:Nat):Option SV:=match tL P t f,x with
 |some q,.agg l=>(match tok P q.2,iQ P q.2 with
  |true,true=>some (.agg ((l.drop q.1).take (aZ P q.2)))
  |true,false=>l[q.1]?
  |false,_=>none)
 |_,_=>none
def Vo{P:Program}{t:TypeId}{x:SV}{f:Nat}{r:SV}(h:Ge P t x f=some r){K:AV->Prop}(hK:K r.av):Gr P t f x.av K:=by
 unfold Ge at h;split at h
 .rename_i q l hq;refine⟨q,hq,?_⟩;have key:ss P q.2 (avs l) q.1 K:=by
   split at h
   .rename_i h1 h2;cases h;refine⟨h1,?_⟩;rw[if_pos h2];exact⟨_,rfl,by rw[<-FV,<-FU];exact hK⟩
   .rename_i h1 h2;refine⟨h1,?_⟩;rw[if_neg (by rw[h2];simp)];exact⟨r.av,by rw[xu,h];rfl,hK⟩
   .cases h
  show(match eJ (avs l)with| .agg l=>ss P q.2 l q.1 K| .p (.agg l)=>ss P q.2 (l.map .p) q.1 K|_=>False);unfold eJ;cases hq:bK (avs l)with
  |none=>exact key
  |some m=>dsimp only;rw[<-iu hq];exact key
 .cases h
def Gd(P:Program)(t:TypeId)(x i:SV):Option (List Prop×SV):=match i with
 | .int _ a=>(match x with
   | .lst lt l=>(match dC P t with
     |some e=>(match(P.info? e).isSome,bF (aZ P e) lt.w with|true,true=>some ([ix a l.length],.pe lt l a.toNat 0)|_,_=>none)
     |none=>none)
   | .own s lt n=>(match dC P t with
     |some e=>(match(P.info? e).isSome,bF (aZ P e) lt.w with|true,true=>some ([ix a n],.pte s lt a.toNat 0)|_,_=>none)
     |none=>none)
   | .owns s lt o n=>(match dC P t with
     |some e=>(match(P.info? e).isSome,bF (aZ P e) lt.w with|true,true=>some ([ix a n],.pte s lt (o+a.toNat) 0)|_,_=>none)
     |none=>none)
   | .ownx s n=>(match dC P t with
     |some e=>(match(P.info? e).isSome with|true=>some ([ix a n],.ptr s (a.toNat*aZ P e))|_=>none)
     |none=>none)
   | .owF x n=>(match dC P t with
     |some e=>(match(P.info? e).isSome,bF (aZ P e) 1 with|true,true=>some ([ix a n],.ptf x a.toNat)|_,_=>none)
     |none=>none)
   | .ownf x lt b n=>(match dC P t with
     |some e=>(match(P.info? e).isSome,bF (aZ P e) lt.w with|true,true=>some ([ix a n],.ptef x lt b a.toNat 0)|_,_=>none)
     |none=>none)
   | .sl n cs=>(match dC P t,bK (avs cs)with
     |some e,some _=>(match(P.info? e).isSome with|true=>some ([ix a n],.pro cs (a.toNat*aZ P e))|_=>none)
     |_,_=>none)
   | .ptr s off=>(match rI P t with
     |some q=>(match(P.info? q.2).isSome with|true=>some ([ix a q.1],.ptr s (off+a.toNat*aZ P q.2))|_=>none)
     |none=>none)
   | .pe lt l j off=>(match rI P t with
     |some q=>(match(P.info? q.2).isSome with|true=>some ([ix a q.1,j<l.length],.pe lt l j (off+a.toNat*aZ P q.2))|_=>none)
     |none=>none)
   | .ptb F m off=>(match rI P t with
     |some q=>(match(P.info? q.2).isSome with|true=>some ([ix a q.1],.ptb F m (off+a.toNat*aZ P q.2))|_=>none)
     |none=>none)
   | .pro cs off=>(match rI P t,bK (avs cs)with
     |some q,some _=>(match(P.info? q.2).isSome with|true=>some ([ix a q.1],.pro cs (off+a.toNat*aZ P q.2))|_=>none)
     |_,_=>none)
   |_=>none)
 |_=>none
def Vn{P:Program}{t:TypeId}{x i:SV}{ps:List Prop}{r:SV}(h:Gd P t x i=some (ps,r))(hp:∀p∈ps,p){K:AV->Prop}(hK:K r.av):BY P t x.av i.av K/\r.ok:=by
 unfold Gd at h;split at h
 case h_2=>cases h
 rename_i k a;split at h
 .rename_i lt l;split at h
  .rename_i e he;split at h<;>cases h;rename_i h1 h2;have hb:=hp _ (bZ.2 rfl);unfold ix at hb;refine⟨⟨e,he,h1,hb.1,hb.2,?_⟩,show a.toNat<l.length by omega⟩;rw[dK h2];exact hK
  .cases h
 .split at h
  .rename_i e he;split at h<;>cases h;rename_i h1 h2;have hb:=hp _ (bZ.2 rfl);refine⟨⟨e,he,h1,hb.1,hb.2,?_⟩,trivial⟩;rw[dK h2,jo];exact hK
  .cases h
 .split at h
  .rename_i e he;split at h<;>cases h;rename_i h1 h2;have hb:=hp _ (bZ.2 rfl);refine⟨⟨e,he,h1,hb.1,hb.2,?_⟩,trivial⟩;rw[dK h2,<-y5];exact hK
  .cases h
 .split at h
  .rename_i e he;split at h<;>cases h;rename_i h1;have hb:=hp _ (bZ.2 rfl);refine⟨⟨e,he,h1,hb.1,hb.2,?_⟩,trivial⟩;rw[jo];exact hK
  .cases h
 .split at h
  .rename_i e he;split at h<;>cases h;rename_i h1 h2;have hb:=hp _ (bZ.2 rfl);refine⟨⟨e,he,h1,hb.1,hb.2,?_⟩,trivial⟩;rw[dK h2,jo,Nat.mul_one];exact hK
  .cases h
 .split at h
  .rename_i e he;split at h<;>cases h;rename_i h1 h2;have hb:=hp _ (bZ.2 rfl);refine⟨⟨e,he,h1,hb.1,hb.2,?_⟩,trivial⟩;rw[dK h2,jo];exact hK
  .cases h
 .split at h
  .rename_i e m he hm;split at h<;>cases h;rename_i h1;have hb:=hp _ (bZ.2 rfl);refine⟨?_,trivial⟩;simp only[SV.av,hm]at hK|-;exact⟨e,he,h1,hb.1,hb.2,hK⟩
  .cases h
 .split at h
  .rename_i q hq;split at h<;>cases h;rename_i h1;have hb:=hp _ (bZ.2 rfl);exact⟨⟨q,hq,h1,hb.1,hb.2,hK⟩,trivial⟩
  .cases h
 .rename_i lt l j off;split at h
  .rename_i q hq;split at h<;>cases h;rename_i h1;have hb:=hp _ (bo);refine⟨⟨q,hq,h1,hb.1,hb.2,?_⟩,hp (j<l.length) (by grind)⟩;rw[rP];exact hK
  .cases h
 .split at h
  .rename_i q hq;split at h<;>cases h;rename_i h1;have hb:=hp _ (bZ.2 rfl);exact⟨⟨q,hq,h1,hb.1,hb.2,hK⟩,trivial⟩
  .cases h
 .split at h
  .rename_i q m hq hm;split at h<;>cases h;rename_i h1;have hb:=hp _ (bZ.2 rfl);refine⟨?_,trivial⟩;simp only[SV.av,hm]at hK|-;exact⟨q,hq,h1,hb.1,hb.2,hK⟩
  .cases h
 .cases h
def bY.newF{σ:Sg}{n m:Nat}{e ie:TypeId}{lt:LT}(h:σ n=none)(hs:aO n=sit n 0):
  bY σ [] [(n,some (.fam e ie lt (cS m []) []))] [] ((sit n 0,some ⟨e,1,(bV m).map λj=> .own (inn n (j+1)) 0 0⟩)::(bV m).map λj=>(inn n (j+1),some ⟨ie,lt.w,[]⟩)):=by
 rw[<-hs];refine⟨λs hm=>by grind,λs hm=> ?_,?_⟩
 .have hc:cls s=ncl n:=by
   rcases aj.1 hm with rfl|hm
   .exact fO n 0
   .rw[di]at hm;obtain⟨j,_,rfl⟩:=bR.1 hm;exact fO n (j+1)
  grind
 .funext s
  unfold ai;rw[dV,DI (λj=>inn n (j+1))];rcases kE s with⟨y,rfl⟩|⟨y,b,rfl⟩|hno
  .rw[if_neg (show¬aO y∈(bV m).map λj=>inn n (j+1)from λhm=>by obtain⟨j,_,hj⟩:=bR.1 hm;have:=(fJ hj).2;omega)]
   rw[Sg.cI,Sg.cI];unfold aP.up;rw[dV];by_cases e1:y=n
   .subst e1;rw[beq_iff_eq.2 rfl,beq_iff_eq.2 rfl];show some (⟨e,1,_⟩:Ob)=some ⟨e,1,(bV (cS m ([] :List lt.ty)).length).map (il y (cS m ([] :List lt.ty)) [])⟩;rw[List.length_replicate]
    congr 2
    refine lk λi hi=> ?_;show _=AV.own (inn y (i+1)) 0 ((cS m ([] :List lt.ty)).getD i []).length;grind
   .rw[beq_eq_false_iff_ne.2 e1,beq_eq_false_iff_ne.2 (show aO y≠aO n from λh=>e1 (k8 h))];rfl
  .rw[beq_eq_false_iff_ne.2 (show inn y (b+1)≠aO n from λh=>by have:=(fJ h).2;omega),Sg.fX,Sg.fX];unfold aP.up;rw[dV];by_cases e1:y=n
   .subst e1;rw[beq_iff_eq.2 rfl];show _=(((cS m ([] :List lt.ty))[b]?).map λl=>(⟨ie,lt.w,(lt.enc l).map .p⟩:Ob));rw[List.getElem?_replicate];by_cases hb:b<m
    .rw[if_pos (by grind),if_pos hb];rfl
    .rw[if_neg (show¬inn y (b+1)∈(bV m).map λj=>inn y (j+1)from λhm=>by obtain⟨j,h1,hj⟩:=bR.1 hm;have:=(fJ hj).2;grind),if_neg hb,h];rfl
   .rw[if_neg (show¬inn y (b+1)∈(bV m).map λj=>inn n (j+1)from λhm=>by obtain⟨j,h1,hj⟩:=bR.1 hm;exact e1 (fJ hj).1.symm),beq_eq_false_iff_ne.2 e1];rfl
  .rw[if_neg (by grind),beq_eq_false_iff_ne.2 (show s≠aO n from λh=>hno n 0 h),Sg.jj _ hno,Sg.jj _ hno]
def Ez(x:PV):∀m,mO m [.p x] =(cS m x).map .p
 |0=>rfl
 |m+1=>by rw[mO,Ez x m,wF];rfl
def M8:∀m,LT.I.enc (cS m (0:Int))=cS m (.int .i64 0)
 |0=>rfl
 |m+1=>by rw[wF,wF,<-M8 m];rfl
def M9:∀m,LT.B.enc (cS m false)=cS m (.bool false)
 |0=>rfl
 |m+1=>by rw[wF,wF,<-M9 m];rfl
def HD(P:Program)(ltOf:TypeId->Option LT)(σ:Sg)(n:Nat)(t:TypeId)(x y:SV):SR:=match x,y with
 | .int _ a,.int _ b=>(match dC P t,frs σ n with
   |some e,true=>(match P.info? e,u9 P e,bF (aZ P e) 1 with
    |some i,some [.int .i64 (.ofNat 0)],true=>some ([0<=a,b=a,a<=1000000,a.toNat*i.bytes<=1000000000],.own n .I a.toNat,[],[(n,some (.row e .I (cS a.toNat (0:Int))))])
    |some i,some [.lit false],true=>some ([0<=a,b=a,a<=1000000,a.toNat*i.bytes<=1000000000],.own n .B a.toNat,[],[(n,some (.row e .B (cS a.toNat false)))])
    |some i,some [.nil],true=>(match dC P e with
     |some ie=>(match ltOf ie with
      |some lt=>some ([0<=a,b=a,a<=1000000,a.toNat*i.bytes<=1000000000],.owF n a.toNat,[],[(n,some (.fam e ie lt (cS a.toNat []) []))])
      |none=>none)
     |none=>none)
    |_,_,_=>none)
   |_,_=>none)
 |_,_=>none
def Xd{P:Program}{ltOf:TypeId->Option LT}{n:Nat}{o:Oper}{E:SE}{σ:Sg}{t:TypeId}{x y:Operand}(ho:o.op= .makeSlice t x y):rG P n o E σ (HD P ltOf σ n t (E x) (E y)):=by
 intro ps r rd W h hp;unfold AOp;rw[ho];dsimp only;unfold HD at h;split at h
 case h_2=>cases h
 rename_i k1 a k2 b ea eb;rw[show E.a x= .p (.int k1 a) by unfold SE.a;rw[ea];rfl,show E.a y= .p (.int k2 b) by unfold SE.a;rw[eb];rfl];split at h
 case h_2=>cases h
 rename_i e he hf;obtain⟨f1,f2⟩:=mC hf;split at h
 .cases h;rename_i i hi hz hw;obtain⟨z1,z2⟩:=uN hz;have q1:0<=a:=hp _ (by simp);have q2:b=a:=hp _ (by simp);have q3:a<=1000000:=hp _ (by simp);have q4:a.toNat*i.bytes<=1000000000:=hp _ (by simp);have hw:=dK hw;subst q2;refine .inl ⟨k1,k2,b.toNat,e,_,i,by grind,by grind,he,hi,z1,z2,by simp[avs],by grind,q4,?_,?_⟩
  .show _=AV.own (aO n) 0 _;rw[f1]
  .rw[hw,show avs [SV.int .i64 (.ofNat 0)] =[.p (.int .i64 0)]from rfl,Ez,<-M8];exact bY.new (ob:= .row e .I (cS b.toNat (0:Int))) f2 f1 rfl
 .cases h;rename_i i hi hz hw;obtain⟨z1,z2⟩:=uN hz;have q1:0<=a:=hp _ (by simp);have q2:b=a:=hp _ (by simp);have q3:a<=1000000:=hp _ (by simp);have q4:a.toNat*i.bytes<=1000000000:=hp _ (by simp);have hw:=dK hw;subst q2;refine .inl ⟨k1,k2,b.toNat,e,_,i,by grind,by grind,he,hi,z1,z2,by simp[avs],by grind,q4,?_,?_⟩
  .show _=AV.own (aO n) 0 _;rw[f1]
  .rw[hw,show avs [SV.lit false] =[.p (.bool false)]from rfl,Ez,<-M9];exact bY.new (ob:= .row e .B (cS b.toNat false)) f2 f1 rfl
 .rename_i i hi hz hw;split at h
  case h_2=>cases h
  rename_i ie hie;split at h<;>cases h;rename_i lt hlt;obtain⟨z1,z2⟩:=uN hz;have q1:0<=a:=hp _ (by simp);have q2:b=a:=hp _ (by simp);have q3:a<=1000000:=hp _ (by simp);have q4:a.toNat*i.bytes<=1000000000:=hp _ (by simp);subst q2;have hcl:ncl n=n:=by have h1:cls (aO n)=ncl n:=fO n 0;rw[f1,iE]at h1;exact h1.symm
  refine .inr ⟨λj=>inn n (j+1),ie,lt.w,k1,k2,b.toNat,e,i,by grind,by grind,he,hi,z1,z2,by have:=lt.kP;omega,λj=>(fO n (j+1)).trans hcl,λj hj=> ?_,by omega,q4,?_,bY.newF f2 f1⟩
  .rw[<-f1]at hj;have:=(fJ hj).2;omega
  .show _=AV.own (aO n) 0 _;rw[f1]
 .cases h
def HH(x:SV)(i:Nat):Option SV:=match x with
 | .tup l=>l[i]?
 |_=>none
def Xg{x:SV}{i:Nat}{r:SV}(h:HH x i=some r){K:AV->Prop}(hK:K r.av):yV x.av i K:=by
 unfold HH at h;split at h
 .rename_i l;have h1:(avs l)[i]? =some r.av:=by rw[xu,h];rfl
  show yV (j0 (avs l)) i K;unfold j0;cases hq:bK (avs l)with
  |none=>exact⟨_,h1,hK⟩
  |some q=>
   rw[iu hq,gS]at h1;cases hc:q[i]? with
   |none=>grind
   |some y=>exact⟨y,hc,by grind⟩
 .cases h
end
noncomputable section
def od(raw:Bool)(k:IntKind)(x:Int):List Prop×SV:=match raw,k with
 |false,.i64=>([aJ x],.int .i64 x)
 |_,k=>([],.int k (k.wrap x))
def ug{raw:Bool}{k:IntKind}{x:Int}(h:∀p∈(od raw k x).1,p):(od raw k x).2.av= .p (.int k (k.wrap x)):=by
 unfold od at h|-;split
 .rw[uG (h _ (by grind))];rfl
 .rfl
def yW:SV->Option Bool
 | .bool b=>some b
 | .lit b=>some b
 | .prop p d=>some (@decide p d)
 |_=>none
def xY{x:SV}{b:Bool}(h:yW x=some b):x.av= .p (.bool b):=by cases x<;>simp only[yW,reduceCtorEq,fm]at h<;>subst h<;>rfl
def Gg(raw:Bool)(op:BinOp)(k:IntKind)(a b:Int):Option (List Prop×SV):=match op with
 | .add=>some (od raw k (a+b))
 | .sub=>some (od raw k (a-b))
 | .mul=>some (od raw k (a*b))
 | .quo=>some ((b≠0)::(od raw k (a.tdiv b)).1,(od raw k (a.tdiv b)).2)
 | .rem=>some ([b≠0],.int k (a.tmod b))
 | .eql=>some ([],.prop (a=b) inferInstance)
 | .neq=>some ([],.prop (¬a=b) inferInstance)
 | .lss=>some ([],.prop (a<b) inferInstance)
 | .leq=>some ([],.prop (a<=b) inferInstance)
 | .gtr=>some ([],.prop (b<a) inferInstance)
 | .geq=>some ([],.prop (b<=a) inferInstance)
 |_=>none
def Vw{raw:Bool}{op:BinOp}{k:IntKind}{a b:Int}{ps:List Prop}{r:SV}(h:Gg raw op k a b=some (ps,r))(hp:∀p∈ps,p){K:AV->Prop}(hK:K r.av):u5 op k a b K:=by
 unfold Gg at h;split at h<;>simp only[fm,tc,reduceCtorEq]at h
 .have e:=ug (raw:=raw) (k:=k) (x:=a+b) (by grind);unfold u5;grind
 .have e:=ug (raw:=raw) (k:=k) (x:=a-b) (by grind);unfold u5;grind
 .have e:=ug (raw:=raw) (k:=k) (x:=a*b) (by grind);unfold u5;grind
 .obtain⟨rfl,rfl⟩:=h;have e:=ug (raw:=raw) (k:=k) (x:=a.tdiv b) (by grind);exact⟨hp _ (by grind),by grind⟩
 .obtain⟨rfl,rfl⟩:=h;exact⟨hp _ (by grind),hK⟩
 .obtain⟨rfl,rfl⟩:=h;exact hK
 .obtain⟨rfl,rfl⟩:=h;show K (.p (.bool (a !=b)));have:(a !=b)=decide (¬a=b):=by by_cases e:a=b<;>simp[e]
  rw[this];exact hK
 .obtain⟨rfl,rfl⟩:=h;exact hK
 .obtain⟨rfl,rfl⟩:=h;exact hK
 .obtain⟨rfl,rfl⟩:=h;exact hK
 .obtain⟨rfl,rfl⟩:=h;exact hK
def vE:List SV->Option (List Int)
 |[] =>some []
 | .int .i64 a::l=>(match vE l with|some m=>some (a::m)|none=>none)
 |_::_=>none
def FG:∀{l:List SV} {m:List Int},vE l=some m->avs l=(kn m).map .p
 |[],m,h=>by simp only[vE,fm]at h;subst h;rfl
 |x::l,m,h=>by
  unfold vE at h;split at h
  .grind
  .rename_i a l' e;cases e;split at h<;>cases h;rename_i m' hm;rw[avs,FG hm];rfl
  .cases h
def wh:∀m:List Int,oL (kn m)=some m
 |[] =>rfl
 |x::m=>by
  have:=wh m;unfold kn at*;simp only[cv,oL,this,eE]
def eqP(xs ys:List Int):SV:=match xs,ys with
 |[a,b],[c,d] => .prop ((⟨a,b⟩:V)=⟨c,d⟩) inferInstance
 |[a,b,c,d],[e,f,g,h] => .prop ((⟨⟨a,b⟩,⟨c,d⟩⟩:S)=⟨⟨e,f⟩,⟨g,h⟩⟩) inferInstance
 |xs,ys=> .prop (xs=ys) inferInstance
def Pa(xs ys:List Int):(eqP xs ys).av= .p (.bool (xs==ys)):=by
 unfold eqP;split
 .show AV.p (.bool (decide _))=_
  congr 2
  grind
 .show AV.p (.bool (decide _))=_
  congr 2
  grind
 .show AV.p (.bool (decide _))=_;grind
def CJ:SV->Option SV
 | .prop p d=>some (.prop (¬p) (@instDecidableNot p d))
 | .bool b=>some (.bool (!b))
 | .lit true=>some (.lit false)
 | .lit false=>some (.lit true)
 |_=>none
def OR{x r:SV}(h:CJ x=some r):∃b,x.av= .p (.bool b)/\r.av= .p (.bool (!b)):=by
 cases x<;>simp only[CJ,reduceCtorEq,fm]at h
 .subst h;exact⟨_,rfl,rfl⟩
 .rename_i b;cases b<;>simp only[fm]at h<;>subst h<;>exact⟨_,rfl,rfl⟩
 .subst h;refine⟨_,rfl,?_⟩;show AV.p (.bool (decide _))=_;grind
abbrev EqT:=List (TypeId×Nat)
def EqT.Ok(P:Program)(q:EqT):Prop:=∀t m,(t,m)∈q->yM P t m
def EqT.has:EqT->TypeId->Nat->Bool
 |[],_,_=>false
 |(a,b)::l,t,m=>(bF a t&&bF b m)||EqT.has l t m
def EqT.GB:∀{q:EqT} {t m:Nat},q.has t m=true->(t,m)∈q
 |[],t,m,h=>by cases h
 |(a,b)::l,t,m,h=>by
  simp only[EqT.has,Bool.or_eq_true,bn]at h;rcases h with⟨h1,h2⟩|h
  .simp_all
  .exact bk _ (EqT.GB h)
def Hu(P:Program)(q:EqT)(raw:Bool)(op:BinOp)(t:TypeId)(x y:SV):Option (List Prop×SV):=match x,y with
 | .int k a,.int k' b=>(match decEq k' k with| .isTrue _=>Gg raw op k a b| .isFalse _=>none)
 | .agg l,.agg m=>(match vE l,vE m with
   |some xs,some ys=>(match bF xs.length ys.length,q.has t xs.length,op with
    |true,true,.eql=>some ([],eqP xs ys)
    |true,true,.neq=>(match CJ (eqP xs ys)with|some r=>some ([],r)|none=>none)
    |_,_,_=>none)
   |_,_=>none)
 | .lst _ l,.nil=>(match(dC P t).isSome,op with
   |true,.eql=>some ([0<l.length],.lit false)
   |_,_=>none)
 |x,y=>(match yW x,yW y,G4 P t,op with
  |some a,some b,true,.eql=>some ([],.bool (a==b))
  |some a,some b,true,.neq=>some ([],.bool (a !=b))
  |_,_,_,_=>none)
def Y9{P:Program}{q:EqT}(hq:q.Ok P){raw:Bool}{op:BinOp}{t:TypeId}{x y:SV}{ps:List Prop}{r:SV}(h:Hu P q raw op t x y=some (ps,r))(hp:∀p∈ps,p){K:AV->Prop}(hK:K r.av):vX P op t x.av y.av K:=by
 unfold Hu at h;split at h
 .split at h
  .rename_i e _;exact⟨e,Vw h hp hK⟩
  .cases h
 .rename_i l m;split at h
  .rename_i xs ys hx hy;have key:∀(op:BinOp),(∃xs' ys',oL (kn xs)=some xs'/\oL (kn ys)=some ys'/\xs'.length=ys'.length/\yM P t xs'.length/\(match op with| .eql=>K (.p (.bool (xs'==ys')))| .neq=>K (.p (.bool (xs' !=ys')))|_=>False))->vX P op t (SV.agg l).av (SV.agg m).av K:=by intro op h;show vX P op t (eJ (avs l)) (eJ (avs m)) K;rw[FG hx,FG hy,rp,rp];exact h
   split at h
   .rename_i h1 h2;cases h;refine key _ ⟨xs,ys,wh _,wh _,dK h1,hq _ _ (EqT.GB h2),?_⟩;rw[Pa]at hK;exact hK
   .rename_i h1 h2;split at h<;>cases h;rename_i hr;obtain⟨b,e1,e2⟩:=OR hr;rw[Pa]at e1;refine key _ ⟨xs,ys,wh _,wh _,dK h1,hq _ _ (EqT.GB h2),?_⟩;grind
   .cases h
  .cases h
 .rename_i t' l;split at h<;>cases h;rename_i ht;have hl:0<l.length:=hp _ (by grind);refine⟨ht,λe=> ?_,rfl,hK⟩;have e2:=congrArg fh e;rw[t'.wide.length,List.length_nil]at e2;have:=Nat.mul_pos hl t'.kP;omega
 .split at h
  .rename_i a b h1 h2 h3;cases h;rw[xY h1,xY h2];exact⟨h3,hK⟩
  .rename_i a b h1 h2 h3;cases h;rw[xY h1,xY h2];exact⟨h3,hK⟩
  .cases h
def sun(raw:Bool)(op:UnOp)(x:SV):Option (List Prop×SV):=match op with
 | .not=>(match CJ x with|some r=>some ([],r)|none=>none)
 | .neg=>(match x with| .int k a=>some (od raw k (0-a))|_=>none)
 |_=>none
def aAn{raw:Bool}{op:UnOp}{x:SV}{ps:List Prop}{r:SV}(h:sun raw op x=some (ps,r))(hp:∀p∈ps,p){K:AV->Prop}(hK:K r.av):unA op x.av K:=by
 unfold sun at h;split at h
 .split at h<;>cases h;rename_i hr;obtain⟨b,e1,e2⟩:=OR hr;rw[e1];rw[e2]at hK;exact hK
 .split at h
  .rename_i k a;simp only[fm]at h;have e:=ug (raw:=raw) (k:=k) (x:=0-a) (by grind);show K _;grind
  .cases h
 .cases h
def HJ(P:Program)(raw:Bool)(s d:TypeId)(x:SV):Option (List Prop×SV):=match x with
 | .int _ a=>(match(P.underlying s).isSome,Hn P d with
   |true,some k=>some (od raw k a)
   |_,_=>none)
 |_=>none
def Xi{P:Program}{raw:Bool}{s d:TypeId}{x:SV}{ps:List Prop}{r:SV}(h:HJ P raw s d x=some (ps,r))(hp:∀p∈ps,p){K:AV->Prop}(hK:K r.av):Bz P s d x.av K:=by
 unfold HJ at h;split at h
 .rename_i k0 a;split at h
  .rename_i k h1 h2;simp only[fm]at h;have e:=ug (raw:=raw) (k:=k) (x:=a) (by grind);exact⟨h1,k,h2,by grind⟩
  .cases h
 .cases h
def Hz:SV->Option Int
 | .int _ n=>some n
 |_=>none
def Zh{x:SV}{n:Int}(h:Hz x=some n):CO x.av=some n:=by cases x<;>simp only[Hz,reduceCtorEq,fm]at h;subst h;rfl
def CQ(E:SE):Option Operand->Option (Option Int)
 |none=>some none
 |some x=>(match Hz (E x)with|some n=>some (some n)|none=>none)
def Gb(P:Program)(t:TypeId)(x:SV)(lo hi:Option Int):Option (List Prop×SV):=match dC P t with
 |some e=>(match(P.info? e).isSome,bF (aZ P e) 0 with
  |true,false=>(match x,lo,hi with
   | .lst lt l,lo,hi=>(match bF (aZ P e) lt.w with
     |true=>(match lo,hi with
      |none,none=>some ([],.lst lt l)
      |some a,none=>some ([0<=a/\a<=(l.length:Int)],.lst lt (l.drop a.toNat))
      |none,some b=>some ([0<=b/\b<=(l.length:Int)],.lst lt (l.take b.toNat))
      |some a,some b=>some ([0<=a/\a<=b/\b<=(l.length:Int)],.lst lt ((l.take b.toNat).drop a.toNat)))
     |false=>none)
   | .own s lt n,lo,hi=>(match bF (aZ P e) lt.w with
     |true=>(match lo,hi with
      |none,none=>some ([],.own s lt n)
      |none,some b=>some ([0<=b/\b<=(n:Int)],.owns s lt 0 b.toNat)
      |some a,none=>some ([0<=a/\a<=(n:Int)],.owns s lt a.toNat (n-a.toNat))
      |some a,some b=>some ([0<=a/\a<=b/\b<=(n:Int)],.owns s lt a.toNat (b.toNat-a.toNat)))
     |false=>none)
   | .owns s lt o n,lo,hi=>(match bF (aZ P e) lt.w with
     |true=>(match lo,hi with
      |none,none=>some ([],.owns s lt o n)
      |none,some b=>some ([0<=b/\b<=(n:Int)],.owns s lt o b.toNat)
      |some a,none=>some ([0<=a/\a<=(n:Int)],.owns s lt (o+a.toNat) (n-a.toNat))
      |some a,some b=>some ([0<=a/\a<=b/\b<=(n:Int)],.owns s lt (o+a.toNat) (b.toNat-a.toNat)))
     |false=>none)
   | .ownx s n,none,none=>some ([],.ownx s n)
   |_,_,_=>none)
  |_,_=>none)
 |none=>none
def Vj{P:Program}{t:TypeId}{x:SV}{lo hi:Option Int}{ps:List Prop}{r:SV}(h:Gb P t x lo hi=some (ps,r))(hp:∀p∈ps,p){K:AV->Prop}(hK:K r.av):
  ul P t x.av (some (lo.getD 0)) (some (hi.getD (BV x.av))) K:=by
 unfold Gb at h;split at h
 case h_2=>cases h
 rename_i e he;split at h
 case h_2=>cases h
 rename_i h1 h2;have h2':aZ P e≠0:=ls h2;split at h
 .rename_i lt l;split at h
  case h_2=>cases h
  rename_i hw;have hw:=dK hw;have key:∀a b:Int,0<=a->a<=b->b<=l.length->K (.p (.sl ((l.take b.toNat).drop a.toNat).length (lt.enc ((l.take b.toNat).drop a.toNat))))->ul P t (SV.lst lt l).av (some a) (some b) K:=by
   intro a b ha hb hc hK;refine⟨e,a,b,he,h1,h2',rfl,rfl,ha,hb,hc,?_⟩;rw[hw,lt.wide.take,lt.wide.drop];have:((l.take b.toNat).drop a.toNat).length=b.toNat-a.toNat:=by simp only[List.length_drop,lm];omega
   rw[<-this];exact hK
  split at h<;>cases h
  .refine key 0 (l.length:Int) (by omega) (by omega) (by omega) ?_;rw[jB,tg];exact hK
  .rename_i a;have hb:=hp _ (bZ.2 rfl);refine key a (l.length:Int) hb.1 hb.2 (by omega) ?_;rw[jB,tg];exact hK
  .rename_i b;have hb:=hp _ (bZ.2 rfl);exact key 0 b (by omega) hb.1 hb.2 hK
  .rename_i a b;have hb:=hp _ (bZ.2 rfl);exact key a b hb.1 hb.2.1 hb.2.2 hK
 .rename_i s lt n;split at h
  case h_2=>cases h
  rename_i hw;have hw:=dK hw;have key:∀a b:Int,0<=a->a<=b->b<=n->K (.own (aO s) (a.toNat*lt.w) (b.toNat-a.toNat))->ul P t (SV.own s lt n).av (some a) (some b) K:=by intro a b ha hb hc hK;refine⟨e,a,b,he,h1,h2',rfl,rfl,ha,hb,hc,?_⟩;rw[hw,jo];exact hK
  split at h<;>cases h
  .refine key 0 (n:Int) (by omega) (by omega) (by omega) ?_;simpa[SV.av]using hK
  .rename_i b;have hb:=hp _ (bZ.2 rfl);refine key 0 b (by omega) hb.1 hb.2 ?_;simpa[SV.av]using hK
  .rename_i a;have hb:=hp _ (bZ.2 rfl);exact key a (n:Int) hb.1 hb.2 (by omega) (by simpa[SV.av]using hK)
  .rename_i a b;have hb:=hp _ (bZ.2 rfl);exact key a b hb.1 hb.2.1 hb.2.2 hK
 .rename_i s lt o n;split at h
  case h_2=>cases h
  rename_i hw;have hw:=dK hw;have key:∀a b:Int,0<=a->a<=b->b<=n->K (.own (aO s) ((o+a.toNat)*lt.w) (b.toNat-a.toNat))->ul P t (SV.owns s lt o n).av (some a) (some b) K:=by intro a b ha hb hc hK;refine⟨e,a,b,he,h1,h2',rfl,rfl,ha,hb,hc,?_⟩;rw[hw,<-y5];exact hK
  split at h<;>cases h
  .refine key 0 (n:Int) (by omega) (by omega) (by omega) ?_;simpa[SV.av]using hK
  .rename_i b;have hb:=hp _ (bZ.2 rfl);refine key 0 b (by omega) hb.1 hb.2 ?_;simpa[SV.av]using hK
  .rename_i a;have hb:=hp _ (bZ.2 rfl);exact key a (n:Int) hb.1 hb.2 (by omega) (by simpa[SV.av]using hK)
  .rename_i a b;have hb:=hp _ (bZ.2 rfl);exact key a b hb.1 hb.2.1 hb.2.2 hK
 .rename_i s n;cases h;refine⟨e,0,(n:Int),he,h1,h2',rfl,rfl,i9 _,by grind,i9 _,?_⟩;simpa[SV.av]using hK
 .cases h
def Ht(P:Program)(t:TypeId)(x:SV):Option SV:=match x with
 | .lst _ l=>(match(dC P t).isSome with|true=>some (.int .i64 (l.length:Int))|false=>none)
 | .own _ _ n=>(match(dC P t).isSome with|true=>some (.int .i64 (n:Int))|false=>none)
 | .owns _ _ _ n=>(match(dC P t).isSome with|true=>some (.int .i64 (n:Int))|false=>none)
 | .ownx _ n=>(match(dC P t).isSome with|true=>some (.int .i64 (n:Int))|false=>none)
 | .owF _ n=>(match(dC P t).isSome with|true=>some (.int .i64 (n:Int))|false=>none)
 | .ownf _ _ _ n=>(match(dC P t).isSome with|true=>some (.int .i64 (n:Int))|false=>none)
 | .sl n cs=>(match(dC P t).isSome,bK (avs cs)with|true,some _=>some (.int .i64 (n:Int))|_,_=>none)
 | .nil=>(match(dC P t).isSome with|true=>some (.int .i64 0)|false=>none)
 |_=>none
def Y4{P:Program}{t:TypeId}{x r:SV}(h:Ht P t x=some r){K:AV->Prop}(hK:K r.av):CN P t x.av K:=by
 unfold Ht at h;split at h
 .split at h<;>cases h;rename_i h1;exact⟨h1,hK⟩
 .split at h<;>cases h;rename_i h1;exact⟨h1,hK⟩
 .split at h<;>cases h;rename_i h1;exact⟨h1,hK⟩
 .split at h<;>cases h;rename_i h1;exact⟨h1,hK⟩
 .split at h<;>cases h;rename_i h1;exact⟨h1,hK⟩
 .split at h<;>cases h;rename_i h1;exact⟨h1,hK⟩
 .split at h<;>cases h;rename_i q h1 h2;simp only[SV.av,h2];exact⟨h1,hK⟩
 .split at h<;>cases h;rename_i h1;exact⟨h1,hK⟩
 .cases h
def yT(σ:Sg)(e:TypeId)(lt:LT)(x:SV):Option (List Prop×List lt.ty×List Nat):=match x with
 | .nil=>some ([],[],[])
 | .own s _ k=>(match σ s with
   |some (.row ty lt' l)=>(match decEq lt' lt,bF ty e with
    | .isTrue h,true=>some ([k=l.length],h▸l,[s])
    |_,_=>none)
   |_=>none)
 | .ownx s k=>(match σ s with
   |some (.arr ty ez cs)=>(match bF ty e,bF ez lt.w,lt.decs k cs with
    |true,true,some l=>some ([],l,[s])
    |_,_,_=>none)
   |_=>none)
 |_=>none
def Bl(σ:Sg)(lt:LT)(x:SV):Option (List Prop×List lt.ty×List Nat):=match x with
 | .nil=>some ([],[],[])
 | .lst lt' l=>(match decEq lt' lt with
   | .isTrue h=>some ([],h▸l,[])
   | .isFalse _=>none)
 | .own s _ k=>(match σ s with
   |some (.row _ lt' l)=>(match decEq lt' lt with
    | .isTrue h=>some ([k=l.length],h▸l,[s])
    | .isFalse _=>none)
   |_=>none)
 | .owns s lt2 o k=>(match σ s with
   |some (.row _ lt' l)=>(match decEq lt' lt,decEq lt2 lt with
    | .isTrue h,.isTrue _=>some ([o+k<=l.length],(h▸l:List lt.ty).drop o|>.take k,[s])
    |_,_=>none)
   |_=>none)
 | .ownx s k=>(match σ s with
   |some (.arr _ ez cs)=>(match bF ez lt.w,lt.decs k cs with
    |true,some l=>some ([],l,[s])
    |_,_=>none)
   |_=>none)
 |_=>none
def Bq(P:Program)(ltOf:TypeId->Option LT)(n:Nat)(t t':TypeId)(σ:Sg)(x y:SV):SR:=match dC P t,(dC P t').isSome with
 |some e,true=>(match ltOf e,B9 P e,frs σ n with
  |some lt,true,true=>(match bF (aZ P e) lt.w,yT σ e lt x,Bl σ lt y with
   |true,some (p1,l,r1),some (p2,m,r2)=>some (p1++p2++[l.length+m.length<=1000000],.own n lt (l++m).length,r1++r2,r1.map (·,none)++[(n,some (.row e lt (l++m)))])
   |_,_,_=>none)
  |_,_,_=>none)
 |_,_=>none
def YO{σ:Sg}{e:TypeId}{lt:LT}{x:SV}{ps:List Prop}{l:List lt.ty}{r:List Nat}(h:yT σ e lt x=some (ps,l,r))(hp:∀p∈ps,p){K:Nat->List AV->List Nat->Prop}(hK:K l.length ((lt.enc l).map .p) (r.map aO)):Hf σ.a e lt.w x.av K:=by
 unfold yT at h;split at h
 .cases h;exact hK
 .rename_i s _ k;split at h
  .rename_i ty lt' l' hs;split at h
   .rename_i he _ hty;subst he;cases h;have hk:k=l'.length:=hp _ (by grind);refine⟨_,by rw[Sg.cI,hs];rfl,dK hty,rfl,?_,by rw[hk];exact hK⟩;show((lt'.enc l').map AV.p).length=_;rw[db,lt'.wide.length,hk]
   .cases h
  .cases h
 .rename_i s k;split at h
  .rename_i ty ez cs hs;split at h<;>cases h;rename_i h1 h2 h3;obtain⟨e1,e2⟩:=LT.ui h3;have h2:=dK h2;refine⟨_,by rw[Sg.cI,hs];rfl,dK h1,h2,?_,?_⟩
   .show(avs cs).length=_;rw[e2,db,lt.wide.length,e1]
   .show K k (avs cs) [aO s];grind
  .cases h
 .cases h
def L6{σ:Sg}{lt:LT}{x:SV}{ps:List Prop}{l:List lt.ty}{r:List Nat}(h:Bl σ lt x=some (ps,l,r))(hp:∀p∈ps,p){K:Nat->List AV->List Nat->Prop}(hK:K l.length ((lt.enc l).map .p) (r.map aO)):Bm σ.a lt.w x.av K:=by
 unfold Bl at h;split at h
 .cases h;exact hK
 .rename_i lt' l';split at h
  .rename_i he _;subst he;cases h;exact⟨lt'.wide.length _,hK⟩
  .cases h
 .rename_i s _ k;split at h
  .rename_i ty lt' l' hs;split at h
   .rename_i he _;subst he;cases h;have hk:k=l'.length:=hp _ (by grind);refine⟨_,(lt'.enc l').map .p,by rw[Sg.cI,hs];rfl,?_,?_,by grind⟩
    .show(((lt'.enc l').map AV.p).drop 0).take (k*lt'.w)=_;rw[C2,ip (by rw[db,lt'.wide.length,hk];omega)]
    .rw[db,lt'.wide.length,hk]
   .cases h
  .cases h
 .rename_i s lt2 o k;split at h
  .rename_i ty lt' l' hs;split at h
   .rename_i he he2 _ _;subst he;subst he2;cases h;have hk:o+k<=l'.length:=hp _ (by grind);have hlen:((l'.drop o).take k).length=k:=by simp;omega
    refine⟨_,(lt2.enc ((l'.drop o).take k)).map .p,by rw[Sg.cI,hs];rfl,?_,?_,by grind⟩
    .show(((lt2.enc l').map AV.p).drop (o*lt2.w)).take (k*lt2.w)=_;rw[<-Cy,<-Cz,lt2.wide.drop,lt2.wide.take]
    .rw[db,lt2.wide.length,hlen]
   .cases h
  .cases h
 .rename_i s k;split at h
  .rename_i ty ez cs hs;split at h<;>cases h;rename_i h1 h3;obtain⟨e1,e2⟩:=LT.ui h3;have hl:(avs cs).length=k*lt.w:=by rw[e2,db,lt.wide.length,e1]
   refine⟨_,avs cs,by rw[Sg.cI,hs];rfl,?_,hl,by grind⟩;show((avs cs).drop 0).take (k*lt.w)=_;grind
  .cases h
 .cases h
def VB{σ:Sg}{e:TypeId}{lt:LT}{x:SV}{ps:List Prop}{l:List lt.ty}{r:List Nat}(h:yT σ e lt x=some (ps,l,r)):∀s∈r,qA (σ s)=true:=by
 unfold yT at h;split at h
 .grind
 .split at h
  .rename_i hs;split at h
   .cases h;exact λs' hs'=>by rw[bZ.1 hs',hs];rfl
   .cases h
  .cases h
 .split at h
  .rename_i hs;split at h<;>cases h;exact λs' hs'=>by rw[bZ.1 hs',hs];rfl
  .cases h
 .cases h
def Xl{P:Program}{ltOf:TypeId->Option LT}{n:Nat}{t t':TypeId}{σ:Sg}{x y:SV}{ps:List Prop}{r:SV}{rd:List Nat}{W:aP}(h:Bq P ltOf n t t' σ x y=some (ps,r,rd,W))(hp:∀p∈ps,p):
  (dC P t').isSome=true/\yk P n t σ.a x.av y.av λr' R' W'=>r'=r.av/\bY σ rd W R' W':=by
 unfold Bq at h;split at h
 case h_2=>cases h
 rename_i e he ht';split at h
 case h_2=>cases h
 rename_i lt hlt htapp hf;split at h
 case h_2=>cases h
 rename_i p1 l r1 p2 m r2 hw h1 h2;cases h;refine⟨ht',e,he,htapp,?_⟩;rw[dK hw];obtain⟨f1,f2⟩:=mC hf;have hfl:=VB h1;refine YO h1 (λp hpp=>hp p (by simp[hpp])) (L6 h2 (λp hpp=>hp p (by simp[hpp])) ⟨hp _ (by simp),?_,?_⟩)
 .show _=AV.own (aO n) 0 _;grind
 .have e1:(r1.map aO).map (·,(none:Option Ob))++[(sit n 0,some (⟨e,lt.w,(lt.enc l).map AV.p++(lt.enc m).map AV.p⟩:Ob))] =aP.sto (r1.map (·,none)++[(n,some (.row e lt (l++m)))]):=by unfold aP.sto;rw[dR,di,di,<-f1];show _++_=_++[(aO n,some (⟨e,lt.w,(lt.enc (l++m)).map AV.p⟩:Ob))];rw[lt.wide.append,dR];rfl
  rw[e1,<-dR];refine bY.flat λq hq=> ?_;rcases bi.1 hq with hq|hq
  .obtain⟨s,hs,rfl⟩:=bR.1 hq;exact⟨hfl s hs,rfl⟩
  .rw[bZ.1 hq,f2];exact⟨rfl,rfl⟩
def bY.take{σ:Sg}{z n a k:Nat}{ty ity:TypeId}{lt:LT}{L:List (List lt.ty)}{ov:List (Nat×SV)}{ob:SOb}{rd R:List Nat}(hs:σ z=some (.fam ty ity lt L ov))(ho:ov.lookup a=none)(hk:k=(L.getD a []).length)(hn:σ n=none)(hf:ob.flat=true)(hR:inC R (rd.map ncl)):
  bY σ rd [(z,some (.fam ty ity lt L ((a,.ownf z lt a k)::ov))),(n,some ob)] R [(inn z (a+1),none),(aO n,some (ob.ob n))] :=by
 have hzn:z≠n:=λe=>by grind
 refine⟨hR,λs hm=> ?_,?_⟩
 .have hm:s=inn z (a+1)\/s=aO n:=by simpa using hm
  rcases hm with rfl|rfl
  .rw[fO];grind
  .rw[show cls (aO n)=ncl n from fO n 0];grind
 .funext s
  unfold ai;rcases kE s with⟨y,rfl⟩|⟨y,b,rfl⟩|hno
  .rw[Sg.cI,Sg.cI,dV,beq_eq_false_iff_ne.2 (show aO y≠inn z (a+1)from λh=>by have:=(fJ h).2;omega)];unfold aP.up;rw[dV,dV,dV];by_cases e:y=z
   .subst e;rw[beq_iff_eq.2 rfl,beq_eq_false_iff_ne.2 (show aO y≠aO n from λh=>hzn (k8 h)),hs];show some (⟨ty,1,_⟩:Ob)=some ⟨ty,1,_⟩
    congr 2
    refine lk λi hi=> ?_;unfold il;rw[dV];by_cases hi:i=a
    .subst hi;rw[beq_iff_eq.2 rfl,ho,hk];rfl
    grind
   .rw[beq_eq_false_iff_ne.2 e];by_cases e2:y=n
    .grind
    .rw[beq_eq_false_iff_ne.2 e2,beq_eq_false_iff_ne.2 (show aO y≠aO n from λh=>e2 (k8 h))];rfl
  .rw[Sg.fX,Sg.fX,dV,dV,beq_eq_false_iff_ne.2 (show inn y (b+1)≠aO n from λh=>by have:=(fJ h).2;omega)];unfold aP.up;rw[dV,dV];by_cases e:y=z
   .subst e;rw[beq_iff_eq.2 rfl,hs];by_cases hb:b=a
    .subst hb;rw[beq_iff_eq.2 rfl];unfold SOb.inner;grind
    .rw[beq_eq_false_iff_ne.2 (show inn y (b+1)≠inn y (a+1)from λh=>hb (by have:=(fJ h).2;omega))];unfold SOb.inner;grind
   .rw[beq_eq_false_iff_ne.2 e,beq_eq_false_iff_ne.2 (show inn y (b+1)≠inn z (a+1)from λh=>e (fJ h).1)];by_cases e2:y=n
    .subst e2;rw[beq_iff_eq.2 rfl,hn];show none=SOb.inner b ob;rw[SOb.zb hf]
    grind
  .rw[Sg.jj _ hno,Sg.jj _ hno,dV,dV,beq_eq_false_iff_ne.2 (hno z (a+1)),beq_eq_false_iff_ne.2 (show s≠aO n from λh=>hno n 0 h)];rfl
def Bp(P:Program)(n:Nat)(t t':TypeId)(σ:Sg)(z:Nat)(lt2:LT)(a k:Nat)(y:SV):SR:=match dC P t,(dC P t').isSome,σ z with
 |some e,true,some (.fam ty ity lt L ov)=>(match decEq lt2 lt,B9 P e,frs σ n,bF ity e,bF (aZ P e) lt.w,Bl σ lt y with
  | .isTrue _,true,true,true,true,some (p2,m,r2)=>some ((a<L.length)::(k=(L.getD a []).length)::(mP ov a++p2++[(L.getD a []).length+m.length<=1000000]),.own n lt (L.getD a [] ++m).length,z::r2,[(z,some (.fam ty ity lt L ((a,.ownf z lt a k)::ov))),(n,some (.row e lt (L.getD a [] ++m)))])
  |_,_,_,_,_,_=>none)
 |_,_,_=>none
def Xk{P:Program}{n:Nat}{t t':TypeId}{σ:Sg}{z:Nat}{lt2:LT}{a k:Nat}{y:SV}{ps:List Prop}{r:SV}{rd:List Nat}{W:aP}(h:Bp P n t t' σ z lt2 a k y=some (ps,r,rd,W))(hp:∀p∈ps,p):
  (dC P t').isSome=true/\yk P n t σ.a (SV.ownf z lt2 a k).av y.av λr' R' W'=>r'=r.av/\bY σ rd W R' W':=by
 unfold Bp at h;split at h
 case h_2=>cases h
 rename_i e ty ity lt L ov he ht' hs;split at h
 case h_2=>cases h
 rename_i hlt p2 m r2 _ htapp hf hi hw h2;subst hlt;cases h;have ha:a<L.length:=hp _ (by grind);have hk:k=(L.getD a []).length:=hp _ (by grind);have ho:ov.lookup a=none:=rt λp hq=>hp p (by simp[hq]);refine⟨ht',e,he,htapp,?_⟩;rw[dK hw];obtain⟨f1,f2⟩:=mC hf;refine⟨_,EN hs ha ho,dK hi,rfl,?_,?_⟩
 .rw[db,lt2.wide.length,hk]
 .subst hk;refine L6 h2 (λp hpp=>hp p (by simp[hpp])) ⟨hp _ (by simp),?_,?_⟩
  .show _=AV.own (aO n) 0 _;grind
  .rw[<-f1];have e1:(⟨e,lt2.w,(lt2.enc (L.getD a [])).map AV.p++(lt2.enc m).map AV.p⟩:Ob)=SOb.ob n (.row e lt2 (L.getD a [] ++m)):=by show _=(⟨e,lt2.w,(lt2.enc (L.getD a [] ++m)).map AV.p⟩:Ob);rw[lt2.wide.append,dR]
   rw[e1];refine bY.take hs ho rfl f2 rfl λs hm=> ?_;rcases aj.1 hm with rfl|hm
   .rw[fO];grind
   .exact bk _ ((bY.read σ r2).1 s hm)
def CF(P:Program)(ltOf:TypeId->Option LT)(n:Nat)(t t':TypeId)(σ:Sg)(x y:SV):SR:=match x with
 | .ownf z lt a k=>Bp P n t t' σ z lt a k y
 |_=>Bq P ltOf n t t' σ x y
def ZA{P:Program}{ltOf:TypeId->Option LT}{n:Nat}{t t':TypeId}{σ:Sg}{x y:SV}{ps:List Prop}{r:SV}{rd:List Nat}{W:aP}(h:CF P ltOf n t t' σ x y=some (ps,r,rd,W))(hp:∀p∈ps,p):
  (dC P t').isSome=true/\yk P n t σ.a x.av y.av λr' R' W'=>r'=r.av/\bY σ rd W R' W':=by
 unfold CF at h;split at h
 .exact Xk h hp
 .exact Xl h hp
def smm(f:Int->Int->Int)(x y:SV):Option SV:=match x,y with
 | .int .i64 a,.int .i64 b=>some (.int .i64 (f a b))
 |_,_=>none
def PF{f:Int->Int->Int}{x y r:SV}(h:smm f x y=some r){K:AV->Prop}(hK:K r.av):mmA f x.av y.av K:=by unfold smm at h;split at h<;>cases h;exact hK
end
noncomputable section
def j7(f:SV->Option (List Prop×SV)):List SV->Option (List Prop×List SV)
 |[] =>some ([],[])
 |x::l=>match f x,j7 f l with
  |some (p,y),some (q,m)=>some (p++q,y::m)
  |_,_=>none
def Bn(d:Nat)(σ:Sg)(x n:Nat):Option (List Prop×SV):=match d,σ x with
 |_+1,some (.fam _ _ .I L [])=>some ([n=L.length],.lst .Q L)
 |_+1,some (.fam _ _ .V L [])=>some ([n=L.length],.lst .R L)
 |_,_=>none
def kR:Nat->Sg->SV->Option (List Prop×SV)
 |_,_,.nil=>some ([],.sl 0 [])
 |_+1,σ,.own s _ n=>(match σ s with
  |some (.row _ lt l)=>some ([n=l.length],.lst lt l)
  |_=>none)
 |_+1,σ,.owns s lt2 o n=>(match σ s with
  |some (.row _ lt l)=>(match bF lt2.w lt.w with|true=>some ([o+n<=l.length],.lst lt ((l.drop o).take n))|false=>none)
  |_=>none)
 |d+1,σ,.ownx s n=>(match σ s with
  |some (.arr _ ez cs)=>(match bF cs.length (n*ez),j7 (kR d σ) cs with|true,some (ps,m)=>some (ps,.sl n m)|_,_=>none)
  |_=>none)
 |d+1,σ,.ptr s off=>(match σ s with
  |some (.box _ cs)=>(match j7 (kR d σ) cs with|some (ps,m)=>some (ps,.pro m off)|none=>none)
  |_=>none)
 |_+1,σ,.ownf x _ a n=>(match σ x with
  |some (.fam _ _ lt L ov)=>some ((a<L.length)::(n=(L.getD a []).length)::mP ov a,.lst lt (L.getD a []))
  |_=>none)
 |d+1,σ,.owF x n=>Bn d σ x n
 |d+1,σ,.agg l=>(match j7 (kR d σ) l with|some (ps,m)=>some (ps,.agg m)|none=>none)
 |d+1,σ,.fn f a b=>(match j7 (kR d σ) a,j7 (kR d σ) b with|some (p,x),some (q,y)=>some (p++q,.fnp f x y)|_,_=>none)
 |_,_,x=>(match x.av with| .p _=>some ([],x)|_=>none)
def xj{d:Nat}{σ:Sg}{f:SV->Option (List Prop×SV)}(hf:∀x ps y,f x=some (ps,y)->(∀p∈ps,p)->∃q,dI d σ.a x.av=some q/\y.av= .p q):
  ∀{l:List SV} {ps:List Prop} {m:List SV},j7 f l=some (ps,m)->(∀p∈ps,p)->∃q,dj (dI d σ.a) (avs l)=some q/\avs m=q.map .p
 |[],ps,m,h,_=>by obtain⟨rfl,rfl⟩:=h;exact⟨[],rfl,rfl⟩
 |x::l,ps,m,h,hp=>by
  unfold j7 at h;split at h
  .rename_i p y q m' h1 h2;cases h;obtain⟨u,e1,e2⟩:=hf x p y h1 (λr hr=>hp r (by grind));obtain⟨v,e3,e4⟩:=xj hf h2 (λr hr=>hp r (by grind));refine⟨u::v,?_,by rw[avs,e2,e4];rfl⟩;rw[avs,dj,e1,e3]
  .cases h
def Jw{d:Nat}{σ:Sg}{x:SV}{ps:List Prop}{y:SV}(h:(match x.av with| .p _=>some (([] :List Prop),x)|_=>none)=some (ps,y)):∃q,dI d σ.a x.av=some q/\y.av= .p q:=by split at h<;>cases h;rename_i q hq;exact⟨q,by rw[hq,Gc],hq⟩
def Jy{σ:Sg}{x a n d:Nat}{ty ity:TypeId}{lt:LT}{L:List (List lt.ty)}{ov:List (Nat×SV)}(hs:σ x=some (.fam ty ity lt L ov))(ha:a<L.length)(hn:n=(L.getD a []).length)(ho:ov.lookup a=none):
  dI (d+1) σ.a (.own (inn x (a+1)) 0 n)=some (.sl (L.getD a []).length (lt.enc (L.getD a []))):=by
 unfold dI;rw[EN hs ha ho];simp only[qS,sX,eE,C2];rw[ip (by rw[lt.wide.length,hn];omega),hn]
def Ma{d:Nat}{g:Nat->Option Ob}{f:Nat->AV}{h:Nat->PV}:∀(l:List Nat),(∀i∈l,dI d g (f i)=some (h i))->dj (dI d g) (l.map f)=some (l.map h)
 |[],_=>rfl
 |i::l,H=>by
  rw[cv,dj,H i (by grind),Ma l λj hj=>H j (bk _ hj)];rfl
def ES{α β:Type}(f:α->β):∀l:List α,(l.flatMap λr=>[f r])=l.map f
 |[] =>rfl
 |a::l=>by rw[fG,cv,ES f l];rfl
def L8{σ:Sg}{x n d:Nat}{ty ity:TypeId}{lt:LT}{L:List (List lt.ty)}(hs:σ x=some (.fam ty ity lt L []))(hn:n=L.length):
  dI (d+2) σ.a (.own (aO x) 0 n)=some (.sl n (L.flatMap λr=>[PV.sl r.length (lt.enc r)])):=by
 have e1:Sg.a σ (aO x)=some ⟨ty,1,(bV L.length).map (il x L [])⟩:=by rw[Sg.cI,hs];rfl
 have e2:dj (dI (d+1) σ.a) ((bV L.length).map (il x L []))=some ((bV L.length).map λi=>PV.sl (L.getD i []).length (lt.enc (L.getD i []))):=
  Ma _ λi hi=>Jy (ov:=[]) hs (by grind) rfl rfl
 have e3:((bV L.length).map λi=>PV.sl (L.getD i []).length (lt.enc (L.getD i [])))=L.flatMap λr=>[PV.sl r.length (lt.enc r)] :=by
  rw[ES (λr:List lt.ty=>PV.sl r.length (lt.enc r))];refine tW (by simp) λi h1 h2=> ?_;have h3:i<L.length:=by simpa using h2
  rw[jR,jR,List.getElem_range,dw,fA h3];rfl
 unfold dI;rw[e1];simp only[qS,e2,e3,eE,C2];rw[ip];grind
def Xc{σ:Sg}{d x n:Nat}{ps:List Prop}{y:SV}(h:Bn d σ x n=some (ps,y))(hp:∀p∈ps,p):∃q,dI (d+1) σ.a (SV.owF x n).av=some q/\y.av= .p q:=by
 unfold Bn at h;split at h
 .rename_i d ty ity L hs;cases h;have hn:n=L.length:=hp _ (by grind);exact⟨_,L8 hs hn,by rw[hn];rfl⟩
 .rename_i d ty ity L hs;cases h;have hn:n=L.length:=hp _ (by grind);exact⟨_,L8 hs hn,by rw[hn];rfl⟩
 .cases h
def Er{σ:Sg}:∀{d:Nat} {x:SV} {ps:List Prop} {y:SV},kR d σ x=some (ps,y)->(∀p∈ps,p)->∃q,dI d σ.a x.av=some q/\y.av= .p q:=by
 intro d;induction d with
 |zero=>
  intro x ps y h hp;cases x<;>first
   |(change some ([],SV.sl 0 [])=some (ps,y)at h;cases h;exact⟨.sl 0 [],rfl,rfl⟩)
   |exact Jw h
 |succ d ih=>
  intro x ps y h hp;have ihl:= @xj d σ (kR d σ) (by grind);cases x with
  |nil=>cases h;exact⟨.sl 0 [],rfl,rfl⟩
  |own s t n=>
   change (match σ s with|some (.row _ lt l)=>some ([n=l.length],SV.lst lt l)|_=>none)=_ at h;split at h<;>cases h;rename_i ty lt l hs;have hn:n=l.length:=hp _ (by grind);refine⟨_,?_,rfl⟩;show dI (d+1) (Sg.a σ) (.own (aO s) 0 n)=_;unfold dI;have:Sg.a σ (aO s)=some ⟨ty,lt.w,(lt.enc l).map .p⟩:=by rw[Sg.cI,hs];rfl
   rw[this];simp only[qS,sX,eE,C2];rw[ip (by rw[lt.wide.length,hn];omega),hn]
  |owns s lt2 o n=>
   change (match σ s with|some (.row _ lt l)=>(match bF lt2.w lt.w with|true=>some ([o+n<=l.length],SV.lst lt ((l.drop o).take n))|false=>none)|_=>none)=_ at h;split at h
   case h_2=>cases h
   rename_i ty lt l hs;split at h<;>cases h;rename_i hw;have hw:=dK hw;have hn:o+n<=l.length:=hp _ (by grind);refine⟨_,?_,rfl⟩;show dI (d+1) (Sg.a σ) (.own (aO s) (o*lt2.w) n)=_;unfold dI;have:Sg.a σ (aO s)=some ⟨ty,lt.w,(lt.enc l).map .p⟩:=by rw[Sg.cI,hs];rfl
   rw[this];simp only[qS,sX,eE];rw[hw,lt.wide.drop,lt.wide.take];grind
  |ownx s n=>
   change (match σ s with|some (.arr _ ez cs)=>(match bF cs.length (n*ez),j7 (kR d σ) cs with|true,some (ps,m)=>some (ps,SV.sl n m)|_,_=>none)|_=>none)=_ at h;split at h
   case h_2=>cases h
   rename_i ty ez cs hs;split at h<;>cases h;rename_i m hl hm;obtain⟨q,e1,e2⟩:=ihl hm hp;refine⟨.sl n q,?_,by show(match bK (avs m)with|some q=>AV.p (.sl n q)|none=> .any)=_;rw[e2,dS]⟩;show dI (d+1) (Sg.a σ) (.own (aO s) 0 n)=_;unfold dI;have:Sg.a σ (aO s)=some ⟨ty,ez,avs cs⟩:=by rw[Sg.cI,hs];rfl
   rw[this];simp only[qS,e1,eE,C2];rw[ip (by rw[<-(n7 e1).1,jV,dK hl];omega)]
  |ptr s off=>
   change (match σ s with|some (.box _ cs)=>(match j7 (kR d σ) cs with|some (ps,m)=>some (ps,SV.pro m off)|none=>none)|_=>none)=_ at h;split at h
   case h_2=>cases h
   rename_i ty cs hs;split at h<;>cases h;rename_i m hm;obtain⟨q,e1,e2⟩:=ihl hm hp;refine⟨.pro q off,?_,by show(match bK (avs m)with|some q=>AV.p (.pro q off)|none=> .any)=_;rw[e2,dS]⟩;show dI (d+1) (Sg.a σ) (.ptr (aO s) off)=_;unfold dI;have:Sg.a σ (aO s)=some ⟨ty,0,avs cs⟩:=by rw[Sg.cI,hs];rfl
   grind
  |ownf x t a n=>
   change (match σ x with|some (.fam _ _ lt L ov)=>some ((a<L.length)::(n=(L.getD a []).length)::mP ov a,SV.lst lt (L.getD a []))|_=>none)=_ at h;split at h<;>cases h;rename_i ty ity lt L ov hs;have ha:a<L.length:=hp _ (by grind);have hn:n=(L.getD a []).length:=hp _ (by grind);have ho:ov.lookup a=none:=rt (by grind);exact⟨_,Jy hs ha hn ho,rfl⟩
  |owF x n=>exact Xc (show Bn d σ x n=_ from h) hp
  |agg l=>
   change (match j7 (kR d σ) l with|some (ps,m)=>some (ps,SV.agg m)|none=>none)=_ at h;split at h<;>cases h;rename_i m hm;obtain⟨q,e1,e2⟩:=ihl hm hp;refine⟨.agg q,?_,by show eJ (avs m)=_;rw[e2,rp]⟩;show dI (d+1) (Sg.a σ) (eJ (avs l))=_;unfold eJ;cases hq:bK (avs l)with
   |some q'=>
    rw[iu hq,sX]at e1;cases e1;exact Gc _ _ _
   |none=>unfold dI;rw[e1];rfl
  |fn f a b=>
   change (match j7 (kR d σ) a,j7 (kR d σ) b with|some (p,x),some (q,y)=>some (p++q,SV.fnp f x y)|_,_=>none)=_ at h;split at h<;>cases h;rename_i p x q y h1 h2;obtain⟨u,e1,e2⟩:=ihl h1 (λr hr=>hp r (by grind));obtain⟨v,e3,e4⟩:=ihl h2 (λr hr=>hp r (by grind));refine⟨.fn (.func f) u v,?_,by show(match bK (avs x),bK (avs y)with|some x,some y=>AV.p (.fn (.func f) x y)|_,_=> .any)=_;rw[e2,e4,dS,dS]⟩;show dI (d+1) (Sg.a σ) (.fn (.func f) (avs a) (avs b))=_;unfold dI;grind
  |_=>exact Jw h
def dP:Nat->Sg->SV->List Nat
 |0,_,_=>[]
 |d+1,σ,x=>
  let O:Nat->List Nat:=λs=>match σ s with
   |some (.box _ cs)=>bL (dP d σ) cs
   |some (.arr _ _ cs)=>bL (dP d σ) cs
   |some (.fam _ _ _ _ ov)=>bL (λq:Nat×SV=>dP d σ q.2) ov
   |_=>[]
  match x with
  | .own s _ _=>s::O s
  | .owns s _ _ _=>s::O s
  | .ownx s _=>s::O s
  | .ptr s _=>s::O s
  | .pte s _ _ _=>s::O s
  | .ptf s _=>s::O s
  | .owF s _=>s::O s
  | .ownf s _ _ _=>[s]
  | .ptef s _ _ _ _=>[s]
  | .agg l=>bL (dP d σ) l
  | .fn _ a b=>bL (dP d σ) a++bL (dP d σ) b
  |_=>[]
def lO:Nat->Sg->SV->Bool
 |0,_,_=>true
 |d+1,σ,x=>
  let O:Nat->Bool:=λs=>match σ s with
   |some (.box _ cs)=>cs.all (lO d σ)
   |some (.arr _ _ cs)=>cs.all (lO d σ)
   |some (.fam ..)=>false
   |_=>true
  match x with
  | .own s _ _=>O s
  | .owns s _ _ _=>O s
  | .ownx s _=>O s
  | .ptr s _=>O s
  | .pte s _ _ _=>O s
  | .ptf s _=>O s
  | .owF s _=>O s
  | .ownf .. =>false
  | .ptef .. =>false
  | .agg l=>l.all (lO d σ)
  | .fn _ a b=>a.all (lO d σ)&&b.all (lO d σ)
  |_=>true
def qX{d:Nat}{g:Nat->Option Ob}{y:AV}(h:(∃q,y= .p q)\/y= .any\/(∃l,y= .tup l)):cK (d+1) g y=[] :=by rcases h with⟨q,rfl⟩|rfl|⟨l,rfl⟩<;>rfl
def qo(x:SV):(match x with| .tup _| .sl .. | .pro .. | .fnp .. =>True|_=>False)->(∃q,x.av= .p q)\/x.av= .any\/(∃l,x.av= .tup l):=by
 intro h;cases x<;>first|exact h.elim|skip
 .show(∃q,j0 _= .p q)\/j0 _= .any\/∃m,j0 _= .tup m;unfold j0;grind
 all_goals
  simp only[SV.av];split
  .exact .inl ⟨_,rfl⟩
  .exact .inr (.inl rfl)
def MS{d:Nat}{g:Nat->Option Ob}(l:List SV):cK (d+1) g (eJ (avs l))=bL (cK d g) (avs l):=by
 unfold eJ;cases hq:bK (avs l)with
 |none=>rfl
 |some q=>rw[iu hq,pX];rfl
def Od{A B Ac Bc:List Nat}(h1:inC A Ac)(h2:inC B Bc):inC (A++B) (Ac++Bc):=λs hs=>by
 rcases bi.1 hs with h|h
 .exact fT _ (h1 s h)
 .exact fB _ (h2 s h)
def ql{d:Nat}{σ:Sg}(ih:∀x:SV,inC (cK d σ.a x.av) ((dP d σ x).map ncl)):∀l:List SV,inC (bL (cK d σ.a) (avs l)) ((bL (dP d σ) l).map ncl)
 |[] =>λs hs=>(cG hs).elim
 |x::l=>by rw[avs,bL,bL,dR];exact Od (ih x) (ql ih l)
def Xs{σ:Sg}{d:Nat}(ih:∀x:SV,inC (cK d σ.a x.av) ((dP d σ x).map ncl)):∀s:Nat,inC (aO s::(match σ.a (aO s)with|some ob=>bL (cK d σ.a) ob.cells|none=>[])) ((s::(match σ s with|some (.box _ cs)=>bL (dP d σ) cs|some (.arr _ _ cs)=>bL (dP d σ) cs|some (.fam _ _ _ _ ov)=>bL (λq:Nat×SV=>dP d σ q.2) ov|_=>[])).map ncl):=by
 intro s t ht;rw[Sg.cI]at ht;rcases aj.1 ht with rfl|ht
 .rw[show cls (aO s)=ncl s from fO s 0];grind
 cases hs:σ s with
 |none=>grind
 |some ob=>
  rw[hs]at ht;cases ob with
  |box ty cs=>exact bk _ (ql ih cs t ht)
  |row ty lt l=>
   have ht:t∈bL (cK d σ.a) ((lt.enc l).map .p):=ht;rw[pX]at ht;grind
  |arr ty ez cs=>exact bk _ (ql ih cs t ht)
  |mp ks=>
   have ht:t∈bL (cK d σ.a) (gF (gW ks)):=ht;rw[ry,pX]at ht;grind
  |fam ty ity lt L ov=>
   have ht:t∈bL (cK d σ.a) ((bV L.length).map (il s L ov)):=ht;have:∀l:List Nat,t∈bL (cK d σ.a) (l.map (il s L ov))->cls t∈ncl s::((bL (λq:Nat×SV=>dP d σ q.2) ov).map ncl):=λl=>by
    induction l with
    |nil=>intro h;exact(cG h).elim
    |cons i l ihl=>
     intro h;rcases bi.1 h with h|h
     .unfold il at h;split at h
      .rename_i v hv;obtain⟨y,hy,e⟩:=bR.1 (ih v t h);refine bk _ (bR.2 ⟨y,ng (x:=(i,v)) ?_ hy,e⟩);have key:∀ov:List (Nat×SV),ov.lookup i=some v->(i,v)∈ov:=λov hv=>by
        induction ov with
        |nil=>cases hv
        |cons q ov ihv=>
         grind
       grind
      .cases d with
       |zero=>exact(cG h).elim
       |succ d=>
        rcases aj.1 h with rfl|h
        .rw[fO];grind
        .rw[Sg.fX,hs]at h;have h:t∈(match(match ov.lookup i with|some _=>none|none=>(L[i]?).map λl=>(⟨ity,lt.w,(lt.enc l).map .p⟩:Ob))with|some ob=>bL (cK d σ.a) ob.cells|none=>[]):=h;split at h
         .rename_i ob hob;split at hob
          .cases hob
          .cases hL:L[i]? with
           |none=>grind
           |some l=>rw[hL]at hob;cases hob;rw[pX]at h;grind
         grind
     grind
   grind
def Ul{σ:Sg}{d:Nat}:∀s a:Nat,inC (inn s (a+1)::(match σ.a (inn s (a+1))with|some ob=>bL (cK d σ.a) ob.cells|none=>[])) ([s].map ncl):=by
 intro s a t ht;rcases aj.1 ht with rfl|ht
 .rw[fO];grind
 .rw[Sg.fX]at ht;cases hs:σ s with
  |none=>grind
  |some ob=>
   rw[hs]at ht;cases ob with
   |fam ty ity lt L ov=>
    have ht:t∈(match(match ov.lookup a with|some _=>none|none=>(L[a]?).map λl=>(⟨ity,lt.w,(lt.enc l).map .p⟩:Ob))with|some ob=>bL (cK d σ.a) ob.cells|none=>[]):=ht;split at ht
    .rename_i ob hob;split at hob
     .cases hob
     .cases hL:L[a]? with
      |none=>grind
      |some l=>rw[hL]at hob;cases hob;rw[pX]at ht;grind
    grind
   |_=>exact(cG ht).elim
def N4{σ:Sg}:∀(d:Nat) (x:SV),inC (cK d σ.a x.av) ((dP d σ x).map ncl):=by
 intro d;induction d with
 |zero=>intro x s hs;exact(cG hs).elim
 |succ d ih=>
  intro x;have obs:=Xs ih;have inner:=Ul (σ:=σ) (d:=d);have non:∀{y:SV} {l:List Nat},cK (d+1) σ.a y.av=[]->inC (cK (d+1) σ.a y.av) l:=λh=>by rw[h];exact λs hs=>by grind
  cases x with
  |own s t n=>exact obs s
  |owns s t o n=>exact obs s
  |ownx s n=>exact obs s
  |ptr s off=>exact obs s
  |pte s t i off=>exact obs s
  |ptf s a=>exact obs s
  |owF s n=>exact obs s
  |ownf s t a n=>exact inner s a
  |ptef s t a i off=>exact inner s a
  |agg l=>
   show inC (cK (d+1) σ.a (eJ (avs l))) _;rw[MS];exact ql ih l
  |fn f a b=>
   show inC (bL (cK d σ.a) (avs a)++bL (cK d σ.a) (avs b)) ((bL (dP d σ) a++bL (dP d σ) b).map ncl);rw[dR];exact Od (ql ih a) (ql ih b)
  |tup l=>exact non (qX (qo _ trivial))
  |sl n cs=>exact non (qX (qo _ trivial))
  |pro cs off=>exact non (qX (qo _ trivial))
  |fnp f a b=>exact non (qX (qo _ trivial))
  |_=>exact non rfl
def sC{d:Nat}{σ:Sg}(ih:∀x:SV,lO d σ x=true->cK d σ.a x.av=(dP d σ x).map aO/\∀y∈dP d σ x,qA (σ y)=true):∀l:List SV,l.all (lO d σ)=true->bL (cK d σ.a) (avs l)=(bL (dP d σ) l).map aO/\∀y∈bL (dP d σ) l,qA (σ y)=true
 |[],_=>⟨rfl,λy hy=>(cG hy).elim⟩
 |x::l,h=>by
  rw[List.all_cons,bn]at h;obtain⟨a1,a2⟩:=ih x h.1;obtain⟨b1,b2⟩:=sC ih l h.2;rw[avs,bL,bL,dR,a1,b1];grind
def V8{σ:Sg}:∀(d:Nat) (x:SV),lO d σ x=true->cK d σ.a x.av=(dP d σ x).map aO/\∀y∈dP d σ x,qA (σ y)=true:=by
 intro d;induction d with
 |zero=>intro x _;exact⟨rfl,λy hy=>(cG hy).elim⟩
 |succ d ih=>
  intro x hx;have obs:∀s:Nat,(match σ s with|some (.box _ cs)=>cs.all (lO d σ)|some (.arr _ _ cs)=>cs.all (lO d σ)|some (.fam ..)=>false|_=>true)=true->
    (aO s::(match σ.a (aO s)with|some ob=>bL (cK d σ.a) ob.cells|none=>[]))=(s::(match σ s with|some (.box _ cs)=>bL (dP d σ) cs|some (.arr _ _ cs)=>bL (dP d σ) cs|some (.fam _ _ _ _ ov)=>bL (λq:Nat×SV=>dP d σ q.2) ov|_=>[])).map aO/\
    ∀y∈(s::(match σ s with|some (.box _ cs)=>bL (dP d σ) cs|some (.arr _ _ cs)=>bL (dP d σ) cs|some (.fam _ _ _ _ ov)=>bL (λq:Nat×SV=>dP d σ q.2) ov|_=>[])),qA (σ y)=true:=by
   intro s h;rw[Sg.cI,cv];cases hs:σ s with
   |none=>exact⟨rfl,λy hy=>by rw[bZ.1 hy,hs];rfl⟩
   |some ob=>
    rw[hs]at h;cases ob with
    |box ty cs=>
     obtain⟨a1,a2⟩:=sC ih cs h;refine⟨congrArg (aO s:: ·) a1,λy hy=> ?_⟩;rcases aj.1 hy with rfl|hy
     .rw[hs];rfl
     grind
    |row ty lt l=>exact⟨congrArg (aO s:: ·) (pX _ _ _),λy hy=>by rw[bZ.1 hy,hs];rfl⟩
    |arr ty ez cs=>
     obtain⟨a1,a2⟩:=sC ih cs h;refine⟨congrArg (aO s:: ·) a1,λy hy=> ?_⟩;rcases aj.1 hy with rfl|hy
     .rw[hs];rfl
     grind
    |mp ks=>
     refine⟨congrArg (aO s:: ·) ?_,λy hy=>by rw[bZ.1 hy,hs];rfl⟩;show bL (cK d σ.a) (gF (gW ks))=_;rw[ry];exact pX _ _ _
    |fam=>cases h
  have non:∀{y:SV},cK (d+1) σ.a y.av=[]->dP (d+1) σ y=[]->cK (d+1) σ.a y.av=(dP (d+1) σ y).map aO/\∀z∈dP (d+1) σ y,qA (σ z)=true:=by grind
  cases x with
  |own s t n=>exact obs s hx
  |owns s t o n=>exact obs s hx
  |ownx s n=>exact obs s hx
  |ptr s off=>exact obs s hx
  |pte s t i off=>exact obs s hx
  |ptf s a=>exact obs s hx
  |owF s n=>exact obs s hx
  |ownf s t a n=>cases hx
  |ptef s t a i off=>cases hx
  |agg l=>
   show cK (d+1) σ.a (eJ (avs l))=_/\_;rw[MS];exact sC ih l hx
  |fn f a b=>
   have hx:(a.all (lO d σ)&&b.all (lO d σ))=true:=hx;rw[bn]at hx;obtain⟨a1,a2⟩:=sC ih a hx.1;obtain⟨b1,b2⟩:=sC ih b hx.2;show bL (cK d σ.a) (avs a)++bL (cK d σ.a) (avs b)=(bL (dP d σ) a++bL (dP d σ) b).map aO/\∀y∈bL (dP d σ) a++bL (dP d σ) b,_;grind
  |tup l=>exact non (qX (qo _ trivial)) rfl
  |sl n cs=>exact non (qX (qo _ trivial)) rfl
  |pro cs off=>exact non (qX (qo _ trivial)) rfl
  |fnp f a b=>exact non (qX (qo _ trivial)) rfl
  |_=>exact non rfl rfl
inductive RK(X:Type) where
 |val (fr:Bool) (res:X->SV)
 |own (ty:TypeId) (t:LT) (l:X->List t.ty) (ys:X->List SV)
 |ownN (ty:TypeId) (t:LT) (l:X->List t.ty)
 |mutR (t:LT) (ty:TypeId) (l':X->List t.ty)
 |mutB (ty:TypeId) (cells':X->List SV)
 |tree (res:X->SV) (obs:X->aP)
 |rowB (t:LT) (ty:TypeId) (l':X->List t.ty)
structure Con where
 X:Type
 dec:List SV->Option X
 pre:X->List Prop
 rk:RK X
def aBD(P:Program)(f:Nat){X:Type}(dec:List SV->Option X)(pre:X->List Prop):RK X->Prop
 | .val fr res=>∀xs x,dec xs=some x->(∀p∈pre x,p)->∃A r,avs xs=A.map .p/\(res x).av= .p r/\Sat P fr f A r
 | .own ty t l ys=>∀xs x,dec xs=some x->(∀p∈pre x,p)->∃A Y,avs xs=A.map .p/\avs (ys x)=Y.map .p/\vh P f A ty t.w (t.enc (l x)) (l x).length Y
 | .ownN ty t l=>∀xs x,dec xs=some x->(∀p∈pre x,p)->∃A,avs xs= .nil::A.map .p/\II P f A ty t.w (t.enc (l x)) (l x).length []
 | .mutR t ty l'=>∀l rest x,dec (.lst t l::rest)=some x->(∀p∈pre x,p)->∃A,avs rest=A.map .p/\mS P f (some l.length) A ty t.w (t.enc l) (t.enc (l' x))
 | .mutB ty cells'=>∀cs rest x,dec (.agg cs::rest)=some x->(∀p∈pre x,p)->∃A q q',avs rest=A.map .p/\avs cs=q.map .p/\avs (cells' x)=q'.map .p/\mS P f none A ty 0 q q'
 | .tree res obs=>∀xs x,dec xs=some x->(∀p∈pre x,p)->∃A,avs xs=A.map .p/\IH P f A (res x).av (Sg.a (aP.at (obs x)))
 | .rowB t ty l'=>∀l rest x,dec (.lst t l::rest)=some x->(∀p∈pre x,p)->∃A,avs rest=A.map .p/\IJ P f l.length A ty t.w (t.enc l) (t.enc (l' x)) (l' x).length
def Con.Ok(P:Program)(f:Nat)(c:Con):Prop:=aBD P f c.dec c.pre c.rk
abbrev Tab:=Nat->Option Con
def Tab.Ok(P:Program)(T:Tab):Prop:=∀f c,T f=some c->c.Ok P f
def LT.argP:(t:LT)->t.ty->PV
 | .V=>λv=> .agg [.int .i64 v.x,.int .i64 v.y]
 | .S=>λs=> .agg [.int .i64 s.a.x,.int .i64 s.a.y,.int .i64 s.b.x,.int .i64 s.b.y]
 | .R=>λr=> .sl r.length (fe r)
 | .I=>λn=> .int .i64 n
 | .B=>λb=> .bool b
 | .P=>λp=> .agg [.int .i64 p.1,.int .i64 p.2]
 | .Q=>λr=> .sl r.length (CW r)
def LT.one:LT->Bool
 | .V=>false
 | .S=>false
 | .P=>false
 |_=>true
def yh(t:LT)(v:SV):Option t.ty:=match t.one with
 |true=>t.dec [v]
 |false=>(match v with| .agg l=>t.dec l|_=>none)
def GN{t:LT}{v:SV}{x:t.ty}(h:yh t v=some x):v.av= .p (t.argP x):=by
 have agg:∀l:List SV,v= .agg l->t.dec l=some x->v.av= .p (.agg (t.rowP x)):=by intro l e hd;subst e;show eJ (avs l)=_;rw[LT.yJ hd,rp]
 have one:t.dec [v] =some x->∀c,t.rowP x=[c]->v.av= .p c:=by intro hd c hc;have:=LT.yJ hd;rw[hc]at this;simp only[avs,cv,kZ,nY,and_true]at this;exact this
 unfold yh at h;cases t<;>simp only[LT.one]at h<;>first
  |exact one h _ rfl
  |(split at h<;>first|exact agg _ rfl h|cases h)
def aA6(P:Program)(pv:PV)(t:LT)(q:t.ty->Bool)(dom:t.ty->Prop):Prop:=∃f first caps,pv= .fn (.func f) first caps/\∀x,dom x->∃fr,Sat P fr f (first++[t.argP x] ++caps) (.bool (q x))
def aA5(P:Program)(pv:PV)(t:LT)(q:t.ty->t.ty->Int)(dom:t.ty->t.ty->Prop):Prop:=∃f first caps,pv= .fn (.func f) first caps/\∀x y,dom x y->∃fr,Sat P fr f (first++[t.argP x,t.argP y] ++caps) (.int .i64 (q x y))
def Hg(x:SV):Bool:=match x.av with
 | .p r=>r.flat
 |_=>false
def Bo(T:Tab)(n:Nat)(σ:Sg)(f:Nat)(xs:List SV):SR:=match T f with
 |none=>none
 |some ⟨_,dec,pre,rk⟩=>(match rk with
  | .val fr res=>(match j7 (kR 3 σ) xs with
    |some (ps,bs)=>(match dec bs with
     |some x=>(match(res x).ape,bK (avs xs)with
      |false,some _=>some (ps++pre x,res x,[],[])
      |false,none=>(match fr,Hg (res x)with
       |false,false=>(match xs.all (lO 3 σ)with|true=>some (ps++pre x,res x,bL (dP 3 σ) xs,(bL (dP 3 σ) xs).map (·,none))|false=>none)
       |_,_=>some (ps++pre x,res x,bL (dP 3 σ) xs,[]))
      |_,_=>none)
     |none=>none)
    |none=>none)
  | .own ty t l ys=>(match bK (avs xs),dec xs,frs σ n with
    |some _,some x,true=>(match ys x with
     |[] =>some (pre x,.own n t (l x).length,[],[(n,some (.row ty t (l x)))])
     |y::r=>(match bF (y::r).length 0 with|_=>some (pre x,.tup (.own n t (l x).length::y::r),[],[(n,some (.row ty t (l x)))])))
    |_,_,_=>none)
  | .ownN ty t l=>(match xs with
    | .nil::rest=>(match bK (avs rest),dec (.nil::rest),frs σ n with
      |some _,some x,true=>some (pre x,.own n t (l x).length,[],[(n,some (.row ty t (l x)))])
      |_,_,_=>none)
    |_=>none)
  | .mutR t ty l'=>(match xs with
    | .own s _ m::rest=>(match σ s,bK (avs rest)with
      |some (.row ty' t' l),some _=>(match decEq t' t,bF ty' ty with
       | .isTrue h,true=>(match dec (.lst t (h▸l)::rest)with
         |some x=>some ((m=l.length)::pre x,.undef,[s],[(s,some (.row ty t (l' x)))])
         |none=>none)
       |_,_=>none)
      |_,_=>none)
    |_=>none)
  | .mutB ty cells'=>(match xs with
    | .ptr s 0::rest=>(match σ s,bK (avs rest)with
      |some (.box ty' cs),some _=>(match bF ty' ty,dec (.agg cs::rest)with
       |true,some x=>some (pre x,.undef,[s],[(s,some (.box ty (cells' x)))])
       |_,_=>none)
      |_,_=>none)
    |_=>none)
  | .tree .. =>none
  | .rowB .. =>none)
def MI{P:Program}{T:Tab}(hT:T.Ok P){n:Nat}{σ:Sg}{f:Nat}{xs:List SV}{ps:List Prop}{r:SV}{rd:List Nat}{W:aP}(h:Bo T n σ f xs=some (ps,r,rd,W))(hp:∀p∈ps,p):
  (ph P σ.a f (avs xs) (λr' R' W'=>r'=r.av/\bY σ rd W R' W')\/At P n f (avs xs) (λr' R' W'=>r'=r.av/\bY σ rd W R' W'))/\r.ok:=by
 unfold Bo at h;split at h
 .cases h
 rename_i X dec pre rk hTf;have hc:=hT f _ hTf;unfold Con.Ok at hc;split at h
 .rename_i fr res;split at h
  case h_2=>cases h
  rename_i qs bs hb;split at h
  case h_2=>cases h
  rename_i x hx;have fin:(∀p∈qs++pre x,p)->∃A r,dj (dI 3 σ.a) (avs xs)=some A/\(res x).av= .p r/\Sat P fr f A r:=by
   intro hp;obtain⟨A,r,h1,h2,h3⟩:=hc bs x hx (λp h=>hp p (by grind));obtain⟨q,h4,h5⟩:=xj (λx ps y=>Er) hb (λp h=>hp p (by grind));rw[h1]at h5;have:A=q:=by have:=congrArg bK h5;rw[dS,dS]at this;cases this;rfl
   subst this;grind
  have hR:bY σ (bL (dP 3 σ) xs) [] (bL (cK 3 σ.a) (avs xs)) [] :=⟨ql (N4 3) xs,λs hs=>by grind,rfl⟩;split at h
  .rename_i A' hape hA';cases h;obtain⟨A,r,h1,h2,h3⟩:=fin hp;refine⟨.inl ?_,SV.nF hape⟩;rw[h2];rw[iu hA',sX]at h1;cases h1;exact DV h3 hA' ⟨rfl,bY.read σ []⟩
  .rename_i hape hA';cases hfr:fr with
   |true=>
    rw[hfr]at h;cases h;obtain⟨A,r,h1,h2,h3⟩:=fin hp;refine⟨.inl ?_,SV.nF hape⟩;rw[h2];rw[hfr]at h3;exact JM h3 h1 rfl ⟨rfl,hR⟩
   |false=>
    cases hfl:Hg (res x)with
    |true=>
     rw[hfr,hfl]at h;cases h;obtain⟨A,r,h1,h2,h3⟩:=fin hp;refine⟨.inl ?_,SV.nF hape⟩;unfold Hg at hfl;rw[h2]at hfl|-;exact JM (h3.fresh hfl) h1 rfl ⟨rfl,hR⟩
    |false=>
     rw[hfr,hfl]at h;dsimp only at h;split at h<;>cases h;rename_i hall;obtain⟨A,r,h1,h2,h3⟩:=fin hp;refine⟨.inl ?_,SV.nF hape⟩;rw[h2];obtain⟨e1,e2⟩:=sC (V8 3) xs hall;refine UG h3 h1 e1 ⟨rfl,?_⟩;have e3:((bL (dP 3 σ) xs).map aO).map (·,(none:Option Ob))=aP.sto ((bL (dP 3 σ) xs).map (·,none)):=by unfold aP.sto;rw[di,di];rfl
     rw[e3];exact bY.flat λq hq=>by obtain⟨y,hy,rfl⟩:=bR.1 hq;exact⟨e2 y hy,rfl⟩
  .cases h
 .rename_i ty t l ys;split at h
  case h_2=>cases h
  rename_i A' x hA' hx hfr;obtain⟨f1,f2⟩:=mC hfr;have fin:(∀p∈pre x,p)->∃Y,avs (ys x)=Y.map .p/\vh P f A' ty t.w (t.enc (l x)) (l x).length Y:=by intro hp;obtain⟨A,Y,h1,h2,h3⟩:=hc xs x hx hp;rw[h1,dS]at hA';cases hA';exact⟨Y,h2,h3⟩
  split at h
  .rename_i hy;cases h;obtain⟨Y,h1,h2⟩:=fin hp;rw[hy]at h1;have hY:Y=[] :=by have:=congrArg fh h1;simp[avs]at this;grind
   subst hY;exact⟨.inr ⟨A',ty,t.w,t.enc (l x),(l x).length,[],by grind,by show _=AV.own (aO n) 0 _;rw[f1];rfl,bY.new (ob:= .row ty t (l x)) f2 f1 rfl⟩,trivial⟩
  .rename_i y r' hy;cases h;obtain⟨Y,h1,h2⟩:=fin hp;rw[hy]at h1;refine⟨.inr ⟨A',ty,t.w,t.enc (l x),(l x).length,Y,by grind,?_,bY.new (ob:= .row ty t (l x)) f2 f1 rfl⟩,trivial⟩;show CG n (l x).length Y=j0 (avs (.own n t (l x).length::y::r'));cases Y with
   |nil=>simp[avs]at h1
   |cons y0 Y=>
    rw[avs,h1];unfold CG j0;rw[<-f1];rfl
 .rename_i ty t l;split at h
  case h_2=>cases h
  rename_i rest;split at h<;>cases h;rename_i A' x hA' hx hfr;obtain⟨f1,f2⟩:=mC hfr;obtain⟨A,h1,h2⟩:=hc _ x hx hp;have hA2:A'=A:=by have h1:AV.nil::avs rest= .nil::A.map .p:=h1;rw[nY]at h1;rw[h1.2,dS]at hA';cases hA';rfl
  subst hA2;exact⟨.inr ⟨A',ty,t.w,t.enc (l x),(l x).length,[],.inr ⟨avs rest,rfl,hA',h2⟩,by show _=AV.own (aO n) 0 _;rw[f1];rfl,bY.new (ob:= .row ty t (l x)) f2 f1 rfl⟩,trivial⟩
 .rename_i t ty l';split at h
  case h_2=>cases h
  rename_i s t2 m rest;split at h
  case h_2=>cases h
  rename_i ty' t' l A' hs hA';split at h
  case h_2=>cases h
  rename_i he _ hty;subst he;split at h<;>cases h;rename_i x hx;have hm:m=l.length:=hp _ (by simp);obtain⟨A,h1,h2⟩:=hc l rest x hx (by grind);have hty:=dK hty;refine⟨.inl (.inr ?_),trivial⟩;refine⟨ty,t'.w,t'.enc l,by rw[Sg.cI,hs,hty];rfl,nZ t'.kP,A,t'.enc (l' x),by rw[h1,dS],by grind,rfl,?_⟩;exact bY.flat (rd:=[s]) (W:=[(s,some (.row ty t' (l' x)))]) λq hq=>by rw[bZ.1 hq,hs];exact⟨rfl,rfl⟩
 .rename_i ty cells';split at h
  case h_2=>cases h
  rename_i s rest;split at h
  case h_2=>cases h
  rename_i ty' cs A' hs hA';split at h<;>cases h;rename_i x hty hx;obtain⟨A,q,q',h1,h2,h3,h4⟩:=hc cs rest x hx hp;have hty:=dK hty;refine⟨.inl (.inr ?_),trivial⟩;refine⟨ty,q,by rw[Sg.cI,hs,hty];show some (⟨ty,0,avs cs⟩:Ob)=_;rw[h2],A,q',by rw[h1,dS],h4,rfl,?_⟩;rw[<-h3];exact bY.flat (rd:=[s]) (W:=[(s,some (.box ty (cells' x)))]) λq hq=>by rw[bZ.1 hq,hs];exact⟨rfl,rfl⟩
 .cases h
 .cases h
def Fl(P:Program)(T:Tab)(n:Nat)(σ:Sg)(fv:SV)(xs:List SV):SR:=match fv with
 | .fn g a b=>Bo T n σ g (a++xs++b)
 | .fnp g a b=>(match bK (avs a),bK (avs b)with|some _,some _=>Bo T n σ g (a++xs++b)|_,_=>none)
 | .clo1 pv t q dom=>(match xs with
   |[v] =>(match yh t v with|some x=>some ([dom x/\aA6 P pv t q dom],.bool (q x),[],[])|none=>none)
   |_=>none)
 | .clo2 pv t q dom=>(match xs with
   |[v,u] =>(match yh t v,yh t u with|some x,some y=>some ([dom x y/\aA5 P pv t q dom],.int .i64 (q x y),[],[])|_,_=>none)
   |_=>none)
 |_=>none
def Ug{P:Program}{T:Tab}(hT:T.Ok P){n:Nat}{σ:Sg}{fv:SV}{xs:List SV}{ps:List Prop}{r:SV}{rd:List Nat}{W:aP}(h:Fl P T n σ fv xs=some (ps,r,rd,W))(hp:∀p∈ps,p):
  (B7 P σ.a fv.av (avs xs) (λr' R' W'=>r'=r.av/\bY σ rd W R' W')\/B6 P n fv.av (avs xs) (λr' R' W'=>r'=r.av/\bY σ rd W R' W'))/\r.ok:=by
 unfold Fl at h;split at h
 .have:=MI hT h hp;rw[rr,rr]at this;exact this
 .rename_i g a b;split at h
  case h_2=>cases h
  rename_i x y h1 h2;have:=MI hT h hp;rw[rr,rr,iu h1,iu h2]at this;have e:(SV.fnp g a b).av= .p (.fn (.func g) x y):=by simp only[SV.av,h1,h2]
  rw[e];exact this
 .rename_i pv t q dom;split at h
  case h_2=>cases h
  rename_i v;split at h<;>cases h;rename_i x hx;obtain⟨h1,f,first,caps,rfl,h2⟩:=hp _ (bZ.2 rfl);obtain⟨fr,h3⟩:=h2 x h1;refine⟨.inl ?_,trivial⟩;show ph P σ.a f (first.map .p++[v.av] ++caps.map .p) _;have e:first.map AV.p++[v.av] ++caps.map AV.p=(first++[t.argP x] ++caps).map .p:=by rw[GN hx,dR,dR];rfl
  rw[e];exact DV h3 (dS _) ⟨rfl,bY.read σ []⟩
 .rename_i pv t q dom;split at h
  case h_2=>cases h
  rename_i v u;split at h<;>cases h;rename_i x y hx hy;obtain⟨h1,f,first,caps,rfl,h2⟩:=hp _ (bZ.2 rfl);obtain⟨fr,h3⟩:=h2 x y h1;refine⟨.inl ?_,trivial⟩;show ph P σ.a f (first.map .p++[v.av,u.av] ++caps.map .p) _;have e:first.map AV.p++[v.av,u.av] ++caps.map AV.p=(first++[t.argP x,t.argP y] ++caps).map .p:=by rw[GN hx,GN hy,dR,dR];rfl
  rw[e];exact DV h3 (dS _) ⟨rfl,bY.read σ []⟩
 .cases h
structure Cx where
 P:Program
 T:Tab
 lt:TypeId->Option LT
 q:EqT
 mt:TypeId->Bool
 inl:Nat->Bool
def SS(P:Program)(t:TypeId):Prop:=∃k e,P.underlying t=some (.map k e)/\MKey P k 2/\∀w,(zeroValue e).run P w= .ok (.bool false) w
def Cx.Ok(X:Cx):Prop:=X.T.Ok X.P/\X.q.Ok X.P/\∀t,X.mt t=true->SS X.P t
def rM:Option SV->SR
 |some r=>(match r.ape with|false=>some ([],r,[],[])|true=>none)
 |none=>none
def uL{o:Option SV}{ps:List Prop}{r:SV}{rd:List Nat}{W:aP}(h:rM o=some (ps,r,rd,W)):o=some r/\r.ok/\ps=[]/\rd=[]/\W=[] :=by
 unfold rM at h;split at h
 .split at h<;>cases h;rename_i hh;exact⟨rfl,SV.nF hh,rfl,rfl,rfl⟩
 .cases h
def vH:Option (List Prop×SV)->SR
 |some (ps,r)=>(match r.ape with|false=>some (ps,r,[],[])|true=>none)
 |none=>none
def zc{o:Option (List Prop×SV)}{ps:List Prop}{r:SV}{rd:List Nat}{W:aP}(h:vH o=some (ps,r,rd,W)):o=some (ps,r)/\r.ok/\rd=[]/\W=[] :=by
 unfold vH at h;split at h
 .split at h<;>cases h;rename_i hh;exact⟨rfl,SV.nF hh,rfl,rfl⟩
 .cases h
def vG:SR->SR
 |some (ps,r,rd,W)=>(match r.ape with|false=>some (ps,r,rd,W)|true=>none)
 |none=>none
def Dl{o:SR}{ps:List Prop}{r:SV}{rd:List Nat}{W:aP}(h:vG o=some (ps,r,rd,W)):o=some (ps,r,rd,W)/\r.ok:=by
 unfold vG at h;split at h
 .split at h<;>cases h;rename_i hh;exact⟨rfl,SV.nF hh⟩
 .cases h
def Ry(raw:Bool)(x:SV):SV:=match raw with
 |true=>(match x with| .nil=> .sl 0 [] |y=>y)
 |false=>x
def sop(X:Cx)(raw:Bool)(n:Nat)(o:Op)(E:SE)(σ:Sg):SR:=match o with
 | .move x=>some ([],E x,[],[])
 | .assign x=>some ([],Ry raw (E x),[],[])
 | .pick c a b=>rM (G9 (E c) (E a) (E b))
 | .alloc t=>BL X.P σ n t
 | .box t x=>CE σ n t (E x)
 | .build t parts=>BK X.P t (parts.toList.map λq=>(q.1,E q.2))
 | .buildSlice t len parts=>As X.P σ n t len (parts.toList.map λq=>(q.1,E q.2))
 | .load t x=>vG (HG X.P t (E x) σ)
 | .store t a x=>BH X.P t (E a) (E x) σ
 | .nilCheck x=>(match CL (E x).av with|true=>some ([],E x,[],[])|false=>none)
 | .binOp op t x y _=>vH (Hu X.P X.q raw op t (E x) (E y))
 | .unOp op _ x=>vH (sun raw op (E x))
 | .convert s d x=>vH (HJ X.P raw s d (E x))
 | .makeFunc (.func f) first caps=>some ([],.fn f (first.toList.map E) (caps.toList.map E),[],[])
 | .slice t x lo hi none=>(match CQ E lo,CQ E hi with|some a,some b=>vH (Gb X.P t (E x) a b)|_,_=>none)
 | .fieldAddr t x f=>(match Gf X.P t (E x) f with|some r=>some ([],r,[],[])|none=>none)
 | .field t x f=>rM (Ge X.P t (E x) f)
 | .indexAddr t x i=>(match Gd X.P t (E x) (E i)with|some (ps,r)=>some (ps,r,[],[])|none=>none)
 | .extract x i=>rM (HH (E x) i)
 | .call {callee:= .value f,args, .. }=>Fl X.P X.T n σ (E f) (args.toList.map E)
 | .call {callee:= .builtin .len,args:=⟨[x]⟩,argTypes:=⟨[t]⟩}=>rM (Ht X.P t (E x))
 | .call {callee:= .builtin .append,args:=⟨[x,y]⟩,argTypes:=⟨[t,t']⟩}=>CF X.P X.lt n t t' σ (E x) (E y)
 | .call {callee:= .builtin .min,args:=⟨[x,y]⟩, .. }=>rM (smm min (E x) (E y))
 | .call {callee:= .builtin .max,args:=⟨[x,y]⟩, .. }=>rM (smm max (E x) (E y))
 | .makeSlice t a b=>vG (HD X.P X.lt σ n t (E a) (E b))
 |_=>none
def aAp{X:Cx}(hX:X.Ok){raw:Bool}{n:Nat}{o:Oper}{E:SE}{σ:Sg}(hE:∀x,(E x).ok){ps:List Prop}{r:SV}{rd:List Nat}{W:aP}(h:sop X raw n o.op E σ=some (ps,r,rd,W))(hp:∀p∈ps,p):
  AOp X.P n o E.a σ.a (λr' R' W'=>r'=r.av/\bY σ rd W R' W')/\r.ok:=by
 obtain⟨hT,hq,_⟩:=hX;generalize ho:o.op=op at h;have A:∀{R:SR},rG X.P n o E σ R->R=some (ps,r,rd,W)->AOp X.P n o E.a σ.a (λr' R' W'=>r'=r.av/\bY σ rd W R' W'):=λhs e=>hs _ _ _ _ e hp;have avl:∀l:List Operand,avs (l.map E)=l.map E.a:=λl=>by rw[iy,di];rfl
 unfold sop at h;split at h
 .rename_i x;cases h;exact⟨by unfold AOp;rw[ho];exact⟨rfl,bY.read σ []⟩,hE x⟩
 .rename_i x;cases h;unfold Ry;split
  .split
   .rename_i hx;exact⟨by unfold AOp;rw[ho];exact .inr ⟨by show(E x).av= .nil;rw[hx];rfl,rfl,bY.read σ []⟩,trivial⟩
   .exact⟨by unfold AOp;rw[ho];exact .inl ⟨rfl,bY.read σ []⟩,hE x⟩
  .exact⟨by unfold AOp;rw[ho];exact .inl ⟨rfl,bY.read σ []⟩,hE x⟩
 .obtain⟨h1,h2,rfl,rfl,rfl⟩:=uL h;exact⟨by unfold AOp;rw[ho];exact XY h1 ⟨rfl,bY.read σ []⟩,h2⟩
 .refine⟨A (Vx ho) h,?_⟩;unfold BL at h;split at h<;>cases h;trivial
 .refine⟨A (Y8 ho) h,?_⟩;unfold CE at h;split at h<;>cases h;trivial
 .refine⟨A (Vt ho) h,?_⟩;unfold BK at h;split at h
  .split at h<;>cases h;trivial
  .cases h
 .refine⟨A (Uh ho) h,?_⟩;unfold As at h;split at h
  .split at h
   .split at h<;>cases h;trivial
   .cases h
  .cases h
 .rename_i t x;obtain⟨h1,h2⟩:=Dl h;exact⟨A (Xf ho (hE x)) h1,h2⟩
 .refine⟨A (Vi ho) h,?_⟩;unfold BH at h;split at h
  .split at h
   .split at h
    .split at h
     .split at h<;>cases h;trivial
     .split at h<;>cases h;trivial
     .cases h
    .split at h
     .split at h<;>cases h;trivial
     .cases h
    .split at h<;>cases h;trivial
    .cases h
   .cases h
  .cases h
 .rename_i x;split at h<;>cases h;rename_i hn;exact⟨by unfold AOp;rw[ho];exact⟨hn,rfl,bY.read σ []⟩,hE x⟩
 .obtain⟨h1,h2,rfl,rfl⟩:=zc h;exact⟨by unfold AOp;rw[ho];exact Y9 hq h1 hp ⟨rfl,bY.read σ []⟩,h2⟩
 .obtain⟨h1,h2,rfl,rfl⟩:=zc h;exact⟨by unfold AOp;rw[ho];exact aAn h1 hp ⟨rfl,bY.read σ []⟩,h2⟩
 .obtain⟨h1,h2,rfl,rfl⟩:=zc h;exact⟨by unfold AOp;rw[ho];exact Xi h1 hp ⟨rfl,bY.read σ []⟩,h2⟩
 .cases h;refine⟨?_,trivial⟩;unfold AOp;rw[ho];refine⟨?_,bY.read σ []⟩;show _=AV.fn _ (avs _) (avs _);rw[avl,avl]
 .rename_i t x lo hi;split at h
  case h_2=>cases h
  rename_i a b ha hb;obtain⟨h1,h2,rfl,rfl⟩:=zc h;refine⟨?_,h2⟩;unfold AOp;rw[ho];dsimp only;have key:∀(z:Option Operand) (c:Option Int) (d:Int),CQ E z=some c->loA E.a z d=some (c.getD d):=by
   intro z c d hz;cases z with
   |none=>cases hz;rfl
   |some z=>
    unfold CQ at hz;dsimp only at hz;split at hz<;>cases hz;rename_i k hk;exact Zh hk
  rw[key lo a 0 ha,key hi b _ hb];exact Vj h1 hp ⟨rfl,bY.read σ []⟩
 .rename_i t x f;split at h<;>cases h;rename_i h1;have:=Vp h1 (K:=λr'=>r'=r.av/\bY σ [] [] [] []) ⟨rfl,bY.read σ []⟩;exact⟨by unfold AOp;rw[ho];exact this.1,this.2 (hE x)⟩
 .obtain⟨h1,h2,rfl,rfl,rfl⟩:=uL h;exact⟨by unfold AOp;rw[ho];exact Vo h1 ⟨rfl,bY.read σ []⟩,h2⟩
 .split at h<;>cases h;rename_i h1;have:=Vn h1 hp (K:=λr'=>r'=r.av/\bY σ [] [] [] []) ⟨rfl,bY.read σ []⟩;exact⟨by unfold AOp;rw[ho];exact this.1,this.2⟩
 .obtain⟨h1,h2,rfl,rfl,rfl⟩:=uL h;exact⟨by unfold AOp;rw[ho];exact Xg h1 ⟨rfl,bY.read σ []⟩,h2⟩
 .have:=Ug hT h hp;rw[avl]at this;exact⟨by unfold AOp;rw[ho];exact this.1,this.2⟩
 .obtain⟨h1,h2,rfl,rfl,rfl⟩:=uL h;exact⟨by unfold AOp;rw[ho];exact Y4 h1 ⟨rfl,bY.read σ []⟩,h2⟩
 .have:=ZA h hp;refine⟨by unfold AOp;rw[ho];exact this,?_⟩;unfold CF at h;split at h
  .unfold Bp at h;split at h
   .split at h<;>cases h;trivial
   .cases h
  .unfold Bq at h;split at h
   .split at h
    .split at h<;>cases h;trivial
    .cases h
   .cases h
 .obtain⟨h1,h2,rfl,rfl,rfl⟩:=uL h;exact⟨by unfold AOp;rw[ho];exact PF h1 ⟨rfl,bY.read σ []⟩,h2⟩
 .obtain⟨h1,h2,rfl,rfl,rfl⟩:=uL h;exact⟨by unfold AOp;rw[ho];exact PF h1 ⟨rfl,bY.read σ []⟩,h2⟩
 .obtain⟨h1,h2⟩:=Dl h;exact⟨A (Xd ho) h1,h2⟩
 .cases h
end
section
variable {P:Program} {o:Oper} {E:Operand->AV} {σ:Nat->Option Ob} {n:Nat}
def W2{c:Call}{f:Operand}{fid:FuncId}{A cells:List PV}{m ty esz:Nat}(ho:o.op= .call c)(hc:c.callee= .value f)(hfv:E f= .p (.fn (.func fid) [] []))
  (hA:dj (dI 3 σ) (c.args.toList.map E)=some A) (hfl:cells.all flat1=true) (hS:vh P fid A ty esz cells m []):bT P o E σ n (.own (sit n 0) 0 m) (bL (cK 3 σ) (c.args.toList.map E)) [(sit n 0,some ⟨ty,esz,cells.map .p⟩)] :=by
 have hfm:f∈o.op.operands.toList:=by rw[ho];simp[cX,jT,hc]
 have ham:∀x∈c.args.toList,x∈o.op.operands.toList:=by intro x hx;rw[ho];simp[cX,jT];exact .inr (by grind)
 obtain⟨hok,he,hcalls⟩:=hS;intro C0 ρ g V w B hs hB hR hn hgn hE;have hn:=hn _ (iE n 0);have hgn:=hgn _ (iE n 0);have hcl:∀s,cls s≠n->s≠sit n 0:=λs h e=>h (by rw[e];exact iE n 0);have hargs:∀l:List Operand,(∀x∈l,x∈o.op.operands.toList)->ag ρ (bC C0 B w ρ g) (l.map E) (l.map (bH V)):=by
  intro l;induction l with
  |nil=>intro _;simp only[kZ];unfold ag;rfl
  |cons x l ih=>
   intro hx;simp only[cv];unfold ag;grind
 have hall:=hargs _ ham;have hsnap:ae (λb o v=>w.cell? ⟨b,o,none⟩=some v) A (c.args.toList.map (bH V)):=by
  obtain⟨g1,g2⟩:=n7 hA;refine ae.of _ _ (by grind) λi y hi=> ?_;have hlt:i<(c.args.toList.map E).length:=by rw[g1];exact(rV.1 hi).1
  obtain⟨y',h5,h6⟩:=g2 i _ (fA hlt);rw[hi]at h5;cases h5;obtain⟨v,k1,k2⟩:=hall.get _ _ i _ (fA hlt);exact⟨v,k1,Ep hs _ (λ_=>True) (λb o v h=>h.1) (λs ob b c _ _ _ _ o v h=>h) 3 _ _ v h6 (λs hs'=>⟨trivial,hR s (ng (List.getElem_mem hlt) hs')⟩) k2⟩
 have hvf:bH V f= .func (.func fid) #[] #[] :=by have:=hE f hfm;rw[hfv]at this;unfold aR aU at this;obtain⟨v1,v2,h1,h2,h3⟩:=this;unfold ae at h2 h3;rw[h1,h2,h3]
 have hrun:(execOp (bH V) o).run P w= .ok (.enter fid (c.args.toList.map (bH V)).toArray) w:=by
  unfold execOp;rw[ho];have e2: #[] ++td (bH V) c.args++ #[] =(c.args.toList.map (bH V)).toArray:=by apply pC.1;simp
  simp only[resolve,hc,hvf,te,cg,dc,cl,invoke,ky hok,e2]
 have hlive:∀s ob b c,g s=some ob->ρ s=some (some b,c)->b<w.heap.size:=by intro s ob b c e1 e2;obtain⟨_,arr,e3⟩:=hs.at e1 e2;exact e3.lt
 unfold cJ;rw[hrun];dsimp only;refine(hcalls _ w _ (λb o v h=>h) hsnap).mono ?_;rintro e w' ⟨v,us,q,c,rfl,hbel,hys,hrow⟩;have hus:us=[] :=by have:=hys.length;simpa using this
 subst hus;have hqb:∀b,q=some b->w.heap.size<=b:=by
  intro b hb;rcases hrow with⟨h1,_⟩|⟨b',arr,h1,_,_,h4,_⟩
  .grind
  .grind
 have hold:∀b,b<w.heap.size->w'.heap[b]? =w.heap[b]? :=λb hb=>hbel.block b hb;generalize hnS:sit n 0=nS at*
 let ρ':Ren:=λs=>if s=nS then some (q,c)else ρ s
 have hρn:ρ' nS=some (q,c):=if_pos rfl;have hρs:∀s,s≠nS->ρ' s=ρ s:=λs h=>if_neg h;have hup:∀s,s≠nS->ai g [(nS,some ⟨ty,esz,cells.map .p⟩)] s=g s:=by intro s h;unfold ai;simp[hZ,beq_eq_false_iff_ne.2 h]
 have hmono:∀b o' x,bC C0 B w ρ g b o' x->bC C0 B w' ρ' (ai g [(nS,some ⟨ty,esz,cells.map .p⟩)]) b o' x:=by
  intro b o' x ⟨e1,e2,e0⟩;have hlt:=jp w ⟨b,o',none⟩ e1;refine⟨(jA (hold b hlt)).trans e1,λs c' e3=> ?_,e0⟩;by_cases hsn:s=nS
  .grind
  .grind
 refine⟨_,rfl,ρ',λs hs=>hρs s (hcl s hs),hmono,?_,?_,hbel.mono hB⟩
 .refine hs.step (λs o' _ hgs=>hρs s (λh=>by grind)) (λs q' hq=>by grind) hmono ?_ ?_ λk es clock hk=>hold k (qz hk)
  .grind
  .intro s o' hso;have hsn:s=nS:=by
    rcases pD s nS with h|h
    .grind
    .exact h
   subst hsn;simp[hZ]at hso;subst hso;refine⟨q,c,hρn,?_⟩;rcases hrow with⟨h1,h2,h3,h4,h5⟩|⟨b,arr,h1,h2,h3,h4,h5,h6,h7,h8,h9⟩
   .grind
   .refine .inr ⟨b,arr,h1,Nat.le_trans hB h4,⟨h5,λh=>absurd h he,λ_=>⟨h6,by grind,h8⟩,λi x hi=> ?_⟩,λs' o2 c' hne hg' hr'=> ?_⟩
    .have hi:(cells.map AV.p)[i]? =some x:=hi;rw[gS]at hi;cases hci:cells[i]? with
     |none=>grind
     |some y=>
      rw[hci]at hi;simp only[eE,fm]at hi;subst hi;obtain⟨u,k1,k2,k3⟩:=h9 i y hci;exact⟨u,k1,k2,by unfold aR;exact EV (bf.1 hfl y (List.mem_of_getElem? hci)) k3⟩
    grind
 .unfold aR;refine⟨q,c,hρn,?_⟩;rcases hrow with⟨h1,h2,h3,_⟩|⟨b,arr,h1,h2,h3,_⟩
  .exact .inl ⟨h1,h2,h3,rfl⟩
  .exact .inr ⟨b,0,c,h1,h2,h3,λ_=>rfl,λ_=>⟨rfl,rfl⟩⟩
end
noncomputable section
def zo{m:Rf}{l r:List AV}(h:fC m l r):cR m (eJ l) (eJ r):=by
 unfold eJ;cases hl:bK l with
 |some q=>
  have e:=iu hl;subst e;have:∀(q:List PV) (r:List AV),fC m (q.map .p) r->r=q.map .p:=by
   intro q;induction q with
   |nil=>intro r h;exact h
   |cons x q ih=>intro r h;obtain⟨y,r',rfl,h1,h2⟩:=h;unfold cR at h1;grind
  rw[this q r h,dS];rfl
 |none=>
  unfold cR;cases hr:bK r with
  |some q=>exact⟨r,.inr ⟨q,rfl,iu hr⟩,h⟩
  |none=>grind
def EA{m:Rf}{l r:List AV}(h:fC m l r):cR m (j0 l) (j0 r):=by
 unfold j0;cases hl:bK l with
 |some q=>
  have e:=iu hl;subst e;have:∀(q:List PV) (r:List AV),fC m (q.map .p) r->r=q.map .p:=by
   intro q;induction q with
   |nil=>intro r h;exact h
   |cons x q ih=>intro r h;obtain⟨y,r',rfl,h1,h2⟩:=h;unfold cR at h1;grind
  rw[this q r h,dS];rfl
 |none=>
  unfold cR;cases hr:bK r with
  |some q=>exact⟨r,.inr ⟨q,rfl,iu hr⟩,h⟩
  |none=>grind
def dH{m:Rf}{x:PV}{y:AV}(h:y= .p x):cR m (.p x) y:=by exact h
def jt(m:Rf):∀q:List PV,fC m (q.map .p) (q.map .p)
 |[] =>by rfl
 |x::q=>by exact⟨_,_,rfl,dH rfl,jt m q⟩
def uP{m:Rf}{α:Type}(f g:α->AV):∀l:List α,(∀x∈l,cR m (f x) (g x))->fC m (l.map f) (l.map g)
 |[],_=>by rfl
 |x::l,h=>by
  exact⟨_,_,rfl,by grind,uP f g l (by grind)⟩
mutual
def SV.ren(f:Nat->Nat):SV->SV
 | .agg l=> .agg (rK f l)
 | .tup l=> .tup (rK f l)
 | .fn g a b=> .fn g (rK f a) (rK f b)
 | .ptr s o=> .ptr (f s) o
 | .pte s t i o=> .pte (f s) t i o
 | .own s t n=> .own (f s) t n
 | .owns s t o n=> .owns (f s) t o n
 | .ownx s n=> .ownx (f s) n
 | .ownf s t a n=> .ownf (f s) t a n
 | .ptef s t a i o=> .ptef (f s) t a i o
 | .ptf s a=> .ptf (f s) a
 | .owF s n=> .owF (f s) n
 | .mp s=> .mp (f s)
 | .any=> .any
 | .undef=> .undef
 | .nil=> .nil
 | .int k n=> .int k n
 | .bool b=> .bool b
 | .lit b=> .lit b
 | .prop p d=> .prop p d
 | .str s=> .str s
 | .lst t l=> .lst t l
 | .sl n cs=> .sl n cs
 | .pe t l i o=> .pe t l i o
 | .pro cs o=> .pro cs o
 | .fnp g a b=> .fnp g a b
 | .clo1 pv t q dom=> .clo1 pv t q dom
 | .clo2 pv t q dom=> .clo2 pv t q dom
 | .ptb F n o=> .ptb F n o
 | .junk=> .junk
def rK(f:Nat->Nat):List SV->List SV
 |[] =>[]
 |x::l=>x.ren f::rK f l
end
def vO(m:Rf)(f:Nat->Nat):Prop:=∀y a,m (inn (f y) a)=some (some (inn y a))
def vO.n{m:Rf}{f:Nat->Nat}(h:vO m f)(y:Nat):m (aO (f y))=some (some (aO y)):=h y 0
mutual
theorem Nz{m:Rf}{f:Nat->Nat}(hm:vO m f):∀v:SV,cR m (v.ren f).av v.av
 | .any=>by trivial
 | .undef=>by rfl
 | .nil=>by rfl
 | .int _ _=>dH rfl
 | .bool _=>dH rfl
 | .lit _=>dH rfl
 | .prop _ _=>dH rfl
 | .str _=>dH rfl
 | .lst _ _=>dH rfl
 | .pe _ _ _ _=>dH rfl
 | .clo1 _ _ _ _=>dH rfl
 | .clo2 _ _ _ _=>dH rfl
 | .ptb _ _ _=>dH rfl
 | .junk=>dH rfl
 | .sl n cs=>by
   simp only[SV.ren,SV.av];split
   .exact dH rfl
   .trivial
 | .pro cs off=>by
   simp only[SV.ren,SV.av];split
   .exact dH rfl
   .trivial
 | .fnp g a b=>by
   simp only[SV.ren,SV.av];split
   .exact dH rfl
   .trivial
 | .agg l=>by exact zo (sF hm l)
 | .tup l=>by exact EA (sF hm l)
 | .fn g a b=>by exact⟨_,_,rfl,sF hm a,sF hm b⟩
 | .ptr s off=>by exact⟨_,hm.n s,rfl⟩
 | .pte s t i off=>by exact⟨_,hm.n s,rfl⟩
 | .ptf s a=>by exact⟨_,hm.n s,rfl⟩
 | .ptef s t a i off=>by exact⟨_,hm s (a+1),rfl⟩
 | .own s t n=>by exact .inl ⟨_,hm.n s,rfl⟩
 | .owns s t o n=>by exact .inl ⟨_,hm.n s,rfl⟩
 | .ownx s n=>by exact .inl ⟨_,hm.n s,rfl⟩
 | .owF s n=>by exact .inl ⟨_,hm.n s,rfl⟩
 | .ownf s t a n=>by exact .inl ⟨_,hm s (a+1),rfl⟩
 | .mp s=>by exact⟨_,hm.n s,rfl⟩
theorem sF{m:Rf}{f:Nat->Nat}(hm:vO m f):∀l:List SV,fC m (avs (rK f l)) (avs l)
 |[] =>by rfl
 |x::l=>by exact⟨_,_,rfl,Nz hm x,sF hm l⟩
end
def SOb.ren(f:Nat->Nat):SOb->SOb
 | .box ty cs=> .box ty (rK f cs)
 | .arr ty ez cs=> .arr ty ez (rK f cs)
 | .row ty t l=> .row ty t l
 | .fam ty ity t L ov=> .fam ty ity t L (ov.map λq=>(q.1,q.2.ren f))
 | .mp ks=> .mp ks
def nA:SOb->Bool
 | .box ty _=> !(bF ty 0)
 | .fam _ _ _ _ ov=>ov.isEmpty
 | .arr _ ez _=> !(bF ez 0)
 |_=>true
def V7{m:Rf}{f:Nat->Nat}(hm:vO m f)(k:Nat){o:SOb}(ho:nA o=true):p8 m ((o.ren f).ob (f k)) (o.ob k):=by
 cases o with
 |box ty cs=>exact⟨rfl,rfl,sF hm cs⟩
 |arr ty ez cs=>exact⟨rfl,rfl,sF hm cs⟩
 |row ty t l=>exact⟨rfl,rfl,jt m _⟩
 |mp ks=>refine⟨rfl,rfl,?_⟩;show fC m (gF (gW ks)) (gF (gW ks));rw[ry];exact jt m _
 |fam ty ity t L ov=>
  have:ov=[] :=It.1 ho;subst this;refine⟨rfl,rfl,uP _ _ _ λi _=> ?_⟩;exact .inl ⟨_,hm k (i+1),rfl⟩
def rJ(x:Nat)(ob:SOb):List (Nat×Option Ob):=(aO x,some (ob.ob x))::match ob with
 | .fam _ ity t L _=>(bV L.length).map λa=>(inn x (a+1),some ⟨ity,t.w,(t.enc (L.getD a [])).map .p⟩)
 |_=>[]
def KD{α:Type}{g0:Nat->Nat}(hg:∀a b,g0 a=g0 b->a=b)(h0:Nat->α):∀(l:List Nat) (a:Nat),(l.map λi=>(g0 i,h0 i)).lookup (g0 a)=if a∈l then some (h0 a)else none
 |[],a=>rfl
 |i::l,a=>by
  rw[cv,dV,KD hg h0 l a];grind
def DU{α:Type}{s:Nat}:∀{l:List (Nat×α)},(∀q∈l,q.1≠s)->l.lookup s=none
 |[],_=>rfl
 |q::l,h=>by grind
def Dg{α:Type}{s:Nat}:∀{l r:List (Nat×α)},(l++r).lookup s=(match l.lookup s with|some x=>some x|none=>r.lookup s)
 |[],r=>rfl
 |q::l,r=>by
  grind
def YH{ob:SOb}(ho:nA ob=true)(a:Nat):ob.inner a=(match ob with| .fam _ ity t L _=>if a<L.length then some ⟨ity,t.w,(t.enc (L.getD a [])).map .p⟩else none|_=>none):=by
 cases ob<;>try rfl
 rename_i ty ity t L ov;have:ov=[] :=It.1 ho;subst this;show((L[a]?).map λl=>(⟨ity,t.w,(t.enc l).map .p⟩:Ob))=_;grind
def Vk(x y:Nat)(ob:SOb):(rJ x ob).lookup (aO y)=if y=x then some (some (ob.ob x))else none:=by
 unfold rJ;rw[dV];by_cases e:y=x
 .grind
 .rw[beq_eq_false_iff_ne.2 (λh=>e (k8 h)),if_neg e];refine DU λq hq=> ?_;split at hq
  .obtain⟨a,_,rfl⟩:=bR.1 hq;exact λh=>by have:=(fJ h).2;omega
  .cases hq
def Xb(x y a:Nat){ob:SOb}(ho:nA ob=true):(rJ x ob).lookup (inn y (a+1))=if y=x then(ob.inner a).map some else none:=by
 have e0:inn y (a+1)≠aO x:=λh=>by have:=(fJ h).2;omega
 rw[YH ho a];unfold rJ;rw[dV,beq_eq_false_iff_ne.2 e0];cases ob with
 |fam ty ity t L ov=>
  by_cases e:y=x
  .subst e;rw[if_pos rfl,KD (g0:=λa=>inn y (a+1)) (λa b h=>by have:=(fJ h).2;omega)];grind
  .rw[if_neg e];refine DU λq hq=> ?_;obtain⟨b,_,rfl⟩:=bR.1 hq;exact λh=>e (fJ h).1.symm
 |_=>dsimp only;split<;>rfl
def Y3(x:Nat)(ob:SOb){s:Nat}(h:∀x a,s≠inn x a):(rJ x ob).lookup s=none:=by
 refine DU λq hq=> ?_;rcases aj.1 hq with rfl|hq
 .exact λe=>h x 0 e.symm
 grind
def p7(W:List (Nat×SOb)):List (Nat×Option Ob):=W.flatMap λq=>rJ q.1 q.2
def wu(y:Nat):∀W:List (Nat×SOb),(p7 W).lookup (aO y)=(W.lookup y).map λob=>some (ob.ob y)
 |[] =>rfl
 |q::W=>by
  unfold p7;rw[fG,Dg,Vk,dV];by_cases e:y=q.1
  .grind
  .rw[if_neg e,beq_eq_false_iff_ne.2 e];exact wu y W
def xI(y a:Nat):∀{W:List (Nat×SOb)},(∀q∈W,nA q.2=true)->(W.map (·.1)).Nodup->(p7 W).lookup (inn y (a+1))=((W.lookup y).bind (SOb.inner a)).map some
 |[],_,_=>rfl
 |q::W,h,hn=>by
  rw[cv,List.nodup_cons]at hn;have ih:=xI y a (W:=W) (by grind) hn.2;unfold p7;rw[fG,Dg,Xb _ _ _ (by grind),dV];by_cases e:y=q.1
  .rw[if_pos e,beq_iff_eq.2 e];have hno:W.lookup y=none:=by grind
   cases hi:q.2.inner a with
   |some ob=>simp[hi]
   |none=>
    have ih':(List.flatMap (λq=>rJ q.1 q.2) W).lookup (inn y (a+1))=none:=by have:=ih;unfold p7 at this;rw[this,hno];rfl
    grind
  .rw[if_neg e,beq_eq_false_iff_ne.2 e];exact ih
def xP{s:Nat}(h:∀x a,s≠inn x a):∀W:List (Nat×SOb),(p7 W).lookup s=none
 |[] =>rfl
 |q::W=>by
  unfold p7;rw[fG,Dg,Y3 _ _ h];exact xP h W
def Jf(W:List (Nat×SOb))(y:Nat):((W.map λq=>(q.1,some q.2)).lookup y:Option (Option SOb))=(W.lookup y).map some:=by
 induction W with
 |nil=>rfl
 |cons q W ih=>
  grind
def bY.news{σ:Sg}{W:List (Nat×SOb)}(hW:∀q∈W,nA q.2=true)(hn:(W.map (·.1)).Nodup)(hσ:∀q∈W,σ q.1=none):bY σ [] (W.map λq=>(q.1,some q.2)) [] (p7 W):=by
 refine⟨λs hs=>by grind,λs hs=> ?_,?_⟩
 .obtain⟨⟨t,ob⟩,hq,rfl⟩:=bR.1 hs;obtain⟨q,hq1,hq2⟩:=cQ.1 hq;have:cls t=ncl q.1:=by
   unfold rJ at hq2;rcases aj.1 hq2 with e|hq2
   .cases e;exact fO _ 0
   .split at hq2
    .obtain⟨a,_,e⟩:=bR.1 hq2;cases e;exact fO _ _
    .cases hq2
  grind
 .funext s
  unfold ai;rcases kE s with⟨y,rfl⟩|⟨y,b,rfl⟩|hns
  .rw[Sg.cI,Sg.cI,wu];unfold aP.up;rw[Jf];cases hl:W.lookup y with
   |none=>rfl
   |some ob=>rfl
  .rw[Sg.fX,Sg.fX,xI y b hW hn];unfold aP.up;rw[Jf];cases hl:W.lookup y with
   |none=>rfl
   |some ob=>
    show(match((SOb.inner b ob).map some:Option (Option Ob))with|some x=>x|none=>(σ y).bind (SOb.inner b))=SOb.inner b ob;cases hi:SOb.inner b ob with
    |some o=>rfl
    |none=>grind
  .rw[Sg.jj _ hns,Sg.jj _ hns,xP hns]
def mu(n y:Nat):Nat:=n+NM*(y+1)
def muR(n:Nat):Rf:=λs=>if inn (nm s) (sub s)=s then(if mu n (nm s/NM-1)=nm s then some (some (inn (nm s/NM-1) (sub s)))else none)else none
def Gn{n:Nat}(hn:n<NM)(y:Nat):mu n y/NM-1=y:=by unfold mu;rw[Nat.add_mul_div_left _ _ (by grind),Nat.div_eq_of_lt hn];omega
def P8{n:Nat}(hn:n<NM)(y:Nat):ncl (mu n y)=n:=by unfold ncl mu;rw[Nat.add_mul_mod_self_left,dp hn]
def aAK{n y z:Nat}(hn:n<NM)(h:mu n y=mu n z):y=z:=by rw[<-Gn hn y,h,Gn hn z]
def zy{n:Nat}(hn:n<NM):vO (muR n) (mu n):=by intro y a;unfold muR;rw[se,sP,if_pos rfl,Gn hn,if_pos rfl]
def E6{n s:Nat}{x:Option Nat}(h:muR n s=some x):∃y a,s=inn (mu n y) a/\x=some (inn y a):=by
 unfold muR at h;split at h
 .rename_i h1;split at h
  .rename_i h2;cases h;grind
  .cases h
 .cases h
def vR:List Nat->Nat->Bool
 |[],_=>false
 |x::l,s=>match bF s x with|true=>true|false=>vR l s
def AX{s:Nat}:∀{l:List Nat},vR l s=false->s∉l
 |[],_=>cG
 |x::l,h=>by
  unfold vR at h;cases hb:bF s x with
  |true=>grind
  |false=>
   rw[hb]at h;intro hm;rcases aj.1 hm with rfl|hm
   .simp_all
   .exact AX h hm
def Bj(σ:Sg)(n:Nat):aP->Option (List (Nat×SOb))
 |[] =>some []
 |(y,some ob)::W=>(match nA ob,σ (mu n y),vR (W.map (·.1)) y,Bj σ n W with
  |true,none,false,some l=>some ((mu n y,ob.ren (mu n))::l)
  |_,_,_,_=>none)
 |_::_=>none
def Xr{f:Nat->Nat}{ob:SOb}(h:nA ob=true):nA (ob.ren f)=true:=by
 cases ob<;>first|exact h|skip
 rename_i ty ity t L ov;have:ov=[] :=It.1 h;subst this;rfl
def V6{f:Nat->Nat}{ob:SOb}(h:nA ob=true)(a:Nat):(ob.ren f).inner a=ob.inner a:=by
 cases ob<;>first|rfl|skip
 rename_i ty ity t L ov;have:ov=[] :=It.1 h;subst this;rfl
def Js{σ:Sg}{n:Nat}(hn:n<NM):∀{W:aP} {l:List (Nat×SOb)},Bj σ n W=some l->
  (∀q∈l,nA q.2=true/\σ q.1=none)/\(l.map (·.1)).Nodup/\l.map (·.1)=W.map (λq=>mu n q.1)/\∀z obr,l.lookup z=some obr->∃y ob,z=mu n y/\obr=ob.ren (mu n)/\nA ob=true/\aP.at W y=some ob
 |[],l,h=>by cases h;grind
 |(y,none)::W,l,h=>by cases h
 |(y,some ob)::W,l,h=>by
  unfold Bj at h;split at h<;>cases h;rename_i l' h1 h2 h3 h4;obtain⟨g1,g2,g3,g4⟩:=Js hn h4;have hy:=AX h3;have hnot:mu n y∉l'.map (·.1):=by rw[g3];intro hm;obtain⟨q,hq,e⟩:=bR.1 hm;exact hy (by rw[<-aAK hn e];grind)
  refine⟨λq hq=> ?_,?_,?_,?_⟩
  .rcases aj.1 hq with rfl|hq
   .exact⟨Xr h1,h2⟩
   grind
  .grind
  .grind
  .intro z obr hz;rw[dV]at hz;by_cases e:z=mu n y
   .rw[beq_iff_eq.2 e]at hz;cases hz;exact⟨y,ob,e,rfl,h1,by unfold aP.at;simp_all⟩
   .rw[beq_eq_false_iff_ne.2 e]at hz;obtain⟨y2,ob2,k1,k2,k3,k4⟩:=g4 z obr hz;unfold aP.at;have:bF y2 y=false:=by
     cases hb:bF y2 y with
     |false=>rfl
     |true=>simp_all
    grind
def vV:SV->Option Nat
 | .fnp f [] [] =>some f
 |_=>none
def G5(X:Cx)(n:Nat)(σ:Sg)(fv:SV)(xs:List SV):SR:=match vV fv with
 |none=>none
 |some f=>(match X.T f with
  |some ⟨_,dec,pre,.tree res obs⟩=>(match bK (avs xs),dec xs,iT n NM with
   |some _,some x,true=>(match Bj σ n (obs x)with
    |some l=>some (pre x,(res x).ren (mu n),[],l.map λq=>(q.1,some q.2))
    |none=>none)
   |_,_,_=>none)
  |_=>none)
def Az{fv:SV}{f:Nat}(h:vV fv=some f):fv.av= .p (.fn (.func f) [] []):=by unfold vV at h;split at h<;>cases h;rfl
def mT(P:Program)(n:Nat)(o:Oper)(E:SE)(σ:Sg)(R:SR):Prop:=
 ∀ps r rd W,R=some (ps,r,rd,W)->(∀p∈ps,p)->(∃R' W',bT P o E.a σ.a n r.av R' W'/\bY σ rd W R' W')/\r.ok
def XU{X:Cx}(hX:X.Ok){n:Nat}{o:Oper}{E:SE}{σ:Sg}{c:Call}{f:Operand}(ho:o.op= .call c)(hc:c.callee= .value f):mT X.P n o E σ (vG (G5 X n σ (E f) (c.args.toList.map E))):=by
 intro ps r rd W h hp;obtain⟨h,hr⟩:=Dl h;refine⟨?_,hr⟩;unfold G5 at h;split at h
 .cases h
 rename_i fid hf;split at h
 case h_2=>cases h
 rename_i Y dec pre res obs hT;split at h
 case h_2=>cases h
 rename_i A' x hA' hx hn;split at h<;>cases h;rename_i l hl;have hn:n<NM:=pH hn;obtain⟨A,h1,h2⟩:=hX.1 fid _ hT _ x hx hp;obtain⟨g1,g2,g3,g4⟩:=Js hn hl;have avl:avs (c.args.toList.map E)=c.args.toList.map E.a:=by rw[iy,di];rfl
 refine⟨[],p7 l,?_,bY.news (by grind) g2 (by grind)⟩;have hinner:∀{ob:SOb} {a:Nat} {o':Ob},ob.inner a=some o'->∃(ity:TypeId) (wd:Nat) (q:List PV),wd≠0/\o'=⟨ity,wd,q.map .p⟩:=by
  intro ob a o' hi;cases ob<;>try (cases hi;done)
  rename_i ty ity t L ov;unfold SOb.inner at hi;dsimp only at hi;split at hi
  .cases hi
  .cases hL:L[a]? with
   |none=>grind
   |some r=>rw[hL]at hi;cases hi;exact⟨ity,t.w,_,nZ t.kP,rfl⟩
 have hcls:∀z∈l.map (·.1),ncl z=n:=by intro z hz;rw[g3]at hz;obtain⟨q,_,rfl⟩:=bR.1 hz;exact P8 hn _
 refine Wx (A:=A) (m1:=muR n) ho hc (by exact Az hf) (by rw[<-avl,h1,dS]) h2 ?_ ?_ ⟨?_,?_⟩ ?_ (Nz (zy hn) _)
 .intro s x hs;obtain⟨y,a,rfl,_⟩:=E6 hs;rw[fO,P8 hn]
 .intro s hs;rcases kE s with⟨z,rfl⟩|⟨z,b,rfl⟩|hno
  .rw[wu]at hs|-;refine⟨by rw[show cls (aO z)=ncl z from fO z 0];grind,?_⟩;cases hl2:l.lookup z with
   |none=>grind
   |some ob=>simp
  .rw[xI z b (by grind) g2]at hs|-;refine⟨by rw[fO];grind,?_⟩;cases(l.lookup z).bind (SOb.inner b)<;>simp
  .exact absurd (xP hno l) hs
 .intro s s' o1 e1 e2;obtain⟨y,a,rfl,k1⟩:=E6 e1;obtain⟨y',a',rfl,k2⟩:=E6 e2;rw[mh k1]at k2;obtain⟨rfl,rfl⟩:=fJ (mh k2);rfl
 .intro s ob' hs;dsimp only at hs;rcases kE s with⟨z,rfl⟩|⟨z,b,rfl⟩|hno
  .rw[wu]at hs;cases hl2:l.lookup z with
   |none=>grind
   |some obr=>
    rw[hl2]at hs;cases hs;obtain⟨y,ob,rfl,rfl,k3,k4⟩:=g4 z obr hl2;rw[(zy hn).n y];exact⟨ob.ob y,by rw[Sg.cI,k4];rfl,V7 (zy hn) y k3⟩
  .rw[xI z b (by grind) g2]at hs;cases hl2:l.lookup z with
   |none=>grind
   |some obr=>
    rw[hl2]at hs;obtain⟨y,ob,rfl,rfl,k3,k4⟩:=g4 z obr hl2;have hs:((SOb.inner b (ob.ren (mu n))).map some).join=some ob':=hs;rw[V6 k3]at hs;cases hi:ob.inner b with
    |none=>grind
    |some o'=>
     rw[hi]at hs;cases hs;rw[zy hn y (b+1)];refine⟨ob',by rw[Sg.fX,k4];exact hi,?_⟩;obtain⟨ity,wd,q,_,rfl⟩:=hinner hi;exact⟨rfl,rfl,jt _ q⟩
  .rw[xP hno]at hs;cases hs
 .intro s ob' hs;rcases kE s with⟨z,rfl⟩|⟨z,b,rfl⟩|hno
  .rw[wu]at hs;cases hl2:l.lookup z with
   |none=>grind
   |some obr=>
    rw[hl2]at hs;cases hs;obtain⟨y,ob,rfl,rfl,k3,k4⟩:=g4 z obr hl2;cases ob with
    |box ty cs=>
     intro⟨_,e⟩;subst e;cases k3
    |arr ty ez cs=>
     intro⟨e,_⟩;subst e;cases k3
    |row ty t l=>intro⟨e,_⟩;exact absurd e (nZ t.kP)
    |fam ty ity t L ov=>intro⟨e,_⟩;cases e
    |mp ks=>intro⟨_,e⟩;cases e
  .rw[xI z b (by grind) g2]at hs;cases hb:(l.lookup z).bind (SOb.inner b)with
   |none=>grind
   |some o'=>
    rw[hb]at hs;obtain⟨ob,_,hi⟩:=qT.1 hb;grind
  .rw[xP hno]at hs;cases hs
def kS(f:SV->Option SV):List SV->Option (List SV)
 |[] =>some []
 |x::l=>(match f x,kS f l with|some y,some m=>some (y::m)|_,_=>none)
def ki:Nat->Sg->SV->Option SV
 |_,_,.nil=>some (.sl 0 [])
 |_,_,.own .. =>some .junk
 |_,_,.owns .. =>some .junk
 |_,_,.ownx .. =>some .junk
 |_,_,.owF .. =>some .junk
 |_,_,.ownf .. =>some .junk
 |_,_,.any=>some .junk
 |0,_,.ptr .. =>some .junk
 |d+1,σ,.ptr s off=>(match σ s with
  |some (.box _ cs)=>(match kS (ki d σ) cs with|some m=>some (.pro m off)|none=>none)
  |_=>none)
 |d+1,σ,.agg l=>(match kS (ki d σ) l with|some m=>some (.agg m)|none=>none)
 |d+1,σ,.fn f a b=>(match kS (ki d σ) a,kS (ki d σ) b with|some x,some y=>some (.fnp f x y)|_,_=>none)
 |_,_,x=>(match x.av with| .p _=>some x|_=>none)
def iG:Nat->Sg->SV->List Nat
 |0,_,_=>[]
 |d+1,σ,.ptr s _=>s::(match σ s with|some (.box _ cs)=>bL (iG d σ) cs|_=>[])
 |d+1,σ,.agg l=>bL (iG d σ) l
 |d+1,σ,.fn _ a b=>bL (iG d σ) a++bL (iG d σ) b
 |_,_,_=>[]
def Fj(d:Nat)(σ:Nat->Option Ob)(x:PV):gp d σ (.p x)=some x:=by cases d<;>rfl
def PK(d:Nat)(σ:Nat->Option Ob):∀l:List PV,dj (gp d σ) (l.map .p)=some l
 |[] =>rfl
 |x::l=>by simp only[cv,dj,Fj,PK d σ l]
def Fr(d:Nat)(σ:Nat->Option Ob)(x:PV):fu d σ (.p x)=[] :=by cases d<;>rfl
def Oi(d:Nat)(σ:Nat->Option Ob):∀l:List PV,bL (fu d σ) (l.map .p)=[]
 |[] =>rfl
 |x::l=>by simp only[cv,bL,Fr,Oi d σ l,List.append_nil]
def Tw{d:Nat}{σ:Sg}{x:SV}{y:SV}(h:(match x.av with| .p _=>some x|_=>none)=some y):(∃q,gp d σ.a x.av=some q/\y.av= .p q)/\fu d σ.a x.av=[] :=by split at h<;>cases h;rename_i q e;rw[e];exact⟨⟨q,Fj _ _ _,rfl⟩,Fr _ _ _⟩
def J0{d:Nat}{σ:Sg}{x:SV}{y:SV}(h:(match x.av with| .p _=>some x|_=>none)=some y)(hr:iG d σ x=[]):(∃q,gp d σ.a x.av=some q/\y.av= .p q)/\fu d σ.a x.av=(iG d σ x).map aO:=by rw[hr];exact Tw h
def JOk(d:Nat)(σ:Sg):Prop:=∀x y,ki d σ x=some y->(∃q,gp d σ.a x.av=some q/\y.av= .p q)/\fu d σ.a x.av=(iG d σ x).map aO
def pW{d:Nat}{σ:Sg}(hf:JOk d σ):∀{l m:List SV},kS (ki d σ) l=some m->(∃q,dj (gp d σ.a) (avs l)=some q/\avs m=q.map .p)/\bL (fu d σ.a) (avs l)=(bL (iG d σ) l).map aO
 |[],m,h=>by cases h;exact⟨⟨[],rfl,rfl⟩,rfl⟩
 |x::l,m,h=>by
  unfold kS at h;split at h<;>cases h;rename_i y m' h1 h2;obtain⟨⟨u,e1,e2⟩,e3⟩:=hf x y h1;obtain⟨⟨v,e4,e5⟩,e6⟩:=pW hf h2;refine⟨⟨u::v,?_,by rw[avs,e2,e5];rfl⟩,?_⟩
  .rw[avs,dj,e1,e4]
  .rw[avs,bL,bL,e3,e6,dR]
def zf{σ:Sg}:∀d:Nat,JOk d σ:=by
 intro d;induction d with
 |zero=>
  intro x y h;cases x<;>first
   |(change some (SV.sl 0 [])=some y at h;cases h;exact⟨⟨.sl 0 [],rfl,rfl⟩,rfl⟩)
   |(change some SV.junk=some y at h;cases h;exact⟨⟨.junk,rfl,rfl⟩,rfl⟩)
   |exact J0 h rfl
 |succ d ih=>
  intro x y h;cases x with
  |nil=>cases h;exact⟨⟨.sl 0 [],rfl,rfl⟩,rfl⟩
  |own s t n=>cases h;exact⟨⟨.junk,rfl,rfl⟩,rfl⟩
  |owns s t o n=>cases h;exact⟨⟨.junk,rfl,rfl⟩,rfl⟩
  |ownx s n=>cases h;exact⟨⟨.junk,rfl,rfl⟩,rfl⟩
  |owF s n=>cases h;exact⟨⟨.junk,rfl,rfl⟩,rfl⟩
  |ownf s t a n=>cases h;exact⟨⟨.junk,rfl,rfl⟩,rfl⟩
  |any=>cases h;exact⟨⟨.junk,rfl,rfl⟩,rfl⟩
  |ptr s off=>
   change (match σ s with|some (.box _ cs)=>(match kS (ki d σ) cs with|some m=>some (SV.pro m off)|none=>none)|_=>none)=_ at h;split at h
   case h_2=>cases h
   rename_i ty cs hs;split at h<;>cases h;rename_i m hm;obtain⟨⟨q,e1,e2⟩,e3⟩:=pW ih hm;have e0:Sg.a σ (aO s)=some ⟨ty,0,avs cs⟩:=by rw[Sg.cI,hs];rfl
   refine⟨⟨.pro q off,?_,by show(match bK (avs m)with|some q=>AV.p (.pro q off)|none=> .any)=_;rw[e2,dS]⟩,?_⟩
   .show gp (d+1) (Sg.a σ) (.ptr (aO s) off)=_;unfold gp;grind
   .show fu (d+1) (Sg.a σ) (.ptr (aO s) off)=_;unfold fu iG;grind
  |agg l=>
   change (match kS (ki d σ) l with|some m=>some (SV.agg m)|none=>none)=_ at h;split at h<;>cases h;rename_i m hm;obtain⟨⟨q,e1,e2⟩,e3⟩:=pW ih hm;refine⟨⟨.agg q,?_,by show eJ (avs m)=_;rw[e2,rp]⟩,?_⟩
   .show gp (d+1) (Sg.a σ) (eJ (avs l))=_;unfold eJ;cases hq:bK (avs l)with
    |some q'=>
     rw[iu hq,PK]at e1;cases e1;exact Fj _ _ _
    |none=>unfold gp;rw[e1];rfl
   .show fu (d+1) (Sg.a σ) (eJ (avs l))=(bL (iG d σ) l).map aO;rw[<-e3];unfold eJ;cases hq:bK (avs l)with
    |some q'=>rw[iu hq,Oi];exact Fr _ _ _
    |none=>rfl
  |fn f a b=>
   change (match kS (ki d σ) a,kS (ki d σ) b with|some x,some y=>some (SV.fnp f x y)|_,_=>none)=_ at h;split at h<;>cases h;rename_i x y h1 h2;obtain⟨⟨u,e1,e2⟩,e3⟩:=pW ih h1;obtain⟨⟨v,e4,e5⟩,e6⟩:=pW ih h2;refine⟨⟨.fn (.func f) u v,?_,by show(match bK (avs x),bK (avs y)with|some x,some y=>AV.p (.fn (.func f) x y)|_,_=> .any)=_;rw[e2,e5,dS,dS]⟩,?_⟩
   .show gp (d+1) (Sg.a σ) (.fn (.func f) (avs a) (avs b))=_;unfold gp;grind
   .show bL (fu d σ.a) (avs a)++bL (fu d σ.a) (avs b)=(bL (iG d σ) a++bL (iG d σ) b).map aO;grind
  |_=>exact J0 h rfl
def Je(l:List Nat):inC (l.map aO) (l.map ncl):=by intro s hs;obtain⟨x,hx,rfl⟩:=bR.1 hs;rw[show cls (aO x)=ncl x from fO x 0];grind
def rD:LT->Bool
 | .R| .Q=>false
 |_=>true
def EU{t:LT}(h:rD t=true)(l:List t.ty):(t.enc l).all flat1=true:=by
 refine bf.2 λx hx=> ?_;obtain⟨e,_,hx⟩:=cQ.1 hx;cases t<;>first|(cases h;done)|skip
 all_goals (simp[LT.rowP]at hx;rcases hx with rfl|rfl|rfl|rfl<;>rfl)
def bY.rset{σ:Sg}{z a:Nat}{ty ity:TypeId}{lt:LT}{L:List (List lt.ty)}{ov:List (Nat×SV)}{l':List lt.ty}{rd R:List Nat}(hs:σ z=some (.fam ty ity lt L ov))(ho:ov.lookup a=none)(ha:a<L.length)(hl:l'.length=(L.getD a []).length)(hR:inC R (rd.map ncl)):
  bY σ rd [(z,some (.fam ty ity lt (L.set a l') ov))] R [(inn z (a+1),some ⟨ity,lt.w,(lt.enc l').map .p⟩)] :=by
 refine⟨hR,λs hm=> ?_,?_⟩
 .have hm:s=inn z (a+1):=by simpa using hm
  subst hm;rw[fO];grind
 .funext s
  unfold ai;rcases kE s with⟨y,rfl⟩|⟨y,b,rfl⟩|hno
  .rw[Sg.cI,Sg.cI,dV,beq_eq_false_iff_ne.2 (show aO y≠inn z (a+1)from λh=>by have:=(fJ h).2;omega)];unfold aP.up;rw[dV];by_cases e:y=z
   .subst e;rw[beq_iff_eq.2 rfl,hs];show some (⟨ty,1,_⟩:Ob)=some ⟨ty,1,_⟩
    congr 2
    rw[y8];unfold il;grind
   grind
  .rw[Sg.fX,Sg.fX,dV];unfold aP.up;rw[dV];by_cases e:y=z
   .subst e;rw[beq_iff_eq.2 rfl,hs];by_cases hb:b=a
    .subst hb;rw[beq_iff_eq.2 rfl];unfold SOb.inner;grind
    .rw[beq_eq_false_iff_ne.2 (show inn y (b+1)≠inn y (a+1)from λh=>hb (by have:=(fJ h).2;omega))];unfold SOb.inner;grind
   .rw[beq_eq_false_iff_ne.2 e,beq_eq_false_iff_ne.2 (show inn y (b+1)≠inn z (a+1)from λh=>e (fJ h).1)];rfl
  .rw[Sg.jj _ hno,Sg.jj _ hno,dV,beq_eq_false_iff_ne.2 (hno z (a+1))];rfl
def G7(X:Cx)(n:Nat)(σ:Sg)(fv:SV)(xs:List SV):SR:=match vV fv with
 |none=>none
 |some f=>(match X.T f with
  |some ⟨_,dec,pre,.rowB t ty l'⟩=>(match xs with
   | .own s _ m::rest=>(match σ s,kS (ki 3 σ) rest,frs σ n,vR (bL (iG 3 σ) rest) s with
     |some (.row ty' t' l),some bs,true,false=>(match decEq t' t,bF ty' ty with
      | .isTrue h,true=>(match dec (.lst t (h▸l)::bs)with
        |some x=>some ((m=l.length)::(0<m)::pre x,.own n t (l' x).length,s::bL (iG 3 σ) rest,[(s,none),(n,some (.row ty t (l' x)))])
        |none=>none)
      |_,_=>none)
     |_,_,_,_=>none)
   | .ownf z _ a m::rest=>(match σ z,kS (ki 3 σ) rest,frs σ n with
     |some (.fam tyo ity t' L ov),some bs,true=>(match decEq t' t,bF ity ty with
      | .isTrue h,true=>(match dec (.lst t ((h▸L:List (List t.ty)).getD a [])::bs)with
        |some x=>some ((a<L.length)::(m=(L.getD a []).length)::(0<m)::(mP ov a++pre x),.own n t (l' x).length,z::bL (iG 3 σ) rest,[(z,some (.fam tyo ity t' L ((a,.ownf z t' a m)::ov))),(n,some (.row ty t (l' x)))])
        |none=>none)
      |_,_=>none)
     |_,_,_=>none)
   |_=>none)
  |_=>none)
def Yl(x:SV)(l:List SV):avs (x::l)=x.av::avs l:=rfl
def XX{X:Cx}(hX:X.Ok){n:Nat}{o:Oper}{E:SE}{σ:Sg}{c:Call}{f:Operand}(ho:o.op= .call c)(hc:c.callee= .value f):mT X.P n o E σ (G7 X n σ (E f) (c.args.toList.map E)):=by
 intro ps r rd W h hp;unfold G7 at h;split at h
 .cases h
 rename_i fid hf;split at h
 case h_2=>cases h
 rename_i Y dec pre t ty l' hT;have hfv:E.a f= .p (.fn (.func fid) [] []):=Az hf;have avl:c.args.toList.map E.a=avs (c.args.toList.map E):=by rw[iy,di];rfl
 have hC:=hX.1 fid _ hT;split at h
 .rename_i s lt m rest hxs;split at h
  case h_2=>cases h
  rename_i ty' t' l bs hs hbs hfr hmem;split at h
  case h_2=>cases h
  rename_i ht hty hb;subst ht;split at h<;>cases h;rename_i x hx;have hb:=dK hb;subst hb;have e1:m=l.length:=hp _ (by grind);have e2:0<m:=hp _ (by grind);obtain⟨A,h1,h2⟩:=hC l bs x hx (by grind);obtain⟨⟨q,k1,k2⟩,k3⟩:=pW (zf 3) hbs;have hqA:q=A:=by have:=congrArg bK (k2.symm.trans h1);rw[dS,dS]at this;cases this;rfl
  subst hqA;obtain⟨hn1,hn2⟩:=mC hfr;subst e1;refine⟨⟨(s::bL (iG 3 σ) rest).map aO,aP.sto [(s,none),(n,some (.row ty' t' (l' x)))],?_,?_⟩,trivial⟩
  rotate_left
  .exact bY.flat (rd:=s::bL (iG 3 σ) rest) (W:=[(s,none),(n,some (.row ty' t' (l' x)))]) λq hq=>by
    rcases aj.1 hq with rfl|hq
    .rw[hs];exact⟨rfl,rfl⟩
    .rw[bZ.1 hq,hn2];exact⟨rfl,rfl⟩
  have:=Lo (σ:=σ.a) (n:=n) (k:=l.length) (s:=aO s) (rest:=avs rest) (A:=q) ho hc hfv (by rw[avl,hxs];rfl) (by rw[Sg.cI,hs];rfl) (nZ t'.kP) e2 k1 (by rw[k3];intro hm;obtain⟨y,hy,e⟩:=bR.1 hm;exact AX hmem (by rw[<-k8 e];exact hy)) h2
  rw[k3]at this;show bT _ _ _ _ _ _ (aO s::_) [(aO s,none),(aO n,some _)];show bT _ _ _ _ _ (.own (aO n) 0 _) _ _;rw[hn1];exact this
 .rename_i z lt a m rest hxs;split at h
  case h_2=>cases h
  rename_i tyo ity t' L ov bs hs hbs hfr;split at h
  case h_2=>cases h
  rename_i ht hty hb;subst ht;split at h<;>cases h;rename_i x hx;have hb:=dK hb;subst hb;have e0:a<L.length:=hp _ (by grind);have e1:m=(L.getD a []).length:=hp _ (by grind);have e2:0<m:=hp _ (by grind);have hov:ov.lookup a=none:=rt λp hq=>hp p (by grind);obtain⟨A,h1,h2⟩:=hC _ bs x hx (λp hq=>hp p (by grind));obtain⟨⟨q,k1,k2⟩,k3⟩:=pW (zf 3) hbs;have hqA:q=A:=by have:=congrArg bK (k2.symm.trans h1);rw[dS,dS]at this;cases this;rfl
  subst hqA;obtain⟨hn1,hn2⟩:=mC hfr;have hob:Sg.a σ (inn z (a+1))=some ⟨ity,t'.w,(t'.enc (L.getD a [])).map .p⟩:=by rw[Sg.fX,hs];show SOb.inner a (.fam tyo ity t' L ov)=_;unfold SOb.inner;dsimp only;rw[hov,dw,fA e0];rfl
  refine⟨⟨inn z (a+1)::bL (fu 3 σ.a) (avs rest),_,?_,bY.take (n:=n) (ob:= .row ity t' (l' x)) hs hov e1 hn2 rfl ?_⟩,trivial⟩
  .have:=Lo (σ:=σ.a) (n:=n) (k:=m) (s:=inn z (a+1)) (rest:=avs rest) (A:=q) ho hc hfv (by rw[avl,hxs];rfl) hob (nZ t'.kP) e2 k1 (by rw[k3];intro hm;obtain⟨y,hy,e⟩:=bR.1 hm;have:=(fJ e).2;omega) (by rw[e1];exact h2)
   show bT _ _ _ _ _ (.own (aO n) 0 _) _ [(inn z (a+1),none),(aO n,some _)];rw[hn1];exact this
  .intro t ht;rcases aj.1 ht with rfl|ht
   .rw[fO];grind
   .rw[k3]at ht;exact bk _ (Je _ t ht)
 .cases h
def G6(X:Cx)(σ:Sg)(fv:SV)(xs:List SV):SR:=match vV fv with
 |none=>none
 |some f=>(match X.T f with
  |some ⟨_,dec,pre,.mutR t ty l'⟩=>(match(match rD t with|true=>xs|false=>[])with
   | .own s _ m::rest=>(match σ s,kS (ki 3 σ) rest,vR (bL (iG 3 σ) rest) s with
     |some (.row ty' t' l),some bs,false=>(match decEq t' t,bF ty' ty with
      | .isTrue h,true=>(match dec (.lst t (h▸l)::bs)with
        |some x=>some ((m=l.length)::(0<m)::pre x,.undef,s::bL (iG 3 σ) rest,[(s,some (.row ty t (l' x)))])
        |none=>none)
      |_,_=>none)
     |_,_,_=>none)
   | .ownf z _ a m::rest=>(match σ z,kS (ki 3 σ) rest with
     |some (.fam tyo ity t' L ov),some bs=>(match decEq t' t,bF ity ty with
      | .isTrue h,true=>(match dec (.lst t ((h▸L:List (List t.ty)).getD a [])::bs)with
        |some x=>some ((a<L.length)::(m=(L.getD a []).length)::(0<m)::(mP ov a++pre x),.undef,z::bL (iG 3 σ) rest,[(z,some (.fam tyo ity t ((h▸L:List (List t.ty)).set a (l' x)) ov))])
        |none=>none)
      |_,_=>none)
     |_,_=>none)
   |_=>none)
  |_=>none)
def XW{X:Cx}(hX:X.Ok){n:Nat}{o:Oper}{E:SE}{σ:Sg}{c:Call}{f:Operand}(ho:o.op= .call c)(hc:c.callee= .value f):mT X.P n o E σ (G6 X σ (E f) (c.args.toList.map E)):=by
 intro ps r rd W h hp;unfold G6 at h;split at h
 .cases h
 rename_i fid hf;split at h
 case h_2=>cases h
 rename_i Y dec pre t ty l' hT;have hfv:E.a f= .p (.fn (.func fid) [] []):=Az hf;have avl:c.args.toList.map E.a=avs (c.args.toList.map E):=by rw[iy,di];rfl
 have hC:=hX.1 fid _ hT;have hfl:rD t=true/\(match rD t with|true=>c.args.toList.map E|false=>[])=c.args.toList.map E\/(match rD t with|true=>c.args.toList.map E|false=>[])=[] :=by
  cases rD t
  .grind
  .grind
 generalize (match rD t with|true=>c.args.toList.map E|false=>[])=ys at h hfl;rcases hfl with⟨hfl,rfl⟩|rfl
 rotate_left
 .cases h
 split at h
 .rename_i s lt m rest hxs;split at h
  case h_2=>cases h
  rename_i ty' t' l bs hs hbs hmem;split at h
  case h_2=>cases h
  rename_i ht hty hb;subst ht;split at h<;>cases h;rename_i x hx;have hb:=dK hb;subst hb;have e1:m=l.length:=hp _ (by grind);have e2:0<m:=hp _ (by grind);obtain⟨A,h1,h2⟩:=hC l bs x hx (by grind);obtain⟨⟨q,k1,k2⟩,k3⟩:=pW (zf 3) hbs;have hqA:q=A:=by have:=congrArg bK (k2.symm.trans h1);rw[dS,dS]at this;cases this;rfl
  subst hqA;subst e1;refine⟨⟨(s::bL (iG 3 σ) rest).map aO,aP.sto [(s,some (.row ty' t' (l' x)))],?_,?_⟩,trivial⟩
  rotate_left
  .exact bY.flat (rd:=s::bL (iG 3 σ) rest) (W:=[(s,some (.row ty' t' (l' x)))]) λq hq=>by rw[bZ.1 hq,hs];exact⟨rfl,rfl⟩
  have:=Lm (σ:=σ.a) (n:=n) (k:=l.length) (s:=aO s) (rest:=avs rest) (A:=q) ho hc hfv (by rw[avl,hxs];rfl) (by rw[Sg.cI,hs];rfl) (nZ t'.kP) e2 k1 (by rw[k3];intro hm;obtain⟨y,hy,e⟩:=bR.1 hm;exact AX hmem (by rw[<-k8 e];exact hy)) (EU hfl _) h2
  rw[k3]at this;exact this
 .rename_i z lt a m rest hxs;split at h
  case h_2=>cases h
  rename_i tyo ity t' L ov bs hs hbs;split at h
  case h_2=>cases h
  rename_i ht hty hb;subst ht;split at h<;>cases h;rename_i x hx;have hb:=dK hb;have e0:a<L.length:=hp _ (by grind);have e1:m=(L.getD a []).length:=hp _ (by grind);have e2:0<m:=hp _ (by grind);have hov:ov.lookup a=none:=rt λp hq=>hp p (by grind);obtain⟨A,h1,h2⟩:=hC _ bs x hx (λp hq=>hp p (by grind));obtain⟨⟨q,k1,k2⟩,k3⟩:=pW (zf 3) hbs;have hqA:q=A:=by have:=congrArg bK (k2.symm.trans h1);rw[dS,dS]at this;cases this;rfl
  have hob:Sg.a σ (inn z (a+1))=some ⟨ity,t'.w,(t'.enc (L.getD a [])).map .p⟩:=by rw[Sg.fX,hs];show SOb.inner a (.fam tyo ity t' L ov)=_;unfold SOb.inner;dsimp only;rw[hov,dw,fA e0];rfl
  have hlen:(l' x).length=(L.getD a []).length:=by have:=h2.2.1;rw[t'.wide.length,t'.wide.length]at this;exact Nat.eq_of_mul_eq_mul_right t'.kP this
  refine⟨⟨inn z (a+1)::bL (fu 3 σ.a) (avs rest),_,?_,bY.rset (l':=l' x) hs hov e0 hlen ?_⟩,trivial⟩
  .exact Lm (σ:=σ.a) (n:=n) (k:=m) (s:=inn z (a+1)) (rest:=avs rest) (A:=q) ho hc hfv (by rw[avl,hxs];rfl) hob (nZ t'.kP) e2 k1 (by rw[k3];intro hm;obtain⟨y,hy,e⟩:=bR.1 hm;have:=(fJ e).2;omega) (EU hfl _) (by grind)
  .intro t ht;rcases aj.1 ht with rfl|ht
   .rw[fO];grind
   .rw[k3]at ht;exact bk _ (Je _ t ht)
 .cases h
def Bs:SV->Option (Nat×Nat)
 | .agg l=>LT.P.dec l
 |_=>none
def j8(k:Nat×Nat):List Int:=[(k.1:Int),(k.2:Int)]
def MX{x:SV}{k:Nat×Nat}(h:Bs x=some k):x.av= .p (.agg (kn (j8 k))):=by
 unfold Bs at h;split at h
 .have:=LT.yJ h;show eJ (avs _)=_;rw[this,rp];rfl
 .cases h
def kT(ks:List (Nat×Nat))(k:Nat×Nat):List (Nat×Nat):=if k∈ks then ks else ks++[k]
def Mq{k l:Nat×Nat}(h:j8 k=j8 l):k=l:=by unfold j8 at h;grind
def Kl(k:Nat×Nat):∀ks:List (Nat×Nat),oO (gW ks) (j8 k) (.p (.bool false))= .p (.bool (decide (k∈ks)))
 |[] =>rfl
 |l::ks=>by
  show(if j8 l=j8 k then AV.p (.bool true)else oO (gW ks) (j8 k) (.p (.bool false)))=_;by_cases e:l=k
  .grind
  .rw[if_neg (λh=>e (Mq h)),Kl k ks];grind
def MA(k:Nat×Nat):∀ks:List (Nat×Nat),j6 (gW ks) (j8 k) (.p (.bool true))=gW (kT ks k)
 |[] =>rfl
 |l::ks=>by
  show(if j8 l=j8 k then(j8 k,AV.p (.bool true))::gW ks else(j8 l,AV.p (.bool true))::j6 (gW ks) (j8 k) (.p (.bool true)))=_;by_cases e:l=k
  .subst e;rw[if_pos rfl];unfold kT;rw[if_pos (by grind)];rfl
  .rw[if_neg (λh=>e (Mq h)),MA k ks];have:k≠l:=λh=>e h.symm;unfold kT;by_cases h2:k∈ks
   .rw[if_pos h2,if_pos (by grind)];rfl
   .rw[if_neg h2,if_neg (by grind)];rfl
def Km{ks:List (Nat×Nat)}(h:ks.Nodup):rO (gW ks):=by unfold rO gW;grind
def MB{ks:List (Nat×Nat)}:∀q∈gW ks,q.1.length=2:=by intro q hq;obtain⟨k,_,rfl⟩:=bR.1 hq;rfl
def smk(X:Cx)(n:Nat)(σ:Sg)(t:TypeId):SR:=match X.mt t,frs σ n with
 |true,true=>some ([],.mp n,[],[(n,some (.mp []))])
 |_,_=>none
def aAq{X:Cx}{n:Nat}{o:Oper}{E:SE}{σ:Sg}{t:TypeId}(ho:o.op= .makeMap t none):mT X.P n o E σ (smk X n σ t):=by intro ps r rd W h hp;unfold smk at h;split at h<;>cases h;rename_i h1 h2;obtain⟨hn1,hn2⟩:=mC h2;refine⟨⟨[],aP.sto [(n,some (.mp []))],?_,bY.flat (rd:=[]) (W:=[(n,some (.mp []))]) λq hq=>by rw[bZ.1 hq,hn2];exact⟨rfl,rfl⟩⟩,trivial⟩;have:=T9 (P:=X.P) (E:=E.a) (σ:=σ.a) (n:=n) ho;show bT _ _ _ _ _ (.mp (aO n)) _ [(aO n,some ⟨1,0,[]⟩)];grind
def HF(X:Cx)(σ:Sg)(t:TypeId)(x i:SV):SR:=match X.mt t,x,Bs i with
 |true,.mp s,some k=>(match σ s with
  |some (.mp ks)=>some ([ks.Nodup],.prop (k∈ks) inferInstance,[s],[])
  |_=>none)
 |_,_,_=>none
def Xe{X:Cx}(hX:X.Ok){n:Nat}{o:Oper}{E:SE}{σ:Sg}{t:TypeId}{x i:Operand}(ho:o.op= .lookup t x i false):mT X.P n o E σ (HF X σ t (E x) (E i)):=by
 intro ps r rd W h hp;unfold HF at h;split at h
 case h_2=>cases h
 rename_i s k hmt hx hi;split at h<;>cases h;rename_i ks hs;obtain⟨kt,et,g1,g2,g3⟩:=hX.2.2 t hmt;have hnd:ks.Nodup:=hp _ (by grind);refine⟨⟨[s].map aO,[],?_,bY.read σ [s]⟩,trivial⟩;have:=Ux (E:=E.a) (σ:=σ.a) (n:=n) (m:=2) (s:=aO s) (ks:=gW ks) (xs:=j8 k) (z:= .p (.bool false)) (zv:= .bool false) ho g1 g2 g3 (λρ C=>by rfl) (by show(E x).av=_;rw[hx];rfl) (by exact MX hi) rfl (by rw[Sg.cI,hs];rfl) MB (Km hnd);rw[Kl]at this;exact this
def Hr(X:Cx)(σ:Sg)(t:TypeId)(x i y:SV):SR:=match X.mt t,x,Bs i,y with
 |true,.mp s,some k,.lit true=>(match σ s with
  |some (.mp ks)=>some ([ks.Nodup],.undef,[s],[(s,some (.mp (kT ks k)))])
  |_=>none)
 |_,_,_,_=>none
def Yw{X:Cx}(hX:X.Ok){n:Nat}{o:Oper}{E:SE}{σ:Sg}{t:TypeId}{x i y:Operand}(ho:o.op= .mapUpdate t x i y):mT X.P n o E σ (Hr X σ t (E x) (E i) (E y)):=by
 intro ps r rd W h hp;unfold Hr at h;split at h
 case h_2=>cases h
 rename_i s k hmt hx hi hy;split at h<;>cases h;rename_i ks hs;obtain⟨kt,et,g1,g2,g3⟩:=hX.2.2 t hmt;have hnd:ks.Nodup:=hp _ (by grind);refine⟨⟨[s].map aO,aP.sto [(s,some (.mp (kT ks k)))],?_,bY.flat (rd:=[s]) (W:=[(s,some (.mp (kT ks k)))]) λq hq=>by rw[bZ.1 hq,hs];exact⟨rfl,rfl⟩⟩,trivial⟩;have:=TR (E:=E.a) (σ:=σ.a) (n:=n) (m:=2) (s:=aO s) (ks:=gW ks) (xs:=j8 k) ho g1 g2 (by show(E x).av=_;rw[hx];rfl) (by exact MX hi) rfl (by rw[Sg.cI,hs];rfl) MB (Km hnd);rw[show E.a y= .p (.bool true)from by show(E y).av=_;rw[hy];rfl,MA]at this;exact this
def orS(a b:SR):SR:=match a with
 |some x=>some x
 |none=>b
def BS{P:Program}{n:Nat}{o:Oper}{E:SE}{σ:Sg}{a b:SR}(ha:mT P n o E σ a)(hb:mT P n o E σ b):mT P n o E σ (orS a b):=by
 intro ps r rd W h hp;cases a with
 |some x=>exact ha ps r rd W h hp
 |none=>exact hb ps r rd W h hp
def HB(X:Cx)(n:Nat)(σ:Sg)(fv:SV)(xs:List SV):SR:=match vV fv with
 |none=>none
 |some f=>(match X.T f with
  |some ⟨_,dec,pre,.own ty t l ys⟩=>(match j7 (kR 3 σ) xs with
   |some (qs,bs)=>(match dec bs,frs σ n,rD t with
    |some x,true,true=>(match ys x with
     |[] =>some (qs++pre x,.own n t (l x).length,bL (dP 3 σ) xs,[(n,some (.row ty t (l x)))])
     |_=>none)
    |_,_,_=>none)
   |none=>none)
  |_=>none)
def XZ{X:Cx}(hX:X.Ok){n:Nat}{o:Oper}{E:SE}{σ:Sg}{c:Call}{f:Operand}(ho:o.op= .call c)(hc:c.callee= .value f):mT X.P n o E σ (HB X n σ (E f) (c.args.toList.map E)):=by
 intro ps r rd W h hp;unfold HB at h;split at h
 .cases h
 rename_i fid hf;split at h
 case h_2=>cases h
 rename_i Y dec pre ty t l ys hT;split at h
 case h_2=>cases h
 rename_i qs bs hbs;split at h
 case h_2=>cases h
 rename_i x hx hfr hfl;split at h<;>cases h;rename_i hys;have avl:c.args.toList.map E.a=avs (c.args.toList.map E):=by rw[iy,di];rfl
 obtain⟨A,Y2,h1,h2,h3⟩:=hX.1 fid _ hT bs x hx (λp hq=>hp p (by grind));obtain⟨q,k1,k2⟩:=xj (λx ps y=>Er) hbs (λp hq=>hp p (by grind));have hqA:q=A:=by have:=congrArg bK (k2.symm.trans h1);rw[dS,dS]at this;cases this;rfl
 subst hqA;have hY:Y2=[] :=by
  rw[hys]at h2;cases Y2 with
  |nil=>rfl
  |cons y Y2=>cases h2
 subst hY;obtain⟨hn1,hn2⟩:=mC hfr;have:=W2 (σ:=σ.a) (n:=n) ho hc (Az hf) (by rw[avl];exact k1) (EU hfl _) h3;rw[avl]at this;refine⟨⟨_,aP.sto [(n,some (.row ty t (l x)))],?_,⟨ql (N4 3) _,(bY.flat (rd:=[]) (W:=[(n,some (.row ty t (l x)))]) λq hq=>by rw[bZ.1 hq,hn2];exact⟨rfl,rfl⟩).2⟩⟩,trivial⟩;show bT _ _ _ _ _ (.own (aO n) 0 _) _ [(aO n,some _)];rw[hn1];exact this
def Hs(X:Cx)(n:Nat)(o:Op)(E:SE)(σ:Sg):SR:=match o with
 | .call {callee:= .value f,args, .. }=>orS (vG (G5 X n σ (E f) (args.toList.map E))) (orS (G7 X n σ (E f) (args.toList.map E)) (orS (G6 X σ (E f) (args.toList.map E)) (HB X n σ (E f) (args.toList.map E))))
 | .makeMap t none=>smk X n σ t
 | .lookup t x i false=>HF X σ t (E x) (E i)
 | .mapUpdate t x i y=>Hr X σ t (E x) (E i) (E y)
 |_=>none
def Yz{X:Cx}(hX:X.Ok){n:Nat}{o:Oper}{E:SE}{σ:Sg}:mT X.P n o E σ (Hs X n o.op E σ):=by
 generalize ho:o.op=op;unfold Hs;split
 .exact BS (XU hX ho rfl) (BS (XX hX ho rfl) (BS (XW hX ho rfl) (XZ hX ho rfl)))
 .exact aAq ho
 .exact Xe hX ho
 .exact Yw hX ho
 .intro ps r rd W h hp;cases h
def Rx(X:Cx)(raw:Bool)(n:Nat)(o:Op)(E:SE)(σ:Sg):SR:=orS (sop X raw n o E σ) (Hs X n o E σ)
def Yy{X:Cx}(hX:X.Ok){raw:Bool}{n:Nat}{o:Oper}{E:SE}{σ:Sg}(hE:∀x,(E x).ok):mT X.P n o E σ (Rx X raw n o.op E σ):=by refine BS ?_ (Yz hX);intro ps r rd W h hp;obtain⟨h1,h2⟩:=aAp hX hE h hp;obtain⟨r',R',W',h3,rfl,h4⟩:=W9 h1;grind
end
noncomputable section
def jG{P:Program}{N:Nat}{ds:List (Option Nat)}{K K':List AV->Sto->i7->Prop}(hK:∀F L log,K F L log->K' F L log):∀{l:List Oper} {i:Nat} {F:List AV} {L:Sto} {log:i7},eR P N ds l i F L log K->eR P N ds l i F L log K'
 |[],i,F,L,log,h=>by unfold eR at*;grind
 |o::rest,i,F,L,log,h=>by
  unfold eR at*;split at h
  .obtain⟨r,R,W,Rc,Wc,h1,i1,i2,h2⟩:=h;exact⟨r,R,W,Rc,Wc,h1,i1,i2,jG hK h2⟩
  .split at h
   .split at h
    .rename_i e;rw[if_pos e];obtain⟨r,R,W,Rc,Wc,h1,i1,i2,h2⟩:=h;exact⟨r,R,W,Rc,Wc,h1,i1,i2,jG hK h2⟩
    .rename_i e;rw[if_neg e];exact jG hK h
   .exact jG hK h
   .exact h
def tQ.mono{P:Program}{o:Oper}{F:List AV}{L:Sto}{N:Nat}{K K':List AV->Sto->Nat->Prop}(hK:∀F L N,K F L N->K' F L N)(h:tQ P o F L N K):tQ P o F L N K':=
 λC0 B wI a w hS=>zY (h C0 B wI a w hS) λ_ _ ⟨F',L',N',h1,h2⟩=>⟨F',L',N',hK _ _ _ h1,h2⟩
def mw{P:Program}:∀(c:Code) {Q Q':oU} (_:∀e F L N,Q e F L N->Q' e F L N) {F:List AV} {L:Sto} {N:Nat},awp P c Q F L N->awp P c Q' F L N:=by
 intro c;induction c with
 |skip=>intro Q Q' hQ F L N h;exact hQ _ _ _ _ h
 |region id ops draw=>
  intro Q Q' hQ F L N h;rcases h with h|⟨hd,pre,o,h1,h2,h3⟩
  rotate_left
  .exact .inr ⟨hd,pre,o,h1,h2,jG (λF L log a=>a.mono λF L N=>hQ _ _ _ _) h3⟩
  cases draw with
  |true=>obtain⟨anc,h1,h2,h3,h4⟩:=h;exact .inl ⟨anc,h1,h2,h3,jG (λF L log ⟨a,b⟩=>⟨a,hQ _ _ _ _ b⟩) h4⟩
  |false=>obtain⟨h1,h2⟩:=h;exact .inl ⟨h1,jG (λF L log a=>hQ _ _ _ _ a) h2⟩
 |seq a b iha ihb=>
  intro Q Q' hQ F L N h;obtain⟨M,h1,h2⟩:=h;refine⟨M,iha ?_ h1,λF L N hm=> ?_⟩
  .grind
  grind
 |cond c t e iht ihe=>
  intro Q Q' hQ F L N h;obtain⟨b,hb,h1,h2⟩:=h;exact⟨b,hb,λe=>iht hQ (h1 e),λe=>ihe hQ (h2 e)⟩
 |block id c ih=>
  intro Q Q' hQ F L N h;refine ih ?_ h;grind
 |loop c ih=>
  intro Q Q' hQ F L N h;obtain⟨Inv,μ,h1,h2⟩:=h;refine⟨Inv,μ,h1,λF L N hi=>ih ?_ (h2 F L N hi)⟩;grind
 |exit id=>intro Q Q' hQ F L N h;exact hQ _ _ _ _ h
 |ret=>intro Q Q' hQ F L N h;exact hQ _ _ _ _ h
 |rangeFunc f params x y _ _=>intro Q Q' hQ F L N h;exact h.elim
 |scope c ih=>
  intro Q Q' hQ F L N h;refine ih ?_ h;grind
 |label l=>intro Q Q' hQ F L N h;exact hQ _ _ _ _ h
 |goto l=>intro Q Q' hQ F L N h;exact h.elim
 |refuse s=>intro Q Q' hQ F L N h;exact h.elim
def Frm.ok(F:Frm):Prop:=∀t,(F.at t).ok
def aAl(v:Value):(svC v).ok:=by
 unfold svC;split
 .split<;>trivial
 .split<;>trivial
 .unfold svK;split<;>trivial
def YW{n:Nat}{F:Frm}(h:F.ok)(x:Operand):(tG n F x).ok:=by
 cases x with
 |tmp t=>
  show(match iT t n with|true=>F.at t|false=>SV.any).ok;split
  .exact h t
  .trivial
 |const v=>exact aAl v
 |func f=>trivial
 |global g=>trivial
def Frm.OM{F:Frm}(h:F.ok){d:Nat}{v:SV}(hv:v.ok):Frm.ok ((d,v)::F):=by
 intro t;rw[Frm.lJ];split
 .exact hv
 .exact h t
def oW(n:Nat)(F:Frm)(d:Option Nat)(r:SV):Frm:=match d with
 |none=>F
 |some d=>(match iT d n with|true=>(d,r)::F|false=>F)
def jv(a b:Nat):iT a b=true↔a<b:=by simp_all
def W5{a b:Nat}(h:iT a b=false):¬a<b:=λhh=>by rw[(jv a b).2 hh]at h;cases h
def Ft{n:Nat}{F:Frm}{d:Option Nat}{r:SV}:eK (F.av n) d r.av=(oW n F d r).av n:=by
 cases d with
 |none=>rfl
 |some d=>
  unfold oW;dsimp only;split
  .rename_i h;exact Frm.aA3 ((jv _ _).1 h)
  .rename_i h;unfold eK;dsimp only;rw[List.set_eq_of_length_le (by rw[Frm.jE];exact Nat.le_of_not_lt (W5 h))]
def Pre(S:Nat->Prop)(F F':Frm):Prop:=∃pre:Frm,F'=pre++F/\∀q∈pre,S q.1
def gZ(L L':aP):Prop:=∃pre:aP,L'=pre++L
def Pre.rfl{S:Nat->Prop}{F:Frm}:Pre S F F:=⟨[],by simp,λq h=>by cases h⟩
def Pre.trans{S:Nat->Prop}{F G H:Frm}(h1:Pre S F G)(h2:Pre S G H):Pre S F H:=by obtain⟨p,rfl,hp⟩:=h1;obtain⟨q,rfl,hq⟩:=h2;exact⟨q++p,by simp,λr hr=>by grind⟩
def Pre.mono{S T:Nat->Prop}{F G:Frm}(h1:Pre S F G)(h:∀d,S d->T d):Pre T F G:=by obtain⟨p,e,hp⟩:=h1;exact⟨p,e,λq hq=>h _ (hp q hq)⟩
def gZ.rfl{L:aP}:gZ L L:=⟨[],by simp⟩
def gZ.trans{L M O:aP}(h1:gZ L M)(h2:gZ M O):gZ L O:=by obtain⟨p,rfl⟩:=h1;obtain⟨q,rfl⟩:=h2;exact⟨q++p,by simp⟩
def E0{n:Nat}{F:Frm}{d:Option Nat}{r:SV}{S:Nat->Prop}(h:∀t,d=some t->S t):Pre S F (oW n F d r):=by
 cases d with
 |none=>exact Pre.rfl
 |some d=>
  unfold oW;dsimp only;split
  .exact⟨[(d,r)],by simp,λq hq=>by grind⟩
  .exact Pre.rfl
def Fs{n:Nat}{F:Frm}{d:Option Nat}{r:SV}(h:F.ok)(hr:r.ok):(oW n F d r).ok:=by
 cases d with
 |none=>exact h
 |some d=>
  unfold oW;dsimp only;split
  .exact Frm.OM h hr
  .exact h
def og(X:Cx)(n:Nat)(raw:Bool)(N i:Nat)(o:Oper)(F:Frm)(L:aP)(log:i7)(k:Frm->aP->i7->Fm):Fm:=match Rx X raw (N+i) o.op (tG n F) L.at with
 |some (ps,r,R,W)=>rA ps (k (oW n F o.dst r) (W++L) (log++[(R.map ncl,W.map λ(q:Nat×Option SOb)=>ncl q.1)]))
 |none=> .stuck i
def nO(n:Nat)(o:Oper)(F:Frm)(L:aP)(log:i7)(k:Frm->aP->i7->Fm):Fm:=k (oW n F o.dst .undef) L (log++[([],[])])
def gP(X:Cx)(n:Nat)(raw:Nat->Bool)(N:Nat)(ds:List (Option Nat)):List Oper->Nat->Frm->aP->i7->(Frm->aP->i7->Fm)->Fm
 |[],_,F,L,log,K=>K F L log
 |o::rest,i,F,L,log,K=>match o.guard with
  |none=>og X n (raw i) N i o F L log λF L log=>gP X n raw N ds rest (i+1) F L log K
  |some (j,want)=>(match(ds[j]?).join with
   |some d=>(match iT d n,F.at d with
    |true,.lit b=>(match b,want with
     |true,false=>nO n o F L log λF L log=>gP X n raw N ds rest (i+1) F L log K
     |false,true=>nO n o F L log λF L log=>gP X n raw N ds rest (i+1) F L log K
     |_,_=>og X n (raw i) N i o F L log λF L log=>gP X n raw N ds rest (i+1) F L log K)
    |true,.undef=>nO n o F L log λF L log=>gP X n raw N ds rest (i+1) F L log K
    |true,.prop p _=> .both
     (.imp p (match want with
       |true=>og X n (raw i) N i o ((d,.lit true)::F) L log λF L log=>gP X n raw N ds rest (i+1) F L log K
       |false=>nO n o ((d,.lit true)::F) L log λF L log=>gP X n raw N ds rest (i+1) F L log K))
     (.imp (¬p) (match want with
       |false=>og X n (raw i) N i o ((d,.lit false)::F) L log λF L log=>gP X n raw N ds rest (i+1) F L log K
       |true=>nO n o ((d,.lit false)::F) L log λF L log=>gP X n raw N ds rest (i+1) F L log K))
    |true,.bool c=> .both
     (.imp (c=true) (match want with
       |true=>og X n (raw i) N i o ((d,.lit true)::F) L log λF L log=>gP X n raw N ds rest (i+1) F L log K
       |false=>nO n o ((d,.lit true)::F) L log λF L log=>gP X n raw N ds rest (i+1) F L log K))
     (.imp (c=false) (match want with
       |false=>og X n (raw i) N i o ((d,.lit false)::F) L log λF L log=>gP X n raw N ds rest (i+1) F L log K
       |true=>nO n o ((d,.lit false)::F) L log λF L log=>gP X n raw N ds rest (i+1) F L log K))
    |_,_=> .stuck i)
   |none=> .stuck i)
def Frm.aAc{n:Nat}{F:Frm}{d:Nat}{v:SV}(h:v.av=(F.at d).av):Frm.av n ((d,v)::F)=F.av n:=by unfold Frm.av;apply lk;intro t _;rw[Frm.lJ];grind
def aP.fn(L:aP):Sto:=Sg.a L.at
def gr(n:Nat)(S:Nat->Prop)(F:Frm)(L:aP)(FA:List AV)(LA:Sto)(G:Frm->aP->Prop):Prop:=∃F' L',FA=F'.av n/\LA=L'.fn/\F'.ok/\Pre S F F'/\gZ L L'/\G F' L'
def gr.step{n:Nat}{S:Nat->Prop}{F F1:Frm}{L L1:aP}{FA:List AV}{LA:Sto}{G:Frm->aP->Prop}(h1:Pre S F F1)(h2:gZ L L1)(h:gr n S F1 L1 FA LA G):gr n S F L FA LA G:=by obtain⟨F',L',a,b,c,d,e,f⟩:=h;exact⟨F',L',a,b,c,h1.trans d,h2.trans e,f⟩
def xe{X:Cx}(hX:X.Ok){n:Nat}{raw:Nat->Bool}{N:Nat}{ds:List (Option Nat)}{K:Frm->aP->i7->Fm}:
  ∀(l:List Oper) (i:Nat) (F:Frm) (L:aP) (log:i7),(∀o∈l,o.dst∈ds)->F.ok->(gP X n raw N ds l i F L log K).holds->
   eR X.P N ds l i (F.av n) L.fn log λFA LA log'=>gr n (λd=>some d∈ds) F L FA LA λF' L'=>(K F' L' log').holds
 |[],i,F,L,log,_,hF,h=>by
  unfold gP at h;unfold eR;exact⟨F,L,rfl,rfl,hF,Pre.rfl,gZ.rfl,h⟩
 |o::rest,i,F,L,log,hd,hF,h=>by
  have hd':∀o∈rest,o.dst∈ds:=λo ho=>hd o (bk _ ho);have hod:∀t,o.dst=some t->some t∈ds:=λt ht=>by grind
  have run:∀F:Frm,F.ok->(og X n (raw i) N i o F L log λF L log=>gP X n raw N ds rest (i+1) F L log K).holds->
    ∃r R W Rc Wc,bT X.P o (j5 (F.av n)) L.fn (N+i) r R W/\inC R Rc/\inC (W.map (·.1)) Wc/\eR X.P N ds rest (i+1) (eK (F.av n) o.dst r) (ai L.fn W) (log++[(Rc,Wc)]) λFA LA log'=>gr n (λd=>some d∈ds) F L FA LA λF' L'=>(K F' L' log').holds:=by
   intro F hF h;unfold og at h;split at h
   .rename_i ps r R W hs;obtain⟨h1,h2⟩:=re h;obtain⟨⟨R',W',h5,f1,f2,f3⟩,h4⟩:=Yy hX (YW hF) _ _ _ _ hs h1;have e1:SE.a (tG n F)=j5 (F.av n):=funext λx=>FM x;rw[e1]at h5;refine⟨r.av,R',W',_,_,h5,f1,f2,?_⟩;have e3:ai L.fn W'=aP.fn (W++L):=by unfold aP.fn;rw[f3,aP.Bi]
    rw[Ft,e3];exact jG (λ_ _ _=>gr.step (E0 hod) ⟨W,rfl⟩) (xe hX rest (i+1) _ _ _ hd' (Fs hF h4) h2)
   .exact h.elim
  have skip:∀F:Frm,F.ok->(nO n o F L log λF L log=>gP X n raw N ds rest (i+1) F L log K).holds->
    eR X.P N ds rest (i+1) (eK (F.av n) o.dst .undef) L.fn (log++[([],[])]) λFA LA log'=>gr n (λd=>some d∈ds) F L FA LA λF' L'=>(K F' L' log').holds:=by
   intro F hF h;unfold nO at h;have:=xe hX rest (i+1) _ _ _ hd' (Fs (n:=n) (d:=o.dst) hF (show SV.ok .undef from trivial)) h;rw[<-Ft]at this;exact jG (λ_ _ _=>gr.step (E0 hod) gZ.rfl) this
  unfold gP at h;unfold eR;split at h
  .grind
  .rename_i j want hg;rw[hg];dsimp only;split at h
   case h_2=>exact h.elim
   rename_i d hdj;have hds:some d∈ds:=by
    cases hx:ds[j]? with
    |none=>grind
    |some y=>grind
   have gd:∀F:Frm,d<n->gdA ds (F.av n) j=(match(F.at d).av with| .p (.bool b)=>some (some b)| .undef=>some none|_=>none):=by intro F hlt;unfold gdA;rw[hdj];dsimp only;rw[Frm.mE hlt];rfl
   have split1:∀(b:Bool),d<n->(F.at d).av= .p (.bool b)->(match want with
      |true=>(match b with
       |true=>og X n (raw i) N i o ((d,.lit true)::F) L log λF L log=>gP X n raw N ds rest (i+1) F L log K
       |false=>nO n o ((d,.lit false)::F) L log λF L log=>gP X n raw N ds rest (i+1) F L log K)
      |false=>(match b with
       |true=>nO n o ((d,.lit true)::F) L log λF L log=>gP X n raw N ds rest (i+1) F L log K
       |false=>og X n (raw i) N i o ((d,.lit false)::F) L log λF L log=>gP X n raw N ds rest (i+1) F L log K)).holds->
     (match(gdA ds (F.av n) j:Option (Option Bool))with
       |some (some b)=>if b=want then∃r R W Rc Wc,bT X.P o (j5 (F.av n)) L.fn (N+i) r R W/\inC R Rc/\inC (W.map (·.1)) Wc/\eR X.P N ds rest (i+1) (eK (F.av n) o.dst r) (ai L.fn W) (log++[(Rc,Wc)]) (λFA LA log'=>gr n (λd=>some d∈ds) F L FA LA λF' L'=>(K F' L' log').holds)
        else eR X.P N ds rest (i+1) (eK (F.av n) o.dst .undef) L.fn (log++[([],[])]) (λFA LA log'=>gr n (λd=>some d∈ds) F L FA LA λF' L'=>(K F' L' log').holds)
       |some none=>eR X.P N ds rest (i+1) (eK (F.av n) o.dst .undef) L.fn (log++[([],[])]) (λFA LA log'=>gr n (λd=>some d∈ds) F L FA LA λF' L'=>(K F' L' log').holds)
       |none=>False):=by
    intro b hlt hb h;rw[gd F hlt,hb];dsimp only;have e0:∀c,c=b->Frm.av n ((d,.lit c)::F)=F.av n:=λc hc=>Frm.aAc (by rw[hb,hc];rfl);have hpre:∀c,Pre (λd=>some d∈ds) F ((d,SV.lit c)::F):=λc=>⟨[(d,.lit c)],rfl,λq hq=>by grind⟩;have up:∀c FA LA (G:Frm->aP->Prop),gr n (λd=>some d∈ds) ((d,SV.lit c)::F) L FA LA G->gr n (λd=>some d∈ds) F L FA LA G:=λc FA LA G=>gr.step (hpre c) gZ.rfl;have hok:∀c,Frm.ok ((d,SV.lit c)::F):=λc=>Frm.OM hF (show SV.ok (.lit c)from trivial);cases want<;>cases b<;>dsimp only at h
    .rw[if_pos rfl];have:=run _ (hok false) h;rw[e0 false rfl]at this;obtain⟨r,R,W,Rc,Wc,h1,i1,i2,h2⟩:=this;exact⟨r,R,W,Rc,Wc,h1,i1,i2,jG (λ_ _ _=>up false _ _ _) h2⟩
    .rw[if_neg (by decide)];have:=skip _ (hok true) h;rw[e0 true rfl]at this;exact jG (λ_ _ _=>up true _ _ _) this
    .rw[if_neg (by decide)];have:=skip _ (hok false) h;rw[e0 false rfl]at this;exact jG (λ_ _ _=>up false _ _ _) this
    .rw[if_pos rfl];have:=run _ (hok true) h;rw[e0 true rfl]at this;obtain⟨r,R,W,Rc,Wc,h1,i1,i2,h2⟩:=this;exact⟨r,R,W,Rc,Wc,h1,i1,i2,jG (λ_ _ _=>up true _ _ _) h2⟩
   split at h
   .rename_i b hlt hb;have hlt:=(jv _ _).1 hlt;rw[gd F hlt,hb];show(if b=want then _ else _);cases b<;>cases want<;>dsimp only at h
    .grind
    .grind
    .grind
    grind
   .rename_i hlt hb;have hlt:=(jv _ _).1 hlt;rw[gd F hlt,hb];exact skip F hF h
   .rename_i p dec hlt hb;obtain⟨h1,h2⟩:=Fm.uD h;have hlt:=(jv _ _).1 hlt;have hav:(F.at d).av= .p (.bool (@decide p dec)):=by rw[hb];rfl
    by_cases hp:p
    .refine split1 true hlt (by grind) ?_;have h1:=(h1:p->_) hp;omega
    .refine split1 false hlt (by grind) ?_;have h2:=(h2:¬p->_) hp;grind
   .rename_i c hlt hb;obtain⟨h1,h2⟩:=Fm.uD h;have hlt:=(jv _ _).1 hlt;have hav:(F.at d).av= .p (.bool c):=by rw[hb];rfl
    cases c with
    |true=>
     refine split1 true hlt hav ?_;have h1:=(h1:(true=true)->_) rfl;omega
    |false=>
     refine split1 false hlt hav ?_;have h2:=(h2:(false=false)->_) rfl;grind
   .exact h.elim
end
noncomputable section
abbrev Rm:=List (Nat×Option Nat)
def mI:Rm->Nat->Option (Option Nat)
 |[],_=>none
 |(k,x)::m,s=>match bF s k with|true=>some x|false=>mI m s
def oe(f:SV->SV->Option (List Prop×Rm)):List SV->List SV->Option (List Prop×Rm)
 |[],[] =>some ([],[])
 |x::l,y::r=>(match f x y,oe f l r with
  |some (p,m),some (q,k)=>some (p++q,m++k)
  |_,_=>none)
 |_,_=>none
def H9:SV->SV->Option (List Prop×Rm)
 | .any,_=>some ([],[])
 | .undef,.undef=>some ([],[])
 | .nil,.nil=>some ([],[])
 | .int k a,.int k' b=>(match decEq k k' with| .isTrue _=>some ([b=a],[])| .isFalse _=>none)
 | .bool a,.bool b=>some ([b=a],[])
 | .bool a,.lit b=>some ([b=a],[])
 | .bool a,.prop p d=>some ([@decide p d=a],[])
 | .lit a,.lit b=>some ([b=a],[])
 | .lit a,.bool b=>some ([b=a],[])
 | .lit a,.prop p d=>some ([@decide p d=a],[])
 | .prop p _,.prop q _=>some ([q↔p],[])
 | .prop p d,.bool b=>some ([b= @decide p d],[])
 | .prop p d,.lit b=>some ([b= @decide p d],[])
 | .str a,.str b=>some ([b=a],[])
 | .lst t l,.lst t' l'=>(match decEq t' t with| .isTrue h=>some ([(h▸l':List t.ty)=l],[])| .isFalse _=>none)
 | .lst _ l,.sl 0 [] =>some ([l=[]],[])
 | .lst t l,.sl n cs=>(match t.decs n cs with|some l'=>some ([l'=l],[])|none=>none)
 | .ptr s off,.ptr s' off'=>(match bF off off' with|true=>some ([],[(s,some s')])|false=>none)
 | .own s t n,.own s' t' n'=>(match decEq t' t with| .isTrue _=>some ([n'=n],[(s,some s')])| .isFalse _=>none)
 | .own s _ n,.ownx s' n'=>some ([n'=n],[(s,some s')])
 | .own s _ n,.nil=>some ([n=0],[(s,none)])
 | .ownx s n,.ownx s' n'=>(match bF n n' with|true=>some ([],[(s,some s')])|false=>none)
 | .owF s n,.owF s' n'=>some ([n'=n],[(s,some s')])
 | .mp s,.mp s'=>some ([],[(s,some s')])
 | .junk,.junk=>some ([],[])
 |_,_=>none
def eqv:Nat->SV->SV->Option (List Prop×Rm)
 |d+1,.agg l,.agg r=>oe (eqv d) l r
 |d+1,.tup l,.tup r=>oe (eqv d) l r
 |d+1,.fn f a b,.fn f' a' b'=>(match bF f f',oe (eqv d) a a',oe (eqv d) b b' with
  |true,some (p,m),some (q,k)=>some (p++q,m++k)
  |_,_,_=>none)
 |_,x,y=>H9 x y
def jz(m:Rf)(r:Rm):Prop:=∀q∈r,m (aO q.1)=some (q.2.map aO)
def jz.left{m:Rf}{r k:Rm}(h:jz m (r++k)):jz m r:=λq hq=>h q (fT _ hq)
def jz.right{m:Rf}{r k:Rm}(h:jz m (r++k)):jz m k:=λq hq=>h q (fB _ hq)
def qn{f:SV->SV->Option (List Prop×Rm)}{m:Rf}(hf:∀x y ps r,f x y=some (ps,r)->(∀p∈ps,p)->jz m r->cR m x.av y.av):
  ∀{l k:List SV} {ps:List Prop} {r:Rm},oe f l k=some (ps,r)->(∀p∈ps,p)->jz m r->fC m (avs l) (avs k)
 |[],[],ps,r,_,_,_=>by simp only[avs];unfold fC;rfl
 |[],_::_,ps,r,h,_,_=>by cases h
 |_::_,[],ps,r,h,_,_=>by cases h
 |x::l,y::k,ps,r,h,hp,hm=>by
  unfold oe at h;split at h<;>cases h;rename_i p m1 q m2 h1 h2;rw[avs,avs];unfold fC;exact⟨_,_,rfl,hf x y p m1 h1 (λa ha=>hp a (fT _ ha)) hm.left,qn hf h2 (λa ha=>hp a (fB _ ha)) hm.right⟩
def M7{m:Rf}{x y:SV}{ps:List Prop}{r:Rm}(h:H9 x y=some (ps,r))(hp:∀p∈ps,p)(hm:jz m r):cR m x.av y.av:=by
 unfold H9 at h;split at h
 .simp only[SV.av];unfold cR;trivial
 .simp only[SV.av];unfold cR;rfl
 .simp only[SV.av];unfold cR;rfl
 .split at h<;>cases h;rename_i e _;subst e;refine dH ?_;rw[<-hp _ (bZ.2 rfl)];rfl
 .cases h;refine dH ?_;rw[<-hp _ (bZ.2 rfl)];rfl
 .cases h;refine dH ?_;rw[<-hp _ (bZ.2 rfl)];rfl
 .cases h;refine dH ?_;rw[<-hp _ (bZ.2 rfl)];rfl
 .cases h;refine dH ?_;rw[<-hp _ (bZ.2 rfl)];rfl
 .cases h;refine dH ?_;rw[<-hp _ (bZ.2 rfl)];rfl
 .cases h;refine dH ?_;rw[<-hp _ (bZ.2 rfl)];rfl
 .rename_i p d q e;cases h;refine dH ?_;have hh:q↔p:=hp _ (bZ.2 rfl);show AV.p (.bool (decide q))=AV.p (.bool (decide p));grind
 .cases h;refine dH ?_;rw[<-hp _ (bZ.2 rfl)];rfl
 .cases h;refine dH ?_;rw[<-hp _ (bZ.2 rfl)];rfl
 .cases h;refine dH ?_;rw[<-hp _ (bZ.2 rfl)];rfl
 .rename_i t l t' l';split at h<;>cases h;rename_i e _;subst e;have:l'=l:=hp _ (bZ.2 rfl);subst this;exact dH rfl
 .cases h;rename_i t l;have:l=[] :=hp _ (bZ.2 rfl);subst this;exact dH rfl
 .rename_i t l n cs _;split at h<;>cases h;rename_i l' hl;have:l'=l:=hp _ (bZ.2 rfl);subst this;obtain⟨e1,e2⟩:=LT.ui hl;refine dH ?_;show(match bK (avs cs)with|some q=>AV.p (.sl n q)|none=> .any)=_;rw[e2,dS,e1]
 .rename_i s off s' off';split at h<;>cases h;rename_i e;simp only[SV.av];unfold cR;exact⟨aO s',hm _ (bZ.2 rfl),by simp_all⟩
 .rename_i s t n s' t' n';split at h<;>cases h;have:n'=n:=hp _ (bZ.2 rfl);simp only[SV.av];unfold cR;exact .inl ⟨aO s',hm _ (bZ.2 rfl),by rw[this]⟩
 .cases h;rename_i s t n s' n';have:n'=n:=hp _ (bZ.2 rfl);simp only[SV.av];unfold cR;exact .inl ⟨aO s',hm _ (bZ.2 rfl),by rw[this]⟩
 .cases h;rename_i s t n;have:n=0:=hp _ (bZ.2 rfl);simp only[SV.av];unfold cR;exact .inr ⟨hm _ (bZ.2 rfl),rfl,rfl,this⟩
 .rename_i s n s' n';split at h<;>cases h;rename_i e;simp only[SV.av];unfold cR;exact .inl ⟨aO s',hm _ (bZ.2 rfl),by simp_all⟩
 .cases h;rename_i s n s' n';have:n'=n:=hp _ (bZ.2 rfl);simp only[SV.av];unfold cR;exact .inl ⟨aO s',hm _ (bZ.2 rfl),by rw[this]⟩
 .cases h;rename_i s s';simp only[SV.av];unfold cR;exact⟨aO s',hm _ (bZ.2 rfl),rfl⟩
 .cases h;exact dH rfl
 .cases h
def uh{m:Rf}:∀(d:Nat) (x y:SV) (ps:List Prop) (r:Rm),eqv d x y=some (ps,r)->(∀p∈ps,p)->jz m r->cR m x.av y.av:=by
 intro d;induction d with
 |zero=>
  intro x y ps r h hp hm;refine M7 (ps:=ps) (r:=r) ?_ hp hm;exact h
 |succ d ih=>
  intro x y ps r h hp hm;unfold eqv at h;split at h
  .rename_i d' l k e;cases e;exact zo (qn ih h hp hm)
  .rename_i d' l k e;cases e;exact EA (qn ih h hp hm)
  .rename_i d' f a b f' a' b' e;cases e;split at h<;>cases h;rename_i p m1 q m2 e h1 h2;show cR m (.fn (.func f) (avs a) (avs b)) (.fn (.func f') (avs a') (avs b'));unfold cR;exact⟨_,_,by simp_all,qn ih h1 (λa ha=>hp a (fT _ ha)) hm.left,qn ih h2 (λa ha=>hp a (fB _ ha)) hm.right⟩
  .exact M7 h hp hm
mutual
def SV.sites:SV->List Nat
 | .agg l=>oI l
 | .tup l=>oI l
 | .fn _ a b=>oI a++oI b
 | .ptr s _=>[s]
 | .pte s _ _ _=>[s]
 | .own s _ _=>[s]
 | .owns s _ _ _=>[s]
 | .ownx s _=>[s]
 | .ownf s _ _ _=>[s]
 | .ptef s _ _ _ _=>[s]
 | .ptf s _=>[s]
 | .owF s _=>[s]
 | .mp s=>[s]
 |_=>[]
def oI:List SV->List Nat
 |[] =>[]
 |x::l=>x.sites++oI l
end
def vZ(m:Rf)(s:Nat):Prop:=∀a,m (inn s a)=some (some (inn s a))
mutual
theorem zh{m:Rf}:∀(v:SV),(∀s∈v.sites,vZ m s)->cR m v.av v.av
 | .any,_=>by simp only[SV.av];unfold cR;trivial
 | .undef,_=>by simp only[SV.av];unfold cR;rfl
 | .nil,_=>by simp only[SV.av];unfold cR;rfl
 | .int _ _,_=>dH rfl
 | .bool _,_=>dH rfl
 | .lit _,_=>dH rfl
 | .prop _ _,_=>dH rfl
 | .str _,_=>dH rfl
 | .lst _ _,_=>dH rfl
 | .pe _ _ _ _,_=>dH rfl
 | .clo1 _ _ _ _,_=>dH rfl
 | .clo2 _ _ _ _,_=>dH rfl
 | .ptb _ _ _,_=>dH rfl
 | .junk,_=>dH rfl
 | .mp s,h=>by simp only[SV.av];unfold cR;exact⟨aO s,h s (by simp[SV.sites]) 0,rfl⟩
 | .sl n cs,_=>by
   simp only[SV.av];split
   .exact dH rfl
   .unfold cR;trivial
 | .pro cs off,_=>by
   simp only[SV.av];split
   .exact dH rfl
   .unfold cR;trivial
 | .fnp f a b,_=>by
   simp only[SV.av];split
   .exact dH rfl
   .unfold cR;trivial
 | .agg l,h=>by simp only[SV.av];exact zo (rm l h)
 | .tup l,h=>by simp only[SV.av];exact EA (rm l h)
 | .fn f a b,h=>by
   simp only[SV.av];unfold cR;exact⟨_,_,rfl,rm a (λs hs=>h s (by simp only[SV.sites];grind)),rm b (λs hs=>h s (by simp only[SV.sites];grind))⟩
 | .ptr s off,h=>by simp only[SV.av];unfold cR;exact⟨aO s,h s (by simp[SV.sites]) 0,rfl⟩
 | .pte s t i off,h=>by simp only[SV.av];unfold cR;exact⟨aO s,h s (by simp[SV.sites]) 0,rfl⟩
 | .own s t n,h=>by simp only[SV.av];unfold cR;exact .inl ⟨aO s,h s (by simp[SV.sites]) 0,rfl⟩
 | .owns s t o n,h=>by simp only[SV.av];unfold cR;exact .inl ⟨aO s,h s (by simp[SV.sites]) 0,rfl⟩
 | .ownx s n,h=>by simp only[SV.av];unfold cR;exact .inl ⟨aO s,h s (by simp[SV.sites]) 0,rfl⟩
 | .owF s n,h=>by simp only[SV.av];unfold cR;exact .inl ⟨aO s,h s (by simp[SV.sites]) 0,rfl⟩
 | .ownf s t a n,h=>by simp only[SV.av];unfold cR;exact .inl ⟨inn s (a+1),h s (by simp[SV.sites]) (a+1),rfl⟩
 | .ptf s a,h=>by simp only[SV.av];unfold cR;exact⟨aO s,h s (by simp[SV.sites]) 0,rfl⟩
 | .ptef s t a i off,h=>by simp only[SV.av];unfold cR;exact⟨inn s (a+1),h s (by simp[SV.sites]) (a+1),rfl⟩
theorem rm{m:Rf}:∀(l:List SV),(∀s∈oI l,vZ m s)->fC m (avs l) (avs l)
 |[],_=>by simp only[avs];unfold fC;rfl
 |x::l,h=>by
  simp only[avs];unfold fC;exact⟨_,_,rfl,zh x (λs hs=>h s (by simp only[oI];grind)),rm l (λs hs=>h s (by simp only[oI];grind))⟩
end
def SOb.sites:SOb->List Nat
 | .box _ cs=>oI cs
 | .arr _ _ cs=>oI cs
 | .row .. =>[]
 | .fam _ _ _ _ ov=>ov.flatMap λq=>q.2.sites
 | .mp _=>[]
def EG{ov:List (Nat×SV)}{i:Nat}{v:SV}(h:ov.lookup i=some v):(i,v)∈ov:=by
 induction ov with
 |nil=>cases h
 |cons q ov ih=>
  grind
def Jc{m:Rf}(o:SOb)(x:Nat)(hx:vZ m x)(h:∀s∈o.sites,vZ m s):p8 m (o.ob x) (o.ob x):=by
 cases o with
 |box ty cs=>exact⟨rfl,rfl,rm cs h⟩
 |arr ty ez cs=>exact⟨rfl,rfl,rm cs h⟩
 |row ty t l=>exact⟨rfl,rfl,jt m _⟩
 |mp ks=>refine⟨rfl,rfl,?_⟩;show fC m (gF (gW ks)) (gF (gW ks));rw[ry];exact jt m _
 |fam ty ity t L ov=>
  refine⟨rfl,rfl,uP _ _ _ λi _=> ?_⟩;unfold il;split
  .rename_i v hv;exact zh v λs hs=>h s (cQ.2 ⟨(i,v),EG hv,hs⟩)
  .unfold cR;exact .inl ⟨_,hx (i+1),rfl⟩
def vJ:SOb->SOb->Option (List Prop×Rm)
 | .box ty cs,.box ty' cs'=>(match bF ty ty' with|true=>oe (eqv 3) cs cs'|false=>none)
 | .arr ty ez cs,.arr ty' ez' cs'=>(match bF ty ty',bF ez ez' with|true,true=>oe (eqv 3) cs cs'|_,_=>none)
 | .row ty t l,.row ty' t' l'=>(match bF ty ty',decEq t' t with|true,.isTrue h=>some ([(h▸l':List t.ty)=l],[])|_,_=>none)
 | .mp ks,.mp ks'=>some ([ks'=ks],[])
 | .row ty t l,.arr ty' ez cs=>(match bF ty ty',bF ez t.w,t.decs (cs.length/t.w) cs with|true,true,some l'=>some ([l'=l],[])|_,_,_=>none)
 |_,_=>none
def Le{m:Rf}{x y:SOb}{ps:List Prop}{r:Rm}(h:vJ x y=some (ps,r))(hp:∀p∈ps,p)(hm:jz m r)(k k':Nat):p8 m (x.ob k) (y.ob k'):=by
 unfold vJ at h;split at h
 .split at h
  .rename_i e;exact⟨dK e,rfl,qn (uh 3) h hp hm⟩
  .cases h
 .split at h
  .rename_i e1 e2;exact⟨dK e1,dK e2,qn (uh 3) h hp hm⟩
  .cases h
 .split at h<;>cases h;rename_i e2 e1 _;subst e2;have:=hp _ (bZ.2 rfl);dsimp only at this;subst this;exact⟨dK e1,rfl,jt m _⟩
 .cases h;have:=hp _ (bZ.2 rfl);subst this;refine⟨rfl,rfl,?_⟩;show fC m (gF (gW _)) (gF (gW _));rw[ry];exact jt m _
 .split at h<;>cases h;rename_i l' e1 e2 e3;have:=hp _ (bZ.2 rfl);subst this;obtain⟨_,e4⟩:=LT.ui e3;refine⟨dK e1,(dK e2).symm,?_⟩;show fC m ((LT.enc _ l').map .p) (avs _);rw[e4];exact jt m _
 .cases h
end
section
noncomputable section
def mem(l:List Nat)(s:Nat):Bool:=match l with
 |[] =>false
 |x::l=>(match bF s x with|true=>true|false=>mem l s)
def mem_iff(s:Nat):∀l:List Nat,mem l s=true↔s∈l
 |[] =>by simp[mem]
 |x::l=>by
  unfold mem;cases h:bF s x with
  |true=>simp_all
  |false=>simp[ls h,mem_iff s l]
def eo{α:Type}(p:α->Bool):List α->Bool
 |[] =>true
 |x::l=>(match p x with|true=>eo p l|false=>false)
def gk{α:Type}{p:α->Bool}:∀{l:List α},eo p l=true->∀x∈l,p x=true
 |[],_,x,hx=>by cases hx
 |y::l,h,x,hx=>by
  unfold eo at h;cases hy:p y with
  |false=>grind
  |true=>
   rw[hy]at h;rcases aj.1 hx with rfl|hx
   .exact hy
   .exact gk h x hx
def gn(rk:List Nat)(N0:Nat)(s:Nat):Bool:=match iT (ncl s) N0,mem rk s with
 |true,false=>true
 |_,_=>false
def jh(F:Frm)(rk:List Nat)(N0:Nat):Frm->List Nat
 |[] =>[]
 |(d,v)::r=>(match eo (gn rk N0) v.sites with
  |true=>jh F rk N0 r
  |false=>(match eo (gn rk N0) (F.at d).sites with
   |true=>jh F rk N0 r
   |false=>d::jh F rk N0 r))
def km(F:Frm)(upd:Frm)(hav:List Nat):Frm:=upd++(hav.map λd=>(d,SV.any))++F
def i6(L:aP)(obs:List (Nat×SOb)):aP:=(obs.map λq=>(q.1,some q.2))++L
def yQ(obs:List (Nat×SOb)):List Nat:=obs.map λq=>q.1
def aBi(L:aP)(keys rk:List Nat)(N0:Nat):Bool:=eo (λ(q:Nat×Option SOb)=>match mem keys q.1 with
 |true=>true
 |false=>(match L.at q.1 with
  |none=>true
  |some ob=>(match gn rk N0 q.1 with|true=>eo (gn rk N0) ob.sites|false=>false))) L
def vU(n:Nat)(F':Frm):Frm->Option (List Prop×Rm)
 |[] =>some ([],[])
 |(d,v)::r=>(match iT d n,v.ape,eqv 3 v (F'.at d),vU n F' r with
  |true,false,some (p,m),some (q,k)=>some (p++q,m++k)
  |_,_,_,_=>none)
def yU(rk:List Nat)(s o:Nat):SOb->SOb->Option (List Prop)
 | .fam ty ity t M [],.fam ty' ity' t' M' [] =>(match bF s o,mem rk s,bF ty ty',bF ity ity',decEq t' t with
   |true,false,true,true,.isTrue h=>some [(h▸M':List (List t.ty))=M]
   |_,_,_,_,_=>none)
 |_,_=>none
def M4{rk:List Nat}{s o:Nat}{x y:SOb}{ps:List Prop}(h:yU rk s o x y=some ps)(hp:∀p∈ps,p):s=o/\mem rk s=false/\x=y/\x.sites=[] :=by
 unfold yU at h;split at h
 .split at h<;>cases h;rename_i e h1 h2 h3 h4 _;subst e;have:=hp _ (bZ.2 rfl);subst this;rw[dK h3,dK h4];exact⟨dK h1,h2,rfl,rfl⟩
 .cases h
def tM(L':aP)(rk:List Nat):List (Nat×SOb)->Rm->Option (List Prop×Rm)
 |[],mm=>some ([],mm)
 |(s,ob)::r,mm=>(match(match mem rk s with|true=>mI mm s|false=>some (some s))with
  |none=>none
  |some none=>(match ob with
   | .row _ _ l=>(match tM L' rk r (mm++[(s,none)])with|some (q,k)=>some ((l=[])::q,k)|none=>none)
   |_=>none)
  |some (some o)=>(match L'.at o with
   |none=>none
   |some ob'=>(match vJ ob ob' with
    |none=>(match yU rk s o ob ob' with
     |none=>none
     |some p=>(match tM L' rk r (mm++[(s,some o)])with|some (q,k)=>some (p++q,k)|none=>none))
    |some (p,m2)=>(match tM L' rk r (mm++(s,some o)::m2)with|some (q,k)=>some (p++q,k)|none=>none))))
def eqO:Option Nat->Option Nat->Bool
 |none,none=>true
 |some a,some b=>bF a b
 |_,_=>false
def Gu{a b:Option Nat}(h:eqO a b=true):a=b:=by cases a<;>cases b<;>first|rfl|(cases h;done)|(rw[dK h])
def isO:Option (Option Nat)->Option Nat->Bool
 |some a,b=>eqO a b
 |none,_=>false
def okM(rk:List Nat)(N0 N1:Nat)(mm:Rm):Bool:=eo (λ(q:Nat×Option Nat)=>match isO (mI mm q.1) q.2,mem rk q.1 with
 |true,true=>(match iT (ncl q.1) N1,q.2 with
  |true,none=>true
  |true,some o=>(match(match iT (ncl o) N0 with|false=>true|true=>mem rk o)with
   |true=>eo (λ(q2:Nat×Option Nat)=>match eqO q2.2 (some o)with|true=>bF q2.1 q.1|false=>true) mm
   |false=>false)
  |_,_=>false)
 |true,false=>(match gn rk N0 q.1 with|true=>eqO q.2 (some q.1)|false=>false)
 |_,_=>false) mm
def aBe(N0:Nat)(keys:List Nat)(pre:aP):Bool:=eo (λ(q:Nat×Option SOb)=>match mem keys q.1 with
 |true=>true
 |false=>(match iT (ncl q.1) N0 with|true=>false|false=>true)) pre
def aBK(rk:List Nat)(N0:Nat)(mm:Rm):Nat->Option (Option Nat):=λs=>match mI mm s with
 |some x=>some x
 |none=>(match gn rk N0 s with|true=>some (some s)|false=>none)
open Classical in
def lP(mn:Nat->Option (Option Nat))(st:Nat->Bool):Rf:=λs=>if inn (nm s) (sub s)=s then(match sub s with
 |0=>(mn (nm s)).map (Option.map aO)
 |_+1=>(match st (nm s)with|true=>some (some s)|false=>none))else none
def Dh(mn:Nat->Option (Option Nat))(st:Nat->Bool)(x:Nat):lP mn st (aO x)=(mn x).map (Option.map aO):=by unfold lP aO;rw[sP,se,if_pos rfl]
def LH(mn:Nat->Option (Option Nat))(st:Nat->Bool)(x a:Nat):lP mn st (inn x (a+1))=(match st x with|true=>some (some (inn x (a+1)))|false=>none):=by unfold lP;rw[sP,se,if_pos rfl]
def YE(mn:Nat->Option (Option Nat))(st:Nat->Bool){s:Nat}(h:∀x a,s≠inn x a):lP mn st s=none:=by unfold lP;grind
def Bv(n:Nat)(L:aP)(N0 N1:Nat)(rk:List Nat)(upd:Frm)(obs:List (Nat×SOb))(F':Frm)(L':aP):Option (List Prop):=
 match vU n F' upd with
 |none=>none
 |some (p,m1)=>(match tM L' rk obs m1 with
  |none=>none
  |some (q,m2)=>(match okM rk N0 N1 m2,aBe N0 (yQ obs) (L'.take (L'.length-L.length)),aBi L (yQ obs) rk N0,mf N0 N1 with
   |true,true,true,true=>some (p++q)
   |_,_,_,_=>none))
def LC{m:Rm}{s:Nat}{x:Option Nat}(h:mI m s=some x):(s,x)∈m:=by
 induction m with
 |nil=>cases h
 |cons q m ih=>
  obtain⟨a,b⟩:=q;unfold mI at h;split at h
  .simp_all
  grind
def M6{n:Nat}{F':Frm}{m:Rf}:∀{upd:Frm} {ps:List Prop} {r:Rm},vU n F' upd=some (ps,r)->(∀p∈ps,p)->jz m r->∀q∈upd,cR m q.2.av (F'.at q.1).av/\q.2.ok
 |[],ps,r,_,_,_,q,hq=>by cases hq
 |(d,v)::upd,ps,r,h,hp,hm,q,hq=>by
  unfold vU at h;split at h<;>cases h;rename_i p1 m1 p2 m2 h1 h2 h3 h4;rcases aj.1 hq with rfl|hq
  .exact⟨uh 3 _ _ _ _ h3 (λa ha=>hp a (by grind)) hm.left,SV.nF h2⟩
  .exact M6 h4 (λa ha=>hp a (by grind)) hm.right q hq
def KW{x y:SOb}{q:List Prop×Rm}(h:vJ x y=some q):x.flat=true:=by unfold vJ at h;cases x<;>first|rfl|grind
def AZ{L':aP}{rk:List Nat}{m:Rf}:∀{obs:List (Nat×SOb)} {mm:Rm} {ps:List Prop} {r:Rm},tM L' rk obs mm=some (ps,r)->(∀p∈ps,p)->jz m r->
  (∃k,r=mm++k)/\∀q∈obs,(q.2.flat=true/\((∃y ob,m (aO q.1)=some (some (aO y))/\L'.at y=some ob/\p8 m (q.2.ob q.1) (ob.ob y))\/(m (aO q.1)=some none/\(q.2.ob q.1).esz≠0/\(q.2.ob q.1).cells=[])))\/((q.1,some q.1)∈r/\mem rk q.1=false/\L'.at q.1=some q.2/\q.2.sites=[])
 |[],mm,ps,r,h,_,_=>by unfold tM at h;simp_all
 |(s,ob)::obs,mm,ps,r,h,hp,hm=>by
  unfold tM at h;split at h
  .cases h
  .split at h
   .rename_i ty t l;split at h<;>cases h;rename_i q k hk;obtain⟨⟨k',e⟩,h2⟩:=AZ hk (by grind) hm;refine⟨by grind,λq hq=> ?_⟩;rcases aj.1 hq with rfl|hq
    .have:m (aO s)=some none:=hm (s,none) (by rw[e];simp);have hl:l=[] :=hp _ (by grind);subst hl;exact .inl ⟨rfl,.inr ⟨this,nZ t.kP,rfl⟩⟩
    grind
   .cases h
  .rename_i o hi;split at h
   .cases h
   .rename_i ob' hob;split at h
    .split at h
     .cases h
     .rename_i p hfe;split at h<;>cases h;rename_i q k hk;obtain⟨⟨k',e⟩,h2⟩:=AZ hk (λa ha=>hp a (by grind)) hm;refine⟨by grind,λq hq=> ?_⟩;rcases aj.1 hq with rfl|hq
      .obtain⟨f1,f2,f3,f4⟩:=M4 hfe λa ha=>hp a (by grind);grind
      grind
    .rename_i p m2 he;split at h<;>cases h;rename_i q k hk;obtain⟨⟨k',e⟩,h2⟩:=AZ hk (λa ha=>hp a (by grind)) hm;refine⟨by grind,λq hq=> ?_⟩;rcases aj.1 hq with rfl|hq
     .have:m (aO s)=some (some (aO o)):=hm (s,some o) (by rw[e];simp);refine .inl ⟨KW he,.inl ⟨o,ob',this,hob,Le he (λa ha=>hp a (by grind)) ?_ _ _⟩⟩;intro q hq;exact hm q (by grind)
     grind
def Al{F:Frm}{rk:List Nat}{N0:Nat}{d:Nat}:∀{G:Frm},(∃v,(d,v)∈G/\eo (gn rk N0) v.sites=false)->d∉jh F rk N0 G->eo (gn rk N0) (F.at d).sites=true
 |[],⟨v,h,_⟩,_=>by cases h
 |(e,u)::G,⟨v,h,hv⟩,hn=>by
  unfold jh at hn;rcases aj.1 h with h|h
  .grind
  .split at hn
   .exact Al ⟨v,h,hv⟩ hn
   .split at hn
    .exact Al ⟨v,h,hv⟩ hn
    .exact Al ⟨v,h,hv⟩ (by grind)
def aA4(F:Frm)(d:Nat):(F.at d)= .undef\/(d,F.at d)∈F:=by
 induction F with
 |nil=>exact .inl rfl
 |cons q F ih=>
  rw[Frm.lJ];grind
def Zo{F:Frm}{rk:List Nat}{N0 d:Nat}(h:d∉jh F rk N0 F):eo (gn rk N0) (F.at d).sites=true:=by
 rcases aA4 F d with e|e
 .rw[e];rfl
 .cases hb:eo (gn rk N0) (F.at d).sites with
  |true=>rfl
  |false=>rw[<-hb];exact Al ⟨_,e,hb⟩ h
def Frm.pN(A B:Frm)(d:Nat):(Frm.at (A++B) d)=if d∈A.map (·.1)then A.at d else B.at d:=by
 induction A with
 |nil=>simp
 |cons q A ih=>
  rw[jn,Frm.lJ,Frm.lJ,ih];grind
def Pm(l:List Nat)(d:Nat):(Frm.at (l.map λd=>(d,SV.any)) d)=if d∈l then .any else .undef:=by
 induction l with
 |nil=>rfl
 |cons e l ih=>
  rw[cv,Frm.lJ,ih];grind
def vM{F:Frm}{d:Nat}(h:d∈F.map (·.1)):(d,F.at d)∈F:=by
 induction F with
 |nil=>cases h
 |cons q F ih=>
  rw[Frm.lJ];grind
def aP.pN(A B:aP)(s:Nat):(aP.at (A++B) s)=if s∈A.map (·.1)then A.at s else B.at s:=by
 induction A with
 |nil=>simp
 |cons q A ih=>
  obtain⟨e,v⟩:=q;show(match bF s e with|true=>v|false=>aP.at (A++B) s)=if _ then(match bF s e with|true=>v|false=>aP.at A s)else _;cases h:bF s e with
  |true=>simp_all
  |false=>
   have:=ls h;grind
def aP.vM{L:aP}{s:Nat}{ob:SOb}(h:L.at s=some ob):(s,some ob)∈L:=by
 induction L with
 |nil=>cases h
 |cons q L ih=>
  obtain⟨e,v⟩:=q;change (match bF s e with|true=>v|false=>aP.at L s)=some ob at h;cases hb:bF s e with
  |true=>simp_all
  |false=>grind
def Na{x:Nat}:∀{obs:List (Nat×SOb)},x∈obs.map (·.1)->∃q∈obs,q.1=x/\aP.at (obs.map λq=>(q.1,some q.2)) x=some q.2
 |[],h=>by grind
 |q::obs,h=>by
  show∃q'∈q::obs,q'.1=x/\(match bF x q.1 with|true=>some q.2|false=>aP.at (obs.map λq=>(q.1,some q.2)) x)=some q'.2;cases hb:bF x q.1 with
  |true=>simp_all
  |false=>
   rcases aj.1 h with h|h
   .simp_all
   .obtain⟨q',h1,h2,h3⟩:=Na h;grind
def KK{m:Rf}{o':SOb}{a:Nat}{ob':Ob}(hs:o'.inner a=some ob'):p8 m ob' ob':=by
 cases o' with
 |fam ty ity t LL ov=>
  change (match ov.lookup a with|some _=>none|none=>(LL[a]?).map λl=>(⟨ity,t.w,(t.enc l).map .p⟩:Ob))=some ob' at hs;split at hs
  .cases hs
  .cases hL2:LL[a]? with
   |none=>grind
   |some l=>rw[hL2]at hs;cases hs;exact⟨rfl,rfl,jt _ _⟩
 |_=>cases hs
def K9{n:Nat}{F F' upd:Frm}{L L':aP}{N0 N1 N':Nat}{obs:List (Nat×SOb)}{hav:List Nat}{ps:List Prop}{rk:List Nat}(h:Bv n L N0 N1 rk upd obs F' L'=some ps)(hp:∀p∈ps,p)
  (hF:Pre (λd=>d∈hav) F F') (hbad:∀d∈jh F rk N0 F,d∈hav) (hL:gZ L L'):
  ff (F'.av n) L'.fn N' ((km F upd hav).av n) (i6 L obs).fn N1:=by
 unfold Bv at h;split at h
 .cases h
 rename_i p1 m1 h1;split at h
 .cases h
 rename_i p2 mm h2;split at h<;>cases h;rename_i h3 h4 h5 h6
 let mn:Nat->Option (Option Nat):=aBK rk N0 mm
 let m:Rf:=lP mn (gn rk N0)
 have hokM:∀s x,(s,x)∈mm->mI mm s=some x/\((mem rk s=true/\ncl s<N1/\∀o,x=some o->(ncl o<N0->mem rk o=true)/\∀s',(s',some o)∈mm->s'=s)\/(mem rk s=false/\ncl s<N0/\x=some s)):=by
  intro s x hs;have:=gk h3 (s,x) hs;dsimp only at this;split at this
  .rename_i e1 e2;refine⟨?_,.inl ⟨e2,?_⟩⟩
   .unfold isO at e1;split at e1
    .rename_i heq;rw[heq,Gu e1]
    .cases e1
   .split at this
    .simp_all
    .rename_i o e3;refine⟨(jv _ _).1 e3,λo' ho=> ?_⟩;cases ho;split at this
     .rename_i e4;refine⟨λhlt=> ?_,λs' hs'=> ?_⟩
      .rw[(jv _ _).2 hlt]at e4;exact e4
      .have:=gk this (s',some o) hs';rw[show eqO (some o) (some o)=true from Nat.beq_refl o]at this;simp_all
     .cases this
    .cases this
  .rename_i e1 e2;split at this
   .rename_i e3;refine⟨?_,.inr ⟨e2,?_,Gu this⟩⟩
    .unfold isO at e1;split at e1
     .rename_i heq;rw[heq,Gu e1]
     .cases e1
    .unfold gn at e3;split at e3
     .simp_all
     .cases e3
   .cases this
  .cases this
 have hstay:∀s,gn rk N0 s=true->mn s=some (some s)/\ncl s<N0/\mem rk s=false:=by
  intro s hs;have:ncl s<N0/\mem rk s=false:=by
   unfold gn at hs;split at hs
   .rename_i e1 e2;exact⟨(jv _ _).1 e1,e2⟩
   .cases hs
  refine⟨?_,this⟩;show(match mI mm s with|some x=>some x|none=>_)=_;cases hl:mI mm s with
  |some x=>
   rcases(hokM s x (LC hl)).2 with⟨e,_⟩|⟨_,_,e⟩
   .grind
   .rw[e]
  |none=>grind
 have hm:∀s x,mn s=some x->(s,x)∈mm\/(gn rk N0 s=true/\x=some s):=by
  intro s x hs;change (match mI mm s with|some x=>some x|none=>(match gn rk N0 s with|true=>some (some s)|false=>none))=some x at hs;cases hl:mI mm s with
  |some y=>rw[hl]at hs;cases hs;exact .inl (LC hl)
  |none=>
   grind
 have hag:jz m mm:=by
  intro q hq;have:=(hokM q.1 q.2 hq).1;have e:mn q.1=some q.2:=by show(match mI mm q.1 with|some x=>some x|none=>_)=_;rw[this]
  show lP mn (gn rk N0) (aO q.1)=_;rw[Dh,e];rfl
 have hst:∀s,gn rk N0 s=true->vZ m s:=by
  intro s hs a;cases a with
  |zero=>show lP mn _ (aO s)=_;rw[Dh,(hstay s hs).1];rfl
  |succ a=>show lP mn _ (inn s (a+1))=_;rw[LH,hs]
 have hcase:∀s x,m s=some x->(∃y z,s=aO y/\mn y=some z/\x=z.map aO)\/(∃y a,s=inn y (a+1)/\gn rk N0 y=true/\x=some s):=by
  intro s x hs;rcases kE s with⟨y,rfl⟩|⟨y,a,rfl⟩|hno
  .change lP mn _ (aO y)=some x at hs;rw[Dh]at hs;cases hy:mn y with
   |none=>grind
   |some z=>grind
  .change lP mn _ (inn y (a+1))=some x at hs;rw[LH]at hs;grind
  .change lP mn _ s=some x at hs;rw[YE _ _ hno]at hs;cases hs
 have hlt:∀s x,mn s=some x->ncl s<N1:=by
  intro s x hs;rcases hm s x hs with h|⟨h,_⟩
  .rcases(hokM s x h).2 with⟨_,e,_⟩|⟨_,e,_⟩
   .exact e
   .have:=pH h6;omega
  .have:=(hstay s h).2.1;have:=pH h6;omega
 obtain⟨⟨k,hk⟩,hobs⟩:=AZ h2 (λa ha=>hp a (by grind)) hag;have hfst:∀y,(y,some y)∈mm->mem rk y=false->gn rk N0 y=true:=by
  intro y hy hr;rcases(hokM y _ hy).2 with⟨e,_⟩|⟨_,e,_⟩
  .grind
  .unfold gn;rw[(jv _ _).2 e,hr]
 have hag1:jz m m1:=λq hq=>hag q (by grind);have hupd:=M6 h1 (λa ha=>hp a (by grind)) hag1;have h6':=pH h6;refine NS m ?_ ?_ (by rw[Frm.jE,Frm.jE]) ?_ ?_
 .intro s x hs;rcases hcase s x hs with⟨y,z,rfl,h,_⟩|⟨y,a,rfl,h,_⟩
  .rw[show cls (aO y)=ncl y from fO y 0];grind
  .rw[fO];grind
 .intro s s' o hs hs';have inj:∀s s' o,mn s=some (some o)->mn s'=some (some o)->s=s':=by
   intro s s' o hs hs';rcases hm s (some o) hs with h|⟨h,e⟩
   .rcases(hokM s _ h).2 with⟨e1,e2,e3⟩|⟨e1,e2,e3⟩
    .grind
    .rcases hm s' (some o) hs' with h'|⟨h',e'⟩
     .grind
     grind
   .rcases hm s' (some o) hs' with h'|⟨h',e'⟩
    .grind
    grind
  rcases hcase s _ hs with⟨y,z,rfl,h,e⟩|⟨y,a,rfl,h,e⟩
  .rcases hcase s' _ hs' with⟨y',z',rfl,h',e'⟩|⟨y',a',rfl,h',e'⟩
   .cases z with
    |none=>cases e
    |some z=>
     cases z' with
     |none=>cases e'
     |some z'=>
      have e:=mh e;have e':=mh e';have:z=z':=k8 (e.symm.trans e');grind
   .cases z with
    |none=>cases e
    |some z=>
     have e:=mh e;have e':=mh e';have:=(fJ (e.symm.trans e')).2;omega
  .rcases hcase s' _ hs' with⟨y',z',rfl,h',e'⟩|⟨y',a',rfl,h',e'⟩
   .cases z' with
    |none=>cases e'
    |some z'=>
     have e:=mh e;have e':=mh e';have:=(fJ (e'.symm.trans e)).2;omega
   grind
 .intro t ht;rw[Frm.jE]at ht;rw[Frm.mE ht,Frm.mE ht];unfold km;rw[Frm.pN,Frm.pN];split
  .split
   .rename_i hu;exact(hupd _ (vM hu)).1
   .rw[Pm];split
    .trivial
    grind
  .rename_i hin;have hh:t∉hav:=by grind
   have hgood:=Zo (λhb=>hh (hbad t hb));obtain⟨pre,e,hpre⟩:=hF;have:Frm.at F' t=Frm.at F t:=by rw[e,Frm.pN,if_neg];intro h;simp only[bR]at h;obtain⟨q,hq,e⟩:=h;grind
   rw[this];exact zh _ λs hs=>hst s (gk hgood s hs)
 .intro s ob' hs;have kept:∀x o',x∉(obs.map λq=>(q.1,some q.2)).map (·.1)->(i6 L obs).at x=some o'->gn rk N0 x=true/\eo (gn rk N0) o'.sites=true/\L'.at x=some o':=by
   intro x o' hnk ho;unfold i6 at ho;rw[aP.pN,if_neg hnk]at ho;have hnk':mem (yQ obs) x=false:=by
    cases hb:mem (yQ obs) x with
    |false=>rfl
    |true=>
     exfalso;have:=(mem_iff _ _).1 hb;unfold yQ at this;grind
   have:=gk h5 _ (aP.vM ho);dsimp only at this;rw[hnk',ho]at this;dsimp only at this;split at this
   .rename_i hst;refine⟨hst,this,?_⟩;obtain⟨pre,e⟩:=hL;rw[e,aP.pN,if_neg,ho];intro hin;have h4':=h4;rw[e]at h4';rw[show(pre++L).length-L.length=pre.length by simp,Cw]at h4';simp only[bR]at hin;obtain⟨q,hq,e2⟩:=hin;have:=gk h4' q hq;rw[e2,hnk']at this;rw[(jv _ _).2 (hstay x hst).2.1]at this;cases this
   .cases this
  have told:∀x,x∈(obs.map λq=>(q.1,some q.2)).map (·.1)->∃q∈obs,q.1=x/\(i6 L obs).at x=some q.2:=by
   intro x hk;have e:(i6 L obs).at x=aP.at (obs.map λq=>(q.1,some q.2)) x:=by unfold i6;rw[aP.pN,if_pos hk]
   rw[e];exact Na (by grind)
  rcases kE s with⟨x,rfl⟩|⟨x,a,rfl⟩|hno
  .change Sg.a (i6 L obs).at (aO x)=some ob' at hs;rw[Sg.cI]at hs;by_cases hk:x∈(obs.map λq=>(q.1,some q.2)).map (·.1)
   .obtain⟨q,hq,rfl,ho⟩:=told x hk;rw[ho]at hs;cases hs;rcases hobs q hq with⟨_,⟨y,ob,g1,g2,g3⟩|⟨g1,g2,g3⟩⟩|⟨g1,g2,g3,g4⟩
    .rw[g1];exact⟨ob.ob y,by show Sg.a L'.at (aO y)=_;rw[Sg.cI,g2];rfl,g3⟩
    .grind
    .have hq':=hfst q.1 g1 g2;rw[show m (aO q.1)=some (some (aO q.1))from hst q.1 hq' 0];exact⟨q.2.ob q.1,by show Sg.a L'.at (aO q.1)=_;rw[Sg.cI,g3];rfl,Jc _ q.1 (hst q.1 hq') (by grind)⟩
   .cases ho:(i6 L obs).at x with
    |none=>grind
    |some o'=>
     rw[ho]at hs;cases hs;obtain⟨k1,k2,k3⟩:=kept x o' hk ho;rw[show m (aO x)=some (some (aO x))from hst x k1 0];exact⟨o'.ob x,by show Sg.a L'.at (aO x)=_;rw[Sg.cI,k3];rfl,Jc _ x (hst x k1) λs hs=>hst s (gk k2 s hs)⟩
  .change Sg.a (i6 L obs).at (inn x (a+1))=some ob' at hs;rw[Sg.fX]at hs;by_cases hk:x∈(obs.map λq=>(q.1,some q.2)).map (·.1)
   .obtain⟨q,hq,rfl,ho⟩:=told x hk;rw[ho]at hs;rcases hobs q hq with⟨hfl,_⟩|⟨g1,g2,g3,g4⟩
    .have:=SOb.zb hfl a;grind
    .have hq':=hfst q.1 g1 g2;rw[show m (inn q.1 (a+1))=some (some (inn q.1 (a+1)))from hst q.1 hq' (a+1)];exact⟨ob',by show Sg.a L'.at (inn q.1 (a+1))=_;rw[Sg.fX,g3];exact hs,KK hs⟩
   .cases ho:(i6 L obs).at x with
    |none=>grind
    |some o'=>
     rw[ho]at hs;obtain⟨k1,k2,k3⟩:=kept x o' hk ho;rw[show m (inn x (a+1))=some (some (inn x (a+1)))from hst x k1 (a+1)];exact⟨ob',by show Sg.a L'.at (inn x (a+1))=_;rw[Sg.fX,k3];exact hs,KK hs⟩
  .change Sg.a (i6 L obs).at s=some ob' at hs;rw[Sg.jj _ hno]at hs;cases hs
end
end
section
noncomputable section
def yR(N x s z:Nat):Bool:=match iT (ncl z) N,bF z s,bF z x with
 |true,false,false=>true
 |_,_,_=>false
def yD(N x s:Nat)(v:SV):Bool:=match v with
 | .owF y _=>(match iT (ncl y) N,bF y s with|true,false=>true|_,_=>false)
 |v=>eo (yR N x s) v.sites
def mJ(N x s:Nat)(v:SV):Bool:=match v with
 | .agg l=>eo (yD N x s) l
 |v=>yD N x s v
def BW(N x s y:Nat)(ob:SOb):Bool:=match yR N x s y with
 |true=>(match ob with
  | .box _ cs=>eo (mJ N x s) cs
  | .arr _ _ cs=>eo (mJ N x s) cs
  | .row .. =>true
  | .mp _=>true
  | .fam _ _ _ _ ov=>eo (λq:Nat×SV=>mJ N x s q.2) ov)
 |false=>false
open Classical in
def kQ(N x a s:Nat):Rf:=λt=>if cls t<N then(if t=inn x (a+1)then some (some (aO s))else if t=aO s then none else some (some t))else none
def AD{N x s z:Nat}(h:yR N x s z=true):ncl z<N/\z≠s/\z≠x:=by
 unfold yR at h;split at h
 .rename_i h1 h2 h3;exact⟨(jv _ _).1 h1,ls h2,ls h3⟩
 .cases h
def Lz{N x a s t:Nat}(h1:cls t<N)(h2:t≠inn x (a+1))(h3:t≠aO s):kQ N x a s t=some (some t):=by unfold kQ;grind
def zV{N x a s z:Nat}(h1:ncl z<N)(h2:z≠s):kQ N x a s (aO z)=some (some (aO z)):=
 Lz (by rw[show cls (aO z)=ncl z from fO z 0];exact h1) (λe=>by have:=(fJ e).2;omega) (λe=>h2 (k8 e))
def xG{N x a s z b:Nat}(h1:ncl z<N)(h2:z=x->b≠a):kQ N x a s (inn z (b+1))=some (some (inn z (b+1))):=
 Lz (by rw[fO];exact h1) (λe=>h2 (fJ e).1 (by have:=(fJ e).2;omega)) (λe=>by have:=(fJ e).2;omega)
def U1{N x a s z:Nat}(h:yR N x s z=true):vZ (kQ N x a s) z:=by
 obtain⟨h1,h2,h3⟩:=AD h;intro b;cases b with
 |zero=>exact zV h1 h2
 |succ b=>exact xG h1 (by grind)
def KJ{N x a s:Nat}{v:SV}(h:yD N x s v=true):cR (kQ N x a s) v.av v.av:=by
 unfold yD at h;split at h
 .rename_i y n;split at h
  .rename_i h1 h2;exact .inl ⟨_,zV ((jv _ _).1 h1) (ls h2),rfl⟩
  .cases h
 .exact zh v λz hz=>U1 (gk h z hz)
def Jg{N x a s:Nat}:∀{cs:List SV},(∀v∈cs,yD N x s v=true)->fC (kQ N x a s) (avs cs) (avs cs)
 |[],_=>by rfl
 |v::cs,h=>by
  exact⟨_,_,rfl,KJ (by grind),Jg (by grind)⟩
def AE{N x a s:Nat}{v:SV}(h:mJ N x s v=true):cR (kQ N x a s) v.av v.av:=by
 unfold mJ at h;split at h
 .exact zo (Jg (gk h))
 .exact KJ h
def Dj{N x a s:Nat}:∀{cs:List SV},(∀v∈cs,mJ N x s v=true)->fC (kQ N x a s) (avs cs) (avs cs)
 |[],_=>by rfl
 |v::cs,h=>by
  exact⟨_,_,rfl,AE (by grind),Dj (by grind)⟩
def O4(F:Frm)(t:Nat):∀hav:List Nat,Frm.at ((hav.map λd=>(d,SV.any))++F) t=SV.any\/(t∉hav/\Frm.at ((hav.map λd=>(d,SV.any))++F) t=F.at t)
 |[] =>by grind
 |d::hav=>by
  rw[cv,jn,Frm.lJ];by_cases h:t=d
  .grind
  .rw[if_neg h];rcases O4 F t hav with h1|⟨h1,h2⟩
   .exact .inl h1
   grind
def zI{a i:Nat}(h:i≠a):∀ov:List (Nat×SV),(ov.filter λq=> !(bF q.1 a)).lookup i=ov.lookup i
 |[] =>rfl
 |q::ov=>by
  rw[List.filter_cons,dV];cases hq:bF q.1 a with
  |true=>
   have:=dK hq;rw[if_neg (by simp),zI h ov,beq_eq_false_iff_ne.2 (by omega)]
  |false=>
   rw[if_pos (by simp),dV,zI h ov]
def zF{a:Nat}:∀ov:List (Nat×SV),(ov.filter λq=> !(bF q.1 a)).lookup a=none
 |[] =>rfl
 |q::ov=>by
  rw[List.filter_cons];cases hq:bF q.1 a with
  |true=>exact zF ov
  |false=>rw[if_pos (by simp),dV,beq_eq_false_iff_ne.2 (λe=>ls hq e.symm)];exact zF ov
def Ve{n N0 N x a s k:Nat}{F:Frm}{L:aP}{ty ity:TypeId}{lt:LT}{M:List (List lt.ty)}{l:List lt.ty}{ov:List (Nat×SV)}{hav:List Nat}
  (hx:L.at x=some (.fam ty ity lt M ((a,.own s lt k)::ov))) (hs:L.at s=some (.row ity lt l)) (ha:a<M.length) (hk:k=l.length) (hxN:ncl x<N)
  (hov:∀q∈ov,q.1≠a->mJ N x s q.2=true) (hF:∀t,t<n->t∈hav\/mJ N x s (F.at t)=true) (hL:∀y ob,L.at y=some ob->y=x\/y=s\/BW N x s y ob=true):
  ff (F.av n) L.fn N0 (Frm.av n ((hav.map λd=>(d,SV.any))++F)) (aP.fn ((x,some (.fam ty ity lt (M.set a l) (ov.filter λq=> !(bF q.1 a))))::(s,none)::L)) N:=by
 have hxs:x≠s:=λe=>by grind
 refine NS (kQ N x a s) ?_ ?_ (by rw[Frm.jE,Frm.jE]) ?_ ?_
 .intro t y ht;unfold kQ at ht;grind
 .intro t t' o ht ht';unfold kQ at ht ht';grind
 .intro t ht;rw[Frm.jE]at ht;rw[Frm.mE ht,Frm.mE ht];rcases O4 F t hav with h|⟨h1,h2⟩
  .rw[h];trivial
  .rw[h2];exact AE (by grind)
 .intro t ob' ht;have hat:∀y,aP.at ((x,some (.fam ty ity lt (M.set a l) (ov.filter λq=> !(bF q.1 a))))::(s,none)::L) y=if y=x then some (.fam ty ity lt (M.set a l) (ov.filter λq=> !(bF q.1 a)))else if y=s then none else L.at y:=by
   intro y;show(match bF y x with|true=>_|false=>(match bF y s with|true=>_|false=>_))=_;cases h1:bF y x with
   |true=>simp_all
   |false=>
    rw[if_neg (ls h1)];cases h2:bF y s with
    |true=>simp_all
    |false=>rw[if_neg (ls h2)]
  have hset:∀i,i≠a->(M.set a l).getD i [] =M.getD i [] :=by grind
  have hseta:(M.set a l).getD a [] =l:=by rw[dw,List.getElem?_set_self ha];rfl
  have hcons:∀i,i≠a->hZ i ((a,SV.own s lt k)::ov)=ov.lookup i:=by grind
  rcases kE t with⟨y,rfl⟩|⟨y,b,rfl⟩|hno
  .change Sg.a _ (aO y)=some ob' at ht;rw[Sg.cI,hat y]at ht;by_cases hyx:y=x
   .subst hyx;rw[if_pos rfl]at ht;have ht:=mh ht;rw[zV hxN hxs];refine⟨_,by show Sg.a L.at (aO y)=_;rw[Sg.cI,hx];rfl,?_⟩;rw[<-ht];refine⟨rfl,rfl,?_⟩;show fC _ ((bV (M.set a l).length).map (il y (M.set a l) (ov.filter λq=> !(bF q.1 a)))) ((bV M.length).map (il y M ((a,.own s lt k)::ov)));rw[y8];refine uP _ _ _ λi _=> ?_;unfold il;by_cases hi:i=a
    .subst hi;rw[zF,dV,beq_iff_eq.2 rfl,hseta];show cR _ (.own (inn y (i+1)) 0 l.length) (.own (aO s) 0 k);refine .inl ⟨aO s,?_,by rw[hk]⟩;unfold kQ;rw[if_pos (by rw[fO];exact hxN),if_pos rfl]
    .rw[zI hi,hcons i hi,hset i hi];cases ho:ov.lookup i with
     |some v=>exact AE (hov (i,v) (EG ho) hi)
     |none=>
      exact .inl ⟨_,xG hxN λ_=>hi,rfl⟩
   .rw[if_neg hyx]at ht;by_cases hys:y=s
    .grind
    .rw[if_neg hys]at ht;cases ho:L.at y with
     |none=>grind
     |some ob=>
      rw[ho]at ht;have ht:=mh ht;have hk':=((hL y ob ho).resolve_left hyx).resolve_left hys;unfold BW at hk';split at hk'
      case h_2=>cases hk'
      rename_i hz;rw[zV (AD hz).1 hys];refine⟨_,by show Sg.a L.at (aO y)=_;rw[Sg.cI,ho];rfl,?_⟩;rw[<-ht];split at hk'
      .exact⟨rfl,rfl,Dj (gk hk')⟩
      .exact⟨rfl,rfl,Dj (gk hk')⟩
      .exact⟨rfl,rfl,jt _ _⟩
      .refine⟨rfl,rfl,?_⟩;show fC _ (gF (gW _)) (gF (gW _));rw[ry];exact jt _ _
      .refine⟨rfl,rfl,uP _ _ _ λi _=> ?_⟩;unfold il;split
       .rename_i v hv;exact AE (gk hk' (i,v) (EG hv))
       .exact .inl ⟨_,xG (AD hz).1 (by grind),rfl⟩
  .change Sg.a _ (inn y (b+1))=some ob' at ht;rw[Sg.fX,hat y]at ht;by_cases hyx:y=x
   .subst hyx;rw[if_pos rfl]at ht;change (match hZ b (ov.filter λq=> !(bF q.1 a))with|some _=>none|none=>((M.set a l)[b]?).map λl=>(⟨ity,lt.w,(lt.enc l).map .p⟩:Ob))=some ob' at ht;by_cases hb:b=a
    .subst hb;rw[zF,List.getElem?_set_self ha]at ht;have ht:=mh ht;have hm:kQ N y b s (inn y (b+1))=some (some (aO s)):=by unfold kQ;rw[if_pos (by rw[fO];exact hxN),if_pos rfl]
     rw[hm];refine⟨_,by show Sg.a L.at (aO s)=_;rw[Sg.cI,hs];rfl,?_⟩;rw[<-ht];exact⟨rfl,rfl,jt _ _⟩
    .rw[zI hb,List.getElem?_set_ne (Ne.symm hb)]at ht;rw[xG hxN λ_=>hb];refine⟨ob',?_,?_⟩
     .show Sg.a L.at (inn y (b+1))=_;rw[Sg.fX,hx];show(match hZ b ((a,SV.own s lt k)::ov)with|some _=>none|none=>(M[b]?).map λl=>(⟨ity,lt.w,(lt.enc l).map .p⟩:Ob))=_;grind
     .split at ht
      .cases ht
      .cases hM:M[b]? with
       |none=>grind
       |some l'=>
        rw[hM]at ht;rw[<-mh ht];exact⟨rfl,rfl,jt _ _⟩
   .rw[if_neg hyx]at ht;by_cases hys:y=s
    .grind
    .rw[if_neg hys]at ht;cases ho:L.at y with
     |none=>grind
     |some ob=>
      have hk':=((hL y ob ho).resolve_left hyx).resolve_left hys;unfold BW at hk';split at hk'
      case h_2=>cases hk'
      rename_i hz;rw[xG (AD hz).1 (by grind)];rw[ho]at ht;refine⟨ob',by show Sg.a L.at (inn y (b+1))=_;rw[Sg.fX,ho];exact ht,?_⟩;change SOb.inner b ob=some ob' at ht;unfold SOb.inner at ht;split at ht
      .split at ht
       .cases ht
       .rename_i M' _ _ _;cases hM:M'[b]? with
        |none=>grind
        |some l'=>
         rw[hM]at ht;rw[<-mh ht];exact⟨rfl,rfl,jt _ _⟩
      .cases ht
  .change Sg.a _ t=some ob' at ht;rw[Sg.jj _ hno]at ht;cases ht
def Ji{a:Nat}:∀{ov:List (Nat×SV)},(∀p∈mP ov a,p)->(ov.filter λq=> !(bF q.1 a))=ov
 |[],_=>rfl
 |q::ov,h=>by
  have h1:a≠q.1:=h _ bo;have h2:bF q.1 a=false:=by
   cases hb:bF q.1 a with
   |true=>simp_all
   |false=>rfl
  rw[List.filter_cons,if_pos (by rw[h2];rfl),Ji λp hp=>h p (bk _ hp)]
def vY(N x s:Nat)(F:Frm):Frm->List Nat
 |[] =>[]
 |(d,_)::r=>match mJ N x s (F.at d)with
  |true=>vY N x s F r
  |false=>d::vY N x s F r
def FT{N x s t:Nat}{F:Frm}:∀{G:Frm},t∈G.map (·.1)->t∈vY N x s F G\/mJ N x s (F.at t)=true
 |[],h=>by grind
 |(d,v)::G,h=>by
  unfold vY;cases hk:mJ N x s (F.at d)with
  |true=>
   rcases aj.1 h with h|h
   .grind
   .exact FT h
  |false=>
   rcases aj.1 h with h|h
   .grind
   .rcases FT (G:=G) h with h|h
    .exact .inl (bk _ h)
    grind
def Ph{t:Nat}:∀{G:Frm},t∉G.map (·.1)->G.at t=Frm.at [] t
 |[],_=>rfl
 |(d,v)::G,h=>by
  rw[Frm.lJ,if_neg (by grind),Ph (by grind)]
def xd(N x:Nat)(F:Frm)(L:aP):Option (List Prop×Frm×aP):=match L.at x with
 |some (.fam ty ity lt M ((a,.own s lt' k)::ov))=>(match L.at s with
  |some (.row ity' lt2 l)=>(match decEq lt' lt,decEq lt2 lt,bF ity' ity,iT (ncl x) N,eo (λq:Nat×SV=>mJ N x s q.2) ov,eo (λq:Nat×Option SOb=>match bF q.1 x,bF q.1 s,L.at q.1 with|false,false,some ob=>BW N x s q.1 ob|_,_,_=>true) L with
   | .isTrue _,.isTrue h,true,true,true,true=>some ((a<M.length)::(k=l.length)::mP ov a,((vY N x s F F).map λd=>(d,SV.any))++F,(x,some (.fam ty ity lt (M.set a (h▸l:List lt.ty)) ov))::(s,none)::L)
   |_,_,_,_,_,_=>none)
  |_=>none)
 |_=>none
def Pi{y:Nat}{ob:SOb}:∀{L:aP},L.at y=some ob->∃q∈L,q.1=y
 |[],h=>by cases h
 |(k,o)::L,h=>by
  cases hb:bF y k with
  |true=>simp_all
  |false=>
   have:aP.at L y=some ob:=by change (match bF y k with|true=>o|false=>aP.at L y)=some ob at h;rw[hb]at h;exact h
   obtain⟨q,h1,h2⟩:=Pi this;grind
def TW{n N0 N x:Nat}{F F':Frm}{L L':aP}{ps:List Prop}(h:xd N x F L=some (ps,F',L'))(hp:∀p∈ps,p):ff (F.av n) L.fn N0 (F'.av n) L'.fn N:=by
 unfold xd at h;split at h
 case h_2=>cases h
 rename_i ty ity lt M a s lt' k ov hx;split at h
 case h_2=>cases h
 rename_i ity' lt2 l hs;split at h
 case h_2=>cases h
 rename_i e1 e2 _ _ hi hN hov hL;subst e1;subst e2;cases h;have hi:=dK hi;subst hi;have hne:∀p∈mP ov a,p:=by grind
 have:=Ve (n:=n) (N0:=N0) (N:=N) (F:=F) (hav:=vY N x s F F) hx hs (hp _ (by grind)) (hp _ (by grind)) ((jv _ _).1 hN) (λq hq _=>gk hov q hq) (λt _=> ?_) (λy ob ho=> ?_)
 .rw[Ji hne]at this;exact this
 .by_cases hm:t∈F.map (·.1)
  .exact FT hm
  .right;rw[Ph hm];rfl
 .obtain⟨q,hq,rfl⟩:=Pi ho;have:=gk hL q hq;split at this
  .grind
  .by_cases hx':q.1=x
   .omega
   .by_cases hs':q.1=s
    .omega
    .have b1:bF q.1 x=false:=by
      cases hb:bF q.1 x with
      |true=>exact absurd (dK hb) hx'
      |false=>rfl
     have b2:bF q.1 s=false:=by
      cases hb:bF q.1 s with
      |true=>exact absurd (dK hb) hs'
      |false=>rfl
     grind
def sn(N:Nat):Nat->List Nat->Frm->aP->List Prop×Frm×aP
 |0,_,F,L=>([],F,L)
 |_+1,[],F,L=>([],F,L)
 |f+1,x::xs,F,L=>match xd N x F L with
  |some (ps,F',L')=>(match sn N f (x::xs) F' L' with|(qs,r)=>(ps++qs,r))
  |none=>sn N f xs F L
def De{n N:Nat}:∀{f:Nat} {xs:List Nat} {F F':Frm} {L L':aP} {ps:List Prop},sn N f xs F L=(ps,F',L')->(∀p∈ps,p)->∀N0,(ps=[]/\F'=F/\L'=L)\/ff (F.av n) L.fn N0 (F'.av n) L'.fn N
 |0,xs,F,F',L,L',ps,h,_,_=>by cases h;grind
 |f+1,[],F,F',L,L',ps,h,_,_=>by cases h;grind
 |f+1,x::xs,F,F',L,L',ps,h,hp,N0=>by
  unfold sn at h;split at h
  .rename_i p1 F1 L1 h1;split at h;rename_i qs r h2;cases h;have w1:=TW (n:=n) (N0:=N0) h1 λp hq=>hp p (by grind);rcases De (n:=n) h2 (λp hq=>hp p (by grind)) N with⟨_,rfl,rfl⟩|w2
   .exact .inr w1
   .exact .inr λC0 B wI a w hst=>w2 C0 B wI a w (w1 C0 B wI a w hst)
  .exact De h hp N0
def Tv{N x:Nat}{F F':Frm}{L L':aP}{ps:List Prop}(h:xd N x F L=some (ps,F',L')):(∃p,F'=p++F)/\∃q,L'=q++L:=by
 unfold xd at h;split at h
 case h_2=>cases h
 split at h
 case h_2=>cases h
 split at h
 case h_2=>cases h
 cases h;exact⟨⟨_,rfl⟩,⟨[(_,_),(_,_)],rfl⟩⟩
def D4{N:Nat}:∀{f:Nat} {xs:List Nat} {F F':Frm} {L L':aP} {ps:List Prop},sn N f xs F L=(ps,F',L')->(∃p,F'=p++F)/\∃q,L'=q++L
 |0,xs,F,F',L,L',ps,h=>by cases h;simp_all
 |f+1,[],F,F',L,L',ps,h=>by cases h;simp_all
 |f+1,x::xs,F,F',L,L',ps,h=>by
  unfold sn at h;split at h
  .rename_i p1 F1 L1 h1;split at h;rename_i qs r h2;obtain⟨⟨p,e1⟩,⟨q,e2⟩⟩:=Tv h1;obtain⟨⟨p',e3⟩,⟨q',e4⟩⟩:=D4 h2;grind
  .exact D4 h
def Gs:aP->List Nat
 |[] =>[]
 |(k,some (.fam ..))::L=>k::Gs L
 |_::L=>Gs L
end
end
def frS(s:Nat)(cells:List PV)(x' y:AV):Prop:=x'= .any\/x'=y\/∃n,y= .own s 0 n/\x'= .p (.sl n cells)
def frO(s:Nat)(cells:List PV)(o:Option Ob)(ob:Ob):Prop:=o=some ob\/∃ob0,o=some ob0/\ob.ty=ob0.ty/\ob.esz=ob0.esz/\¬(ob.esz=0/\(ob.ty=0\/ob.ty=1))/\ob.cells.length=ob0.cells.length/\
 ∀(i:Nat) x,ob.cells[i]? =some x->∃y,ob0.cells[i]? =some y/\frS s cells x y
def frO.get{s:Nat}{cells:List PV}{o:Option Ob}{ob:Ob}(h:frO s cells o ob):∃ob0,o=some ob0/\ob.ty=ob0.ty/\ob.esz=ob0.esz:=by
 rcases h with h|⟨ob0,h1,h2,h3,_⟩
 .grind
 grind
def DN{F F':List AV}{L L':Sto}{N:Nat}{ty esz:Nat}(s:Nat)(cells:List PV)(hs:L s=some ⟨ty,esz,cells.map .p⟩)(hz:esz≠0)(hl:F'.length=F.length)
  (hF:∀t,t<F.length->frS s cells (F'.getD t .any) (F.getD t .any)) (hL:∀k ob,L' k=some ob->k≠s/\frO s cells (L k) ob):ff F L N F' L' N:=by
 intro C0 B wI a w ⟨⟨ρ,s1,s2,s3⟩,s4,s5,s6,s7⟩;have hdead:∀k,L k=none->L' k=none:=by
  intro k hk;cases h:L' k with
  |none=>rfl
  |some ob=>obtain⟨ob0,h0,_⟩:=(hL k ob h).2.get;grind
 have hmono:∀b o v,bC C0 B w ρ L b o v->bC C0 B w ρ L' b o v:=λb o v ⟨e1,e2,e3⟩=>⟨e1,λk c h=>hdead k (e2 k c h),e3⟩;have hone:∀x' y v,frS s cells x' y->aR ρ (bC C0 B w ρ L) y v->aR ρ (bC C0 B w ρ L') x' v:=by
  rintro x' y v (rfl|rfl|⟨n,rfl,rfl⟩) hv
  .unfold aR;trivial
  .exact aR.mono (λ_ _ h=>h) hmono _ v hv
  .unfold aR at hv|-;obtain⟨q,c,hρ,hcase⟩:=hv;obtain⟨q2,c2,hρ2,hob⟩:=s1.ob s _ hs;rw[hρ]at hρ2;cases hρ2;unfold aU;rcases hcase with⟨h1,h4,h5,_⟩|⟨b,o',c',h1,h4,h5,h6,h7⟩
   .subst h5;rcases hob with⟨_,⟨_,h8,_⟩|⟨h8,_⟩⟩|⟨b,arr,h8,_⟩
    .exact⟨none,0,h4,Nat.le_refl _,λ_=>⟨rfl,by simp_all⟩,λad e=>by cases e⟩
    .grind
    grind
   .obtain⟨rfl,rfl⟩:=h7 rfl;rcases hob with⟨h8,_⟩|⟨b2,arr,h8,h9,h10⟩
    .grind
    .rw[h1]at h8;cases h8;refine⟨_,c',h4,h5,(λe=>by cases e),λad e=> ?_⟩;cases e;refine⟨λ_=>rfl,cL.of _ _ _ λi x hi=> ?_⟩;obtain⟨u,k1,k2,k3⟩:=h10.cells i (.p x) (by grind);unfold aR at k3;refine⟨u,⟨by rw[jo,h10.cell];exact k1,λk c2 hk=> ?_,.inl h9⟩,k2,aU.mono hmono x u k3⟩;cases h:L' k with
     |none=>rfl
     |some ob=>
      obtain⟨hne,h2⟩:=hL k ob h;obtain⟨ob0,h2,_⟩:=h2.get;exact absurd (s1.inj k s ob0 _ b c2 c' h2 hs hk (by rw[hρ,h1])) hne
 refine⟨⟨ρ,⟨?_,?_,?_⟩,s2,?_⟩,s4,s5,by rw[s6,hl],s7⟩
 .intro k ob hk;obtain⟨hne,h2|⟨ob0,h2,g1,g2,g3,g4,g5⟩⟩:=hL k ob hk
  .obtain⟨q,c,hρ,hcase⟩:=s1.ob k ob h2;refine⟨q,c,hρ,?_⟩;rcases hcase with⟨g1,g2⟩|⟨b,arr,g1,g2,g3⟩
   .refine .inl ⟨g1,?_⟩;rcases g2 with g2|⟨g2,g3⟩
    .exact .inl g2
    .exact .inr ⟨g2,g3.mono (λ_ _ h=>h) hmono λ_ _ _ _=>rfl⟩
   .refine .inr ⟨b,arr,g1,g2,⟨g3.blk,g3.box,g3.row,λi x hi=> ?_⟩⟩;obtain⟨v,m1,m2,m3⟩:=g3.cells i x hi;exact⟨v,m1,m2,aR.mono (λ_ _ h=>h) hmono _ v m3⟩
  .obtain⟨q,c,hρ,hcase⟩:=s1.ob k ob0 h2;refine⟨q,c,hρ,?_⟩;rcases hcase with⟨k1,⟨k2,k3,k4⟩|⟨k2,k3⟩⟩|⟨b,arr,k1,k2,k3⟩
   .grind
   .exfalso;refine g3 ⟨by omega,?_⟩;rw[g1];rcases k3 with⟨k3,_⟩|⟨k3,_⟩
    .exact .inl k3
    grind
   .refine .inr ⟨b,arr,k1,k2,⟨by rw[g1];exact k3.blk,λh=>by rw[g4];exact k3.box (by omega),λh=>by rw[g4,g2];exact k3.row (by omega),λi x hi=> ?_⟩⟩;obtain⟨y,y1,y2⟩:=g5 i x hi;obtain⟨v,m1,m2,m3⟩:=k3.cells i y y1;grind
 .intro k k' o o' b c c' h1 h2 h3 h4;obtain⟨o1,e1,_⟩:=(hL k o h1).2.get;obtain⟨o2,e2,_⟩:=(hL k' o' h2).2.get;exact s1.inj k k' o1 o2 b c c' e1 e2 h3 h4
 .intro k k' o o' c c' h1 h2 h3 h4 h5 h6 h7;obtain⟨o1,e1,a1,a2⟩:=(hL k o h1).2.get;obtain⟨o2,e2,b1,b2⟩:=(hL k' o' h2).2.get;refine s1.mpi k k' o1 o2 c c' e1 e2 (by omega) (by omega) h5 h6 ?_;unfold rN at h7|-;grind
 .intro t;rcases nU t F.length with h|h
  .grind
  .rw[dw,lr (by omega)];show aR _ _ .any _;unfold aR;trivial
noncomputable section
def yF(d:Nat)(F:Frm)(L:aP):Option (List Prop×Frm×aP):=match F.at d with
 | .ownx s n=>(match L.at s with
   |some (.arr _ ez cs)=>(match bK (avs cs),bF ez 0 with
    |some _,false=>some ([],(d,.sl n cs)::F,(s,none)::L)
    |_,_=>none)
   |_=>none)
 | .own s _ n=>(match L.at s with
   |some (.row _ lt l)=>some ([n=l.length],(d,.lst lt l)::F,(s,none)::L)
   |_=>none)
 |_=>none
def Av{L:aP}{s:Nat}{ob:SOb}(hs:L.at s=some ob)(hf:ob.flat=true){k:Nat}{o:Ob}(h:aP.fn ((s,none)::L) k=some o):k≠aO s/\L.fn k=some o:=by have h1:=(bY.flat (σ:=L.at) (rd:=[]) (W:=[(s,none)]) λq hq=>by rw[bZ.1 hq,hs];exact⟨hf,rfl⟩).2.2;rw[aP.Bi]at h1;have h2:aP.fn ((s,none)::L)=ai L.fn [(aO s,none)] :=h1.symm;rw[h2]at h;unfold ai at h;grind
def N5{n d t:Nat}{v:SV}{F:Frm}(ht:t<n):(Frm.av n ((d,v)::F)).getD t .any=if t=d then v.av else(F.av n).getD t .any:=by rw[Frm.mE ht,Frm.mE ht,Frm.lJ];split<;>rfl
def UH{n N d:Nat}{F F':Frm}{L L':aP}{ps:List Prop}(h:yF d F L=some (ps,F',L'))(hp:∀p∈ps,p):ff (F.av n) L.fn N (F'.av n) L'.fn N:=by
 unfold yF at h;split at h
 .rename_i s m hd;split at h
  case h_2=>cases h
  rename_i ty ez cs hs;split at h<;>cases h;rename_i q hq hz;refine DN (aO s) q (ty:=ty) (esz:=ez) ?_ (ls hz) (by rw[Frm.jE,Frm.jE]) ?_ λk ob hk=>⟨(Av hs rfl hk).1,.inl (Av hs rfl hk).2⟩
  .show Sg.a L.at (aO s)=_;rw[Sg.cI,hs,<-iu hq];rfl
  .intro t ht;rw[Frm.jE]at ht;rw[N5 ht];by_cases e:t=d
   .subst e;rw[if_pos rfl,Frm.mE ht,hd];exact .inr (.inr ⟨m,rfl,by show(match bK (avs cs)with|some q=>AV.p (.sl m q)|none=> .any)=_;rw[hq]⟩)
   .rw[if_neg e];exact .inr (.inl rfl)
 .rename_i s t0 m hd;split at h<;>cases h;rename_i ty lt l hs;have hm:m=l.length:=hp _ (bZ.2 rfl);refine DN (aO s) (lt.enc l) (ty:=ty) (esz:=lt.w) ?_ (nZ lt.kP) (by rw[Frm.jE,Frm.jE]) ?_ λk ob hk=>⟨(Av hs rfl hk).1,.inl (Av hs rfl hk).2⟩
  .show Sg.a L.at (aO s)=_;rw[Sg.cI,hs];rfl
  .intro t ht;rw[Frm.jE]at ht;rw[N5 ht];by_cases e:t=d
   .subst e;rw[if_pos rfl,Frm.mE ht,hd];exact .inr (.inr ⟨m,rfl,by rw[hm];rfl⟩)
   .rw[if_neg e];exact .inr (.inl rfl)
 .cases h
def H6(L:aP):SV->Option (List Prop×SV×Nat)
 | .ownx s n=>(match L.at s with
   |some (.arr _ ez cs)=>(match bK (avs cs),bF ez 0 with
    |some _,false=>some ([],.sl n cs,s)
    |_,_=>none)
   |_=>none)
 | .own s _ n=>(match L.at s with
   |some (.row _ lt l)=>some ([n=l.length],.lst lt l,s)
   |_=>none)
 |_=>none
def WX{L:aP}{v w:SV}{s:Nat}{ps:List Prop}(h:H6 L v=some (ps,w,s))(hp:∀p∈ps,p):∃ob,L.at s=some ob/\ob.flat=true/\∃ty esz cells n,ob.ob s=⟨ty,esz,cells.map .p⟩/\esz≠0/\v.av= .own (aO s) 0 n/\w.av= .p (.sl n cells)/\(∀ty cs,ob≠ .box ty cs):=by
 unfold H6 at h;split at h
 .rename_i s m;split at h
  case h_2=>cases h
  rename_i ty ez cs hs;split at h<;>cases h;rename_i q hq hz;exact⟨_,hs,rfl,ty,ez,q,m,by rw[<-iu hq];rfl,ls hz,rfl,by show(match bK (avs cs)with|some q=>AV.p (.sl m q)|none=> .any)=_;rw[hq],λ_ _=>nofun⟩
 .rename_i s t0 m;split at h<;>cases h;rename_i ty lt l hs;have hm:m=l.length:=hp _ (bZ.2 rfl);exact⟨_,hs,rfl,ty,lt.w,lt.enc l,m,rfl,nZ lt.kP,rfl,by rw[hm];rfl,λ_ _=>nofun⟩
 .cases h
def yG(k i:Nat)(L:aP):Option (List Prop×aP):=match L.at k with
 |some (.box ty cs)=>(match cs[i]?,mf ty 1 with
  |some v,false=>(match H6 L v with
   |some (ps,w,s)=>some (ps,(k,some (.box ty (cs.set i w)))::(s,none)::L)
   |none=>none)
  |_,_=>none)
 |_=>none
def UI{n N k i:Nat}{F:Frm}{L L':aP}{ps:List Prop}(h:yG k i L=some (ps,L'))(hp:∀p∈ps,p):ff (F.av n) L.fn N (F.av n) L'.fn N:=by
 unfold yG at h;split at h
 case h_2=>cases h
 rename_i ty cs hk;split at h
 case h_2=>cases h
 rename_i v hv hty;split at h<;>cases h;rename_i w s hf;obtain⟨ob,e1,e2,tys,esz,cells,m,e3,e4,e5,e6,e7⟩:=WX hf hp;have hks:k≠s:=λe=>by grind
 have hty:¬ty<=1:=λhh=>by rw[Nat.ble_eq_true_of_le hh]at hty;cases hty
 have up:aP.fn ((k,some (.box ty (cs.set i w)))::(s,none)::L)=ai L.fn [(aO k,some ((SOb.box ty (cs.set i w)).ob k)),(aO s,none)] :=by
  have h1:=(bY.flat (σ:=L.at) (rd:=[]) (W:=[(k,some (.box ty (cs.set i w))),(s,none)]) λq hq=>by
   rcases aj.1 hq with rfl|hq
   .rw[hk];exact⟨rfl,rfl⟩
   .rw[bZ.1 hq,e1];exact⟨e2,rfl⟩).2.2
  rw[aP.Bi]at h1;exact h1.symm
 refine DN (aO s) cells (ty:=tys) (esz:=esz) ?_ e4 rfl (λt ht=> .inr (.inl rfl)) λj ob' hj=> ?_
 .show Sg.a L.at (aO s)=_;rw[Sg.cI,e1,eE,e3]
 .rw[up]at hj;unfold ai at hj;rw[dV,dV]at hj;by_cases h1:j=aO k
  .subst h1;rw[beq_iff_eq.2 rfl]at hj;cases hj;refine⟨λe=>hks (k8 e),.inr ⟨(SOb.box ty cs).ob k,by show Sg.a L.at (aO k)=_;rw[Sg.cI,hk];rfl,rfl,rfl,?_,?_,?_⟩⟩
   .rintro⟨_,hh|hh⟩
    .have hh:ty=0:=hh;grind
    .have hh:ty=1:=hh;grind
   .show(avs (cs.set i w)).length=(avs cs).length;rw[jV,jV,y8]
   .intro a x hx;have hx:(avs (cs.set i w))[a]? =some x:=hx;rw[O3,yz]at hx;by_cases ha:i=a
    .subst ha;have hlt:i<cs.length:=by
      rcases nU i cs.length with h|h
      .exact h
      .grind
     rw[if_pos rfl,if_pos (by grind)]at hx;cases hx;exact⟨v.av,by show(avs cs)[i]? =_;rw[xu,hv];rfl,.inr (.inr ⟨m,e5,e6⟩)⟩
    .rw[if_neg ha]at hx;exact⟨x,hx,.inr (.inl rfl)⟩
  .rw[beq_eq_false_iff_ne.2 h1]at hj;by_cases h2:j=aO s
   .grind
   .rw[beq_eq_false_iff_ne.2 h2]at hj;exact⟨h2,.inl hj⟩
def VE{k i:Nat}{L L':aP}{ps:List Prop}(h:yG k i L=some (ps,L')):∃q,L'=q++L:=by
 unfold yG at h;split at h
 case h_2=>cases h
 split at h
 case h_2=>cases h
 split at h<;>cases h;exact⟨[(_,_),(_,_)],rfl⟩
def Ha(k:Nat):Nat->List SV->List (Nat×Nat)
 |_,[] =>[]
 |i,.lst _ _::r=>(k,i)::Ha k (i+1) r
 |i,_::r=>Ha k (i+1) r
def H8:List (Nat×SOb)->List (Nat×Nat)
 |[] =>[]
 |(k,.box _ cs)::r=>Ha k 0 cs++H8 r
 |_::r=>H8 r
def tF:List (Nat×Nat)->aP->List Prop×aP
 |[],L=>([],L)
 |d::ds,L=>match yG d.1 d.2 L with
  |some (ps,L')=>(match tF ds L' with|(qs,r)=>(ps++qs,r))
  |none=>tF ds L
def Dm{n N:Nat}{F:Frm}:∀{ds:List (Nat×Nat)} {L L':aP} {ps:List Prop},tF ds L=(ps,L')->(∀p∈ps,p)->ff (F.av n) L.fn N (F.av n) L'.fn N
 |[],L,L',ps,h,_=>by cases h;exact ff.rfl
 |d::ds,L,L',ps,h,hp=>by
  unfold tF at h;split at h
  .rename_i p1 L1 h1;split at h;rename_i qs r h2;cases h;have w1:=UI (n:=n) (N:=N) (F:=F) h1 λp hq=>hp p (fT _ hq);have w2:=Dm (n:=n) (N:=N) (F:=F) h2 λp hq=>hp p (fB _ hq);exact λC0 B wI a w hst=>w2 C0 B wI a w (w1 C0 B wI a w hst)
  .exact Dm h hp
def ER:∀{ds:List (Nat×Nat)} {L L':aP} {ps:List Prop},tF ds L=(ps,L')->∃q,L'=q++L
 |[],L,L',ps,h=>by cases h;simp_all
 |d::ds,L,L',ps,h=>by
  unfold tF at h;split at h
  .rename_i p1 L1 h1;split at h;rename_i qs r h2;cases h;obtain⟨q,e2⟩:=VE h1;obtain⟨q',e4⟩:=ER h2;grind
  .exact ER h
def H7:Frm->List Nat
 |[] =>[]
 |(d,.lst _ _)::r=>d::H7 r
 |_::r=>H7 r
def tK:List Nat->Frm->aP->List Prop×Frm×aP
 |[],F,L=>([],F,L)
 |d::ds,F,L=>match yF d F L with
  |some (ps,F',L')=>(match tK ds F' L' with|(qs,r)=>(ps++qs,r))
  |none=>tK ds F L
def EQ{n N:Nat}:∀{ds:List Nat} {F F':Frm} {L L':aP} {ps:List Prop},tK ds F L=(ps,F',L')->(∀p∈ps,p)->ff (F.av n) L.fn N (F'.av n) L'.fn N
 |[],F,F',L,L',ps,h,_=>by cases h;exact ff.rfl
 |d::ds,F,F',L,L',ps,h,hp=>by
  unfold tK at h;split at h
  .rename_i p1 F1 L1 h1;split at h;rename_i qs r h2;cases h;have w1:=UH (n:=n) (N:=N) h1 λp hq=>hp p (fT _ hq);have w2:=EQ (n:=n) (N:=N) h2 λp hq=>hp p (fB _ hq);exact λC0 B wI a w hst=>w2 C0 B wI a w (w1 C0 B wI a w hst)
  .exact EQ h hp
def VD{d:Nat}{F F':Frm}{L L':aP}{ps:List Prop}(h:yF d F L=some (ps,F',L')):(∃p,F'=p++F)/\∃q,L'=q++L:=by
 unfold yF at h;split at h
 .split at h
  case h_2=>cases h
  split at h<;>cases h;exact⟨⟨[_],rfl⟩,⟨[_],rfl⟩⟩
 .split at h<;>cases h;exact⟨⟨[_],rfl⟩,⟨[_],rfl⟩⟩
 .cases h
def FI:∀{ds:List Nat} {F F':Frm} {L L':aP} {ps:List Prop},tK ds F L=(ps,F',L')->(∃p,F'=p++F)/\∃q,L'=q++L
 |[],F,F',L,L',ps,h=>by cases h;simp_all
 |d::ds,F,F',L,L',ps,h=>by
  unfold tK at h;split at h
  .rename_i p1 F1 L1 h1;split at h;rename_i qs r h2;cases h;obtain⟨⟨p,e1⟩,⟨q,e2⟩⟩:=VD h1;obtain⟨⟨p',e3⟩,⟨q',e4⟩⟩:=FI h2;grind
  .exact FI h
end
noncomputable section
inductive Ann:Type 1
 |mk (Y:Type) (wit:Frm->aP->Option Y) (rk:List Nat) (inv:Y->List Prop) (upd:Y->Frm) (obs:Y->List (Nat×SOb)) (mu:Y->Nat) (inner:Y->List (Nat×Ann))
def QH:List (Nat×Ann)->Nat->Option Ann
 |[],_=>none
 |(k,a)::l,x=>match bF x k with|true=>some a|false=>QH l x
def asg:Code->List Nat
 | .region _ ops _=>ops.toList.filterMap (·.dst)
 | .seq a b=>asg a++asg b
 | .cond _ t e=>asg t++asg e
 | .block _ c=>asg c
 | .loop c=>asg c
 | .scope c=>asg c
 |_=>[]
def rC:Code->Option Nat
 | .region id _ _=>some id
 | .seq a b=>(match rC a with|some k=>some k|none=>rC b)
 | .cond _ t e=>(match rC t with|some k=>some k|none=>rC e)
 | .block _ c=>rC c
 | .loop c=>rC c
 | .scope c=>rC c
 |_=>none
def Hk(A:List (Nat×Ann))(c:Code)(j:Nat):Option Ann:=match rC c with
 |some k=>QH A (k+j)
 |none=>none
def rH(N:Nat):List Nat->Nat
 |[] =>N
 |s::l=>(match iT (ncl s) (rH N l)with|true=>rH N l|false=>ncl s+1)
abbrev oT:=Exit->Frm->aP->Nat->Fm
def Hm(X:Cx)(n:Nat)(raw:Nat->Nat->Bool)(id:Nat)(ops:List Oper)(draw:Bool)(F:Frm)(L:aP)(N:Nat)(K:Frm->aP->Fm):Fm:=match draw with
 |true=>(match X.P.follows .mixedOrders,Bt ops (Gz ops),dOk ops n with
  |true,true,true=>gP X n (raw id) N (ops.map (·.dst)) ops 0 F L [] λF L log=>(match x6 (Gz ops) log with|true=>K F L|false=> .stuck (id+100000))
  |_,_,_=> .stuck (id+200000))
 |false=>(match gOk ops with
  |true=>gP X n (raw id) N (ops.map (·.dst)) ops 0 F L [] λF L _=>K F L
  |false=> .stuck (id+300000))
def yd(n:Nat)(F:Frm)(L:aP)(N:Nat)(rk:List Nat)(upd:Frm)(obs:List (Nat×SOb))(qs:List Prop)(F':Frm)(L':aP):Fm:=match tK (H7 upd) F' L' with
 |(pz,F0,La)=>match tF (H8 obs) La with
  |(pb,L0)=>match sn NM 100 (Gs L0) F0 L0 with
   |(p0,F1,L1)=>(match eo (λq:Nat×SV=>mem ((F'.take (F'.length-F.length)).map (·.1)) q.1) (F1.take (F1.length-F'.length)),Bv n L N (rH N rk) rk upd obs F1 L1 with
    |true,some ps=>rA (pz++(pb++(p0++(ps++qs)))) .tt
    |_,_=> .stuck 400000)
def exq{Y:Type}(w:Option Y)(f:Y->Fm):Fm:=match w with
 |some y=>f y
 |none=> .ex Y f
def EY{Y:Type}{w:Option Y}{f:Y->Fm}(h:(exq w f).holds):∃y,(f y).holds:=by
 cases w with
 |some y=>exact⟨y,h⟩
 |none=>exact h
def PY(A:List (Nat×Ann))(c:Code):Nat->Option Nat
 |0=>none
 |k+1=>(match Hk A c (30001+k)with|some _=>some (k+1)|none=>PY A c k)
def unr(body:oT->Frm->aP->Nat->Fm)(Q:oT):Nat->Frm->aP->Nat->Fm
 |0,_,_,_=> .stuck 810000
 |k+1,F,L,N=>body (λe F' L' N'=>match e with| .normal=>unr body Q k F' L' N'|e=>Q e F' L' N') F L N
abbrev Inl:=Nat->List SV->Frm->Nat->aP->Nat->(SV->aP->Nat->Fm)->Fm
def HX:Inl:=λ_ _ _ _ _ _ _=> .stuck 990000
def yC:List Oper->Option (List Oper×Oper)
 |[] =>none
 |o::l=>(match yC l with|some (p,q)=>some (o::p,q)|none=>some ([],o))
def LJ:∀{l pre:List Oper} {o:Oper},yC l=some (pre,o)->l=pre++[o]
 |[],pre,o,h=>by cases h
 |x::l,pre,o,h=>by
  unfold yC at h;split at h
  .rename_i p q hp;cases h;rw[LJ hp];rfl
  .rename_i hp;cases h;cases l with
   |nil=>rfl
   |cons y l=>
    unfold yC at hp;grind
def Hd(X:Cx)(ops:List Oper):Option (List Oper×Oper×Nat×List Operand):=match yC ops with
 |some (pre,o)=>(match o.guard,o.op with
  |none,.call {callee:= .value (.func f),args, .. }=>(match X.inl f with|true=>some (pre,o,f,args.toList)|false=>none)
  |_,_=>none)
 |none=>none
def U4{X:Cx}{ops pre:List Oper}{o:Oper}{f:Nat}{args:List Operand}(h:Hd X ops=some (pre,o,f,args)):ops=pre++[o]/\o.guard=none/\∃c:Call,o.op= .call c/\c.callee= .value (.func f)/\c.args.toList=args:=by
 unfold Hd at h;split at h
 case h_2=>cases h
 rename_i p q hl;split at h
 case h_2=>cases h
 rename_i hg ho;split at h<;>cases h;exact⟨LJ hl,hg,_,ho,rfl,rfl⟩
def Hl(X:Cx)(I:Inl):Prop:=∀(f:Nat) (xs:List SV) (F:Frm) (n:Nat) (L:aP) (N:Nat) (K:SV->aP->Nat->Fm) (o:Oper) (c:Call),o.op= .call c->c.callee= .value (.func f)->c.args.toList.map (j5 (F.av n))=avs xs->(I f xs F n L N K).holds->
 tQ X.P o (F.av n) L.fn N λFA LA N'=>∃r L',r.ok/\FA=eK (F.av n) o.dst r.av/\LA=L'.fn/\gZ L L'/\(K r L' N').holds
def Mg(X:Cx):Hl X HX:=λ_ _ _ _ _ _ _ _ _ _ _ _ h=>h.elim
def vc(X:Cx)(I:Inl)(n:Nat)(raw:Nat->Nat->Bool):Code->(Nat->Bool)->List (Nat×Ann)->oT->Frm->aP->Nat->Fm
 | .skip,_,_,Q,F,L,N=>Q .normal F L N
 | .region id ops draw,_,_,Q,F,L,N=>(match draw,Hd X ops.toList with
   |false,some (pre,o,f,args)=>gP X n (raw id) N (ops.toList.map (·.dst)) pre 0 F L [] λF L _=>I f (args.map (tG n F)) F n L (N+pre.length) λr L' N'=>Q .normal (oW n F o.dst r) L' N'
   |_,_=>Hm X n raw id ops.toList draw F L N λF L=>Q .normal F L (N+ops.size))
 | .seq a b,al,A,Q,F,L,N=>(match Hk A b 10000 with
   |none=>vc X I n raw a al A (λe F L N=>match e with| .normal=>vc X I n raw b al A Q F L N|e=>Q e F L N) F L N
   |some (.mk Y wit rk inv upd obs _ inner)=>(match eo al (jh F rk N F)with
    |true=> .both
     (vc X I n raw a (mem (asg a)) A (λe F1 L1 N1=>match e with| .normal=>exq (wit F1 L1) λy=>yd n F L N rk (upd y) (obs y) (inv y) F1 L1|e=>Q e F1 L1 N1) F L N)
     (.all Y λy=>H3 (inv y) (match eo (λq=>mem (asg a++jh F rk N F) q.1) (upd y)with
       |true=>vc X I n raw b al (inner y++A) Q (km F (upd y) (asg a++jh F rk N F)) (i6 L (obs y)) (rH N rk)
       |false=> .stuck 500000))
    |false=> .stuck 600000))
 | .cond c t e,al,A,Q,F,L,N=>(match tG n F c with
   | .lit true=>vc X I n raw t al A Q F L N
   | .lit false=>vc X I n raw e al A Q F L N
   | .prop p _=> .both (.imp p (vc X I n raw t al A Q F L N)) (.imp (¬p) (vc X I n raw e al A Q F L N))
   | .bool b=> .both (.imp (b=true) (vc X I n raw t al A Q F L N)) (.imp (b=false) (vc X I n raw e al A Q F L N))
   |_=> .stuck 700000)
 | .block id c,al,A,Q,F,L,N=>vc X I n raw c al A (λe F L N=>match e with| .exit id'=>(match bF id' id with|true=>Q .normal F L N|false=>Q (.exit id') F L N)|e=>Q e F L N) F L N
 | .loop c,al,A,Q,F,L,N=>(match Hk A c 0 with
   |none=>(match PY A c 6 with
    |some k=>unr (λQ F L N=>vc X I n raw c al A Q F L N) Q k F L N
    |none=> .stuck 800000)
   |some (.mk Y wit rk inv upd obs mu inner)=>(match eo al (jh F rk N F)with
    |true=> .both
     (exq (wit F L) λy=>yd n F L N rk (upd y) (obs y) (inv y) F L)
     (.all Y λx=>H3 (inv x) (match eo (λq=>mem (asg c++jh F rk N F) q.1) (upd x)with
       |true=>vc X I n raw c (mem (asg c)) (inner x++A) (λe F1 L1 N1=>match e with| .normal=>exq (wit F1 L1) λy=>yd n F L N rk (upd y) (obs y) (inv y++[mu y<mu x]) F1 L1|e=>Q e F1 L1 N1) (km F (upd x) (asg c++jh F rk N F)) (i6 L (obs x)) (rH N rk)
       |false=> .stuck 500000))
    |false=> .stuck 600000))
 | .exit id,_,_,Q,F,L,N=>Q (.exit id) F L N
 | .ret,_,_,Q,F,L,N=>Q .ret F L N
 | .scope c,al,A,Q,F,L,N=>vc X I n raw c al A (λe F L N=>match e with| .goto _=> .stuck 910001|e=>Q e F L N) F L N
 | .label _,_,_,Q,F,L,N=>Q .normal F L N
 |_,_,_,_,_,_,_=> .stuck 900000
def gr.mono{n:Nat}{S T:Nat->Prop}{F:Frm}{L:aP}{FA:List AV}{LA:Sto}{G H:Frm->aP->Prop}(hS:∀d,S d->T d)(hG:∀F L,F.ok->G F L->H F L)(h:gr n S F L FA LA G):gr n T F L FA LA H:=by obtain⟨F',L',a,b,c,d,e,f⟩:=h;exact⟨F',L',a,b,c,d.mono hS,e,hG F' L' c f⟩
def least{p:Nat->Prop}(h:∃k,p k):∃k,p k/\∀j,p j->k<=j:=by
 obtain⟨k,hk⟩:=h;induction k using Nat.strongRecOn with
 |ind k ih=>
  grind
def LX{F upd:Frm}{hav:List Nat}:Pre (λd=>d∈upd.map (·.1)\/d∈hav) F (km F upd hav):=by refine⟨upd++(hav.map λd=>(d,SV.any)),by unfold km;simp,λq hq=> ?_⟩;grind
def EP{L:aP}{obs:List (Nat×SOb)}:gZ L (i6 L obs):=⟨_,rfl⟩
def Mv{F upd:Frm}{hav:List Nat}(hF:F.ok)(hu:∀q∈upd,q.2.ok):(km F upd hav).ok:=by
 intro t;unfold km;rw[Frm.pN,Frm.pN];split
 .split
  .rename_i h;exact hu _ (vM h)
  .rw[Pm];split<;>trivial
 .exact hF t
def Oj{n:Nat}{F':Frm}:∀{upd:Frm} {ps:List Prop} {r:Rm},vU n F' upd=some (ps,r)->∀q∈upd,q.2.ok
 |[],ps,r,_,q,hq=>by cases hq
 |(d,v)::upd,ps,r,h,q,hq=>by
  unfold vU at h;split at h<;>cases h;rename_i p1 m1 p2 m2 h1 h2 h3 h4;rcases aj.1 hq with rfl|hq
  .exact SV.nF h2
  .exact Oj h4 q hq
def GJ{n:Nat}{F F' upd:Frm}{L L':aP}{N N':Nat}{rk:List Nat}{obs:List (Nat×SOb)}{hav:List Nat}{qs:List Prop}(h:(yd n F L N rk upd obs qs F' L').holds)
  (hF:Pre (λd=>d∈hav) F F') (hbad:∀d∈jh F rk N F,d∈hav) (hL:gZ L L'):
  ff (F'.av n) L'.fn N' ((km F upd hav).av n) (i6 L obs).fn (rH N rk)/\(∀p∈qs,p)/\∀q∈upd,q.2.ok:=by
 unfold yd at h;split at h;rename_i pz F0 La hz;split at h;rename_i pb L0 hb;split at h;rename_i p0 F1 L1 h0;split at h
 .rename_i ps hc hm;have hp:=(re h).1;obtain⟨⟨pa,ea1⟩,⟨qa,ea2⟩⟩:=D4 h0;obtain⟨⟨pb',eb1⟩,⟨qb,eb2⟩⟩:=FI hz;obtain⟨qc,ec2⟩:=ER hb;obtain⟨p,e1⟩:∃p,F1=p++F':=by grind
  obtain⟨q,e2⟩:∃q,L1=q++L':=by grind
  have wz1:=EQ (n:=n) (N:=N') hz λp hpp=>hp p (by grind);have wz2:=Dm (n:=n) (N:=N') (F:=F0) hb λp hpp=>hp p (by grind);have wz:ff (F'.av n) L'.fn N' (F0.av n) L0.fn N':=λC0 B wI a w hst=>wz2 C0 B wI a w (wz1 C0 B wI a w hst);have hp:∀p∈p0++(ps++qs),p:=λp hpp=>hp p (by grind);have hF1:Pre (λd=>d∈hav) F F1:=by
   obtain⟨pre,e3,hpre⟩:=hF;refine⟨p++pre,by grind,λr hr=> ?_⟩;rcases bi.1 hr with hr|hr
   .have:=gk hc r (by rw[e1,show(p++F').length-F'.length=p.length by simp,Cw];exact hr);obtain⟨r',h1,h2⟩:=bR.1 ((mem_iff _ _).1 this);grind
   .grind
  have hL1:gZ L L1:=by obtain⟨pre,e3⟩:=hL;exact⟨q++pre,by grind⟩
  have hps:∀p∈ps,p:=λp hpp=>hp p (by grind);refine⟨?_,λp hpp=>hp p (by grind),?_⟩
  .rcases De (n:=n) h0 (λp hpp=>hp p (by grind)) N' with⟨_,f1,f2⟩|w
   .have:=K9 (N':=N') hm hps hF1 hbad hL1;rw[f1,f2]at this;exact λC0 B wI a w' hst=>this C0 B wI a w' (wz C0 B wI a w' hst)
   .have:=K9 (N':=NM) hm hps hF1 hbad hL1;exact λC0 B wI a w' hst=>this C0 B wI a w' (w C0 B wI a w' (wz C0 B wI a w' hst))
  unfold Bv at hm;split at hm
  .cases hm
  .rename_i h1;exact Oj h1
 .exact h.elim
def NT{X:Cx}(hX:X.Ok){n:Nat}{raw:Nat->Nat->Bool}{id:Nat}{ops:Array Oper}{draw:Bool}{F:Frm}{L:aP}{N:Nat}{K:Frm->aP->Fm}(hF:F.ok)(h:(Hm X n raw id ops.toList draw F L N K).holds):
  SP X.P draw ops.toList (F.av n) L.fn N λFA LA=>gr n (λd=>d∈asg (.region id ops draw)) F L FA LA λF' L'=>(K F' L').holds:=by
 have hd:∀o∈ops.toList,o.dst∈ops.toList.map (·.dst):=by grind
 have hS:∀d,some d∈ops.toList.map (·.dst)->d∈asg (.region id ops draw):=by intro d hd;obtain⟨o,ho,e⟩:=bR.1 hd;exact Iq.2 ⟨o,ho,e⟩
 unfold Hm at h;split at h
 .split at h
  .rename_i h1 h2 h3;refine⟨_,h1,h2,by rw[Frm.jE];exact h3,?_⟩;refine jG ?_ (xe hX ops.toList 0 F L [] hd hF h);intro FA LA log ht;have hf:x6 (Gz ops.toList) log=true:=by
    obtain⟨_,_,_,_,_,_,_,hh⟩:=ht;split at hh
    .assumption
    .exact hh.elim
   refine⟨hf,ht.mono hS λF L _ hh=> ?_⟩;grind
  .exact h.elim
 .split at h
  .rename_i h1;exact⟨h1,jG (λ_ _ _ ht=>ht.mono hS λ_ _ _ h=>h) (xe hX ops.toList 0 F L [] hd hF h)⟩
  .exact h.elim
def El{X:Cx}(hX:X.Ok){I:Inl}(hI:Hl X I){n:Nat}{raw:Nat->Nat->Bool}:∀(c:Code) (al:Nat->Bool) (A:List (Nat×Ann)) (Q:oT) (F:Frm) (L:aP) (N:Nat),(∀d∈asg c,al d=true)->F.ok->(vc X I n raw c al A Q F L N).holds->
  awp X.P c (λe FA LA N'=>gr n (λd=>al d=true) F L FA LA λF' L'=>(Q e F' L' N').holds) (F.av n) L.fn N:=by
 intro c;induction c with
 |skip=>intro al A Q F L N hal hF h;exact⟨F,L,rfl,rfl,hF,Pre.rfl,gZ.rfl,h⟩
 |region id ops draw=>
  intro al A Q F L N hal hF h;unfold vc at h;cases draw with
  |true=>
   have:=NT (draw:=true) hX hF h;left;obtain⟨anc,h1,h2,h3,h4⟩:=this;exact⟨anc,h1,h2,h3,jG (λF L log ⟨a,b⟩=>⟨a,b.mono hal λ_ _ _ h=>h⟩) h4⟩
  |false=>
  split at h
  .rename_i pre o f args _ hin;obtain⟨e1,e2,c,e3,e4,e5⟩:=U4 hin;have hd:∀o'∈pre,o'.dst∈ops.toList.map (·.dst):=by grind
   have hS:∀d,some d∈ops.toList.map (·.dst)->al d=true:=by intro d hd;obtain⟨o',ho,e⟩:=bR.1 hd;exact hal d (Iq.2 ⟨o',ho,e⟩)
   refine .inr ⟨rfl,pre,o,e1,e2,jG ?_ (xe hX pre 0 F L [] hd hF h)⟩;rintro FA LA log ⟨F',L',rfl,rfl,hF',hpre,hpreL,hh⟩;refine(hI f _ F' n L' _ _ o c e3 e4 ?_ hh).mono ?_
   .rw[e5,iy,di];exact lk λx _=>(FM x).symm
   .rintro FA LA N' ⟨r,L2,hr,rfl,rfl,hpl,hq⟩;refine⟨oW n F' o.dst r,L2,by rw[Ft],rfl,Fs hF' hr,((hpre.mono hS).trans (E0 λt ht=>hS t ?_)),hpreL.trans hpl,hq⟩;grind
  .have:=NT (draw:=false) hX hF h;left;obtain⟨h1,h2⟩:=this;exact⟨h1,jG (λF L log b=>b.mono hal λ_ _ _ h=>h) h2⟩
 |seq a b iha ihb=>
  intro al A Q F L N hal hF h;have hala:∀d∈asg a,al d=true:=λd hd=>hal d (fT _ hd);have halb:∀d∈asg b,al d=true:=λd hd=>hal d (fB _ hd);unfold vc at h;split at h
  .have h1:=iha al A _ F L N hala hF h;refine⟨λFA LA N'=>gr n (λd=>al d=true) F L FA LA λF' L'=>(vc X I n raw b al A Q F' L' N').holds,mw a ?_ h1,?_⟩
   .grind
   .rintro FA LA N' ⟨F',L',rfl,rfl,hF',hpre,hpreL,hh⟩;refine⟨_,_,_,ff.rfl,mw b ?_ (ihb al A Q F' L' N' halb hF' hh)⟩;intro e FA LA N' ht;exact ht.step hpre hpreL
  .rename_i Y wit rk inv upd obs mu inner hA;split at h
   case h_2=>exact h.elim
   rename_i hbad;have hbad:=gk hbad;obtain⟨h1,h2⟩:=Fm.uD h;have hmem:∀d,mem (asg a) d=true->d∈asg a:=λd=>(mem_iff d _).1;have h1:=iha (mem (asg a)) A _ F L N (λd hd=>(mem_iff _ _).2 hd) hF h1;refine Tj (λFA LA N'=>∃y,(∀p∈inv y,p)/\(∀q∈upd y,q.2.ok)/\FA=(km F (upd y) (asg a++jh F rk N F)).av n/\LA=(i6 L (obs y)).fn/\N'=rH N rk) (mw a ?_ h1) ?_
   .intro e FA LA N' ht;cases e
    case normal=>
     obtain⟨F',L',rfl,rfl,hF',hpre,hpreL,hh⟩:=ht;obtain⟨y,hh⟩:=EY hh;obtain⟨k1,k2,k3⟩:=GJ (N':=N') (hav:=asg a++jh F rk N F) hh (hpre.mono (by grind)) (by grind) hpreL;grind
    all_goals exact ht.mono (by grind) λ_ _ _ h=>h
   .rintro FA LA N' ⟨y,hy,hok,rfl,rfl,rfl⟩;have h2:=KM ((h2:∀y:Y,Fm.holds _) y) hy;split at h2
    case h_2=>exact h2.elim
    rename_i hu;have hu:=gk hu;refine mw b ?_ (ihb al (inner y++A) Q _ _ _ halb (Mv hF hok) h2);intro e FA LA N' ht;refine ht.step (LX.mono ?_) EP;rintro d (hd|hd)
    .obtain⟨q,hq,rfl⟩:=bR.1 hd;rcases bi.1 ((mem_iff _ _).1 (hu q hq))with hd|hd
     .grind
     grind
    grind
 |cond c t e iht ihe=>
  intro al A Q F L N hal hF h;have halt:∀d∈asg t,al d=true:=λd hd=>hal d (fT _ hd);have hale:∀d∈asg e,al d=true:=λd hd=>hal d (fB _ hd);unfold vc at h;have ev:∀v,tG n F c=v->j5 (F.av n) c=v.av:=λv hv=>by rw[<-FM,hv]
  split at h
  .rename_i hc;exact⟨true,ev _ hc,by grind,by grind⟩
  .rename_i hc;exact⟨false,ev _ hc,(by grind),by grind⟩
  .rename_i p d hc;obtain⟨h1,h2⟩:=Fm.uD h;refine⟨@decide p d,ev _ hc,λhh=>iht al A Q F L N halt hF ((h1:p->_) (by grind)),λhh=>ihe al A Q F L N hale hF ((h2:¬p->_) (by grind))⟩
  .rename_i b hc;obtain⟨h1,h2⟩:=Fm.uD h;exact⟨b,ev _ hc,λhh=>iht al A Q F L N halt hF ((h1:b=true->_) hh),λhh=>ihe al A Q F L N hale hF ((h2:b=false->_) hh)⟩
  .exact h.elim
 |block id c ih=>
  intro al A Q F L N hal hF h;have:=ih al A _ F L N hal hF h;refine mw c ?_ this;intro e FA LA N' ht;cases e
  case exit id'=>
   dsimp only at ht|-;cases hb:bF id' id with
   |true=>
    simp_all
   |false=>
    rw[if_neg (ls hb)];grind
  all_goals exact ht
 |loop c ih=>
  intro al A Q F L N hal hF h;unfold vc at h;split at h
  .split at h
   case h_2=>exact h.elim
   rename_i k0 _
   let rep:Nat->List AV->Sto->Nat->Prop:=λk FA LA N'=>gr n (λd=>al d=true) F L FA LA λF' L'=>(unr (λQ F L N=>vc X I n raw c al A Q F L N) Q k F' L' N').holds
   have hmu:∃μ:List AV->Sto->Nat->Nat,∀FA LA N',(∃k,rep k FA LA N')->rep (μ FA LA N') FA LA N'/\∀k,rep k FA LA N'->μ FA LA N'<=k:=by
    have:∀FA LA N',∃k,(∃k,rep k FA LA N')->rep k FA LA N'/\∀j,rep j FA LA N'->k<=j:=by
     intro FA LA N';by_cases hh:∃k,rep k FA LA N'
     .obtain⟨k,h1,h2⟩:=least hh;exact⟨k,by grind⟩
     .simp_all
    exact⟨λFA LA N'=>Classical.choose (this FA LA N'),λFA LA N'=>Classical.choose_spec (this FA LA N')⟩
   obtain⟨μ,hμ⟩:=hmu;refine W6 (λFA LA N'=>∃k,rep k FA LA N') μ ⟨_,_,_,ff.rfl,k0,⟨F,L,rfl,rfl,hF,Pre.rfl,gZ.rfl,h⟩⟩ ?_;intro FA LA N' hr;have hk:=(hμ FA LA N' hr).1;generalize hkk:μ FA LA N'=k at hk|-;obtain⟨F',L',rfl,rfl,hF',hpre,hpreL,hh⟩:=hk;cases k with
   |zero=>exact hh.elim
   |succ k=>
    refine mw c ?_ (ih al A _ F' L' N' hal hF' hh);intro e FA LA N2 ht;have ht:=ht.step hpre hpreL;cases e
    case normal=>
     have hr2:rep k FA LA N2:=ht;exact⟨_,_,_,ff.rfl,⟨k,hr2⟩,Nat.lt_succ_of_le ((hμ _ _ _ ⟨k,hr2⟩).2 k hr2)⟩
    all_goals exact ht
  rename_i Y wit rk inv upd obs mu inner hA;split at h
  case h_2=>exact h.elim
  rename_i hbad;have hbad:=gk hbad;obtain⟨h1,h2⟩:=Fm.uD h;obtain⟨y0,h1⟩:=EY h1;have hmem:∀d,mem (asg c) d=true->d∈asg c:=λd=>(mem_iff d _).1
  let hav:=asg c++jh F rk N F
  let rep:Y->List AV->Sto->Prop:=λy FA LA=>(∀p∈inv y,p)/\(∀q∈upd y,q.2.ok)/\FA=(km F (upd y) hav).av n/\LA=(i6 L (obs y)).fn
  obtain⟨k1,k2,k3⟩:=GJ (N':=N) (hav:=hav) h1 Pre.rfl (by grind) gZ.rfl;have hmu:∃μ:List AV->Sto->Nat,∀FA LA,(∃y,rep y FA LA)->∃y,rep y FA LA/\mu y=μ FA LA/\∀z,rep z FA LA->μ FA LA<=mu z:=by
   have:∀FA LA,∃k,(∃y,rep y FA LA)->∃y,rep y FA LA/\mu y=k/\∀z,rep z FA LA->k<=mu z:=by
    intro FA LA;by_cases hh:∃y,rep y FA LA
    .obtain⟨y,hy⟩:=hh;obtain⟨k,⟨z,hz,e⟩,hk⟩:=least (p:=λk=>∃y,rep y FA LA/\mu y=k) ⟨_,y,hy,rfl⟩;exact⟨k,by grind⟩
    .exact⟨0,by grind⟩
   exact⟨λFA LA=>Classical.choose (this FA LA),λFA LA=>Classical.choose_spec (this FA LA)⟩
  obtain⟨μ,hμ⟩:=hmu;refine Yk (λFA LA N'=>(∃y,rep y FA LA)/\N'=rH N rk) μ (by grind) ?_;rintro FA LA N' ⟨hr,rfl⟩;obtain⟨x,⟨hx,hok,rfl,rfl⟩,hmx,_⟩:=hμ FA LA hr;have h2:=KM ((h2:∀x:Y,Fm.holds _) x) hx;split at h2
  case h_2=>exact h2.elim
  rename_i hu;have hu:=gk hu;have hpre0:Pre (λd=>d∈hav) F (km F (upd x) hav):=by
   refine LX.mono ?_;rintro d (hd|hd)
   .obtain⟨q,hq,rfl⟩:=bR.1 hd;exact(mem_iff _ _).1 (hu q hq)
   .exact hd
  refine mw c ?_ (ih (mem (asg c)) (inner x++A) _ _ _ _ (λd hd=>(mem_iff _ _).2 hd) (Mv hF hok) h2);intro e FA' LA' N' ht;have up:∀(G:Frm->aP->Prop),gr n (λd=>mem (asg c) d=true) (km F (upd x) hav) (i6 L (obs x)) FA' LA' G->gr n (λd=>al d=true) F L FA' LA' G:=by
   intro G ht;refine(ht.mono (λd hd=>hal d (hmem d hd)) λ_ _ _ h=>h).step (hpre0.mono ?_) EP;intro d hd;rcases bi.1 hd with hd|hd
   .exact hal d hd
   .grind
  cases e
  case normal=>
   obtain⟨F',L',rfl,rfl,hF',hpre,hpreL,hh⟩:=ht;obtain⟨y,hh⟩:=EY hh;obtain⟨k1,k2,k3⟩:=GJ (N':=N') (hav:=hav) hh (hpre0.trans (hpre.mono (by grind))) (by grind) (EP.trans hpreL);have hry:rep y ((km F (upd y) hav).av n) (i6 L (obs y)).fn:=⟨λp h=>k2 p (by grind),k3,rfl,rfl⟩;refine⟨_,_,_,k1,by grind,?_⟩;obtain⟨z,_,ez,hz⟩:=hμ _ _ ⟨y,hry⟩;have g1:=hz y hry;have g2:mu y<mu x:=k2 _ (by grind);omega
  all_goals exact up _ ht
 |exit id=>intro al A Q F L N hal hF h;exact⟨F,L,rfl,rfl,hF,Pre.rfl,gZ.rfl,h⟩
 |ret=>intro al A Q F L N hal hF h;exact⟨F,L,rfl,rfl,hF,Pre.rfl,gZ.rfl,h⟩
 |rangeFunc f params x y _ _=>intro al A Q F L N hal hF h;exact h.elim
 |scope c ih=>
  intro al A Q F L N hal hF h;refine mw c ?_ (ih al A _ F L N hal hF h);intro e FA LA N' ht;cases e<;>first|exact ht|(obtain⟨_,_,_,_,_,_,_,hh⟩:=ht;exact hh.elim)
 |label l=>intro al A Q F L N hal hF h;exact⟨F,L,rfl,rfl,hF,Pre.rfl,gZ.rfl,h⟩
 |goto l=>intro al A Q F L N hal hF h;exact h.elim
 |refuse s=>intro al A Q F L N hal hF h;exact h.elim
end
end Go.Proofs.YtdaeofhdgabhjaaGreat
