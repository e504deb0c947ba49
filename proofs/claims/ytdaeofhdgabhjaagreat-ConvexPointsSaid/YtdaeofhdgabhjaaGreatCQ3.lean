/- What the statement stands on: contracts of functions, plain laws. Part 3 of 7, no condition of its own. (N8 N9 N10 N20) -/
import Derived.Test.YtdaeofhdgabhjaaGreatCQ2
import Derived.Scope
set_option linter.all false
set_option maxRecDepth 100000
set_option maxHeartbeats 8000000
open List renaming range->bV,length->fh,all_eq_true->bf,mem_range->cF,any_eq_true->lj,getD_eq_getElem?_getD->dw,getElem?_set_ne->Sk,mem_filterMap->Iq,getElem?_eq_getElem->fA,not_mem_nil->cG,getElem?_eq_none->lr,range'->Ct,replicate->cS,getElem?_append_left->mW,getElem?_append_right->kW,getElem?_replicate->Cv,lookup->hZ
open Nat renaming le_refl->bX,zero_le->jS,decEq->pD,lt_or_ge->nU,le_trans->cO
open Go.Region renaming binds->gv,wanted->iS
open Bool renaming and_eq_true->bn,or_eq_true->jl
open Option renaming map_some->eE,getD_some->ku,some.injEq->fm
open Go.Code renaming region->yx,rounds->Cu
open Go.Act renaming put->mZ
open Array renaming getD_eq_getD_getElem?->gG,replicate->nW,getElem?_append_left->Cj,getElem?_append_right->Sl,getElem?_replicate->Cl,mapM_eq_mapM_toList->Sm
open Go.Sem renaming run_bind->cg,run_pure->dc
open Go.Result renaming andThen_ok->cl
open Go.Deferred renaming ofValue->te
open Go.RowKit
open Go.Proofs.YtdaeofhdgabhjaaGreat.Geo
namespace Go.Proofs.YtdaeofhdgabhjaaGreat
abbrev Sto:=Nat->Option Ob
def AOp(P:Program)(n:Nat)(o:Oper)(E:Operand->AV)(σ:Nat->Option Ob)(K:Res):Prop:=match o.op with
 | .move x=>K (E x) [] []
 | .assign x=>K (E x) [] []\/(E x= .nil/\K (.p (.sl 0 [])) [] [])
 | .pick c a b=>vB (E c) (E a) (E b) λr=>K r [] []
 | .alloc t=>Pn P n t K
 | .box t x=>SN n t (E x) K
 | .build t parts=>Pe P t (parts.toList.map λq=>(q.1,E q.2)) λr=>K r [] []
 | .buildSlice t len parts=>O2 P n t len (parts.toList.map λq=>(q.1,E q.2)) K
 | .load t x=>(match E x with
   | .p (.pro cs off)=>Hb P t cs off λr=>K (.p r) [] []
   | .ptr s off=>∃ob,σ s=some ob/\rB P t ob.cells off λr=>K r [s] []
   |_=>False)
 | .store t a x=>uk P t σ (E a) (E x) K
 | .nilCheck x=>CL (E x)=true/\K (E x) [] []
 | .binOp op t x y _=>vX P op t (E x) (E y) λr=>K r [] []
 | .unOp op _ x=>unA op (E x) λr=>K r [] []
 | .convert s d x=>Bz P s d (E x) λr=>K r [] []
 | .makeFunc f first caps=>K (.fn f (first.toList.map E) (caps.toList.map E)) [] []
 | .slice t x lo hi none=>ul P t (E x) (loA E lo 0) (loA E hi (BV (E x))) λr=>K r [] []
 | .fieldAddr t x f=>Gt P t f (E x) λr=>K r [] []
 | .field t x f=>Gr P t f (E x) λr=>K r [] []
 | .indexAddr t x i=>BY P t (E x) (E i) λr=>K r [] []
 | .extract x i=>yV (E x) i λr=>K r [] []
 | .call {callee:= .value f,args, .. }=>B7 P σ (E f) (args.toList.map E) K\/B6 P n (E f) (args.toList.map E) K
 | .call {callee:= .builtin .len,args:=⟨[x]⟩,argTypes:=⟨[t]⟩}=>CN P t (E x) λr=>K r [] []
 | .call {callee:= .builtin .append,args:=⟨[x,y]⟩,argTypes:=⟨[t,t']⟩}=>(dC P t').isSome=true/\yk P n t σ (E x) (E y) K
 | .call {callee:= .builtin .min,args:=⟨[x,y]⟩, .. }=>mmA min (E x) (E y) λr=>K r [] []
 | .call {callee:= .builtin .max,args:=⟨[x,y]⟩, .. }=>mmA max (E x) (E y) λr=>K r [] []
 | .makeSlice t a b=>QB P n t (E a) (E b) K\/PP P n t (E a) (E b) K
 |_=>False
def W9{P:Program}{n:Nat}{o:Oper}{E:Operand->AV}{σ:Nat->Option Ob}{K:Res}(h:AOp P n o E σ K):∃r R W,bT P o E σ n r R W/\K r R W:=by
 have lift:∀{K':AV->Prop} {R:List Nat},(∃r,bT P o E σ n r R []/\K' r)->(∀r,K' r->K r R [])->∃r R W,bT P o E σ n r R W/\K r R W:=by grind
 unfold AOp at h;split at h
 .rename_i x ho;exact⟨_,_,_,Mi (.inl ho),h⟩
 .rename_i x ho;exact Or.elim h (λh=>⟨_,_,_,Mi (.inr ho),h⟩) (λh=>⟨_,_,_,We (.inr ho) h.1,h.2⟩)
 .rename_i ho;exact lift (Xu ho h) λ_ h=>h
 .rename_i ho;exact XB ho h
 .rename_i ho;exact Z9 ho h
 .rename_i ho;exact lift (W4 ho h) λ_ h=>h
 .rename_i ho;exact VU ho h
 .rename_i ho;split at h
  .rename_i e;obtain⟨r,h1,h2⟩:=WO (o:=o) (σ:=σ) (n:=n) ho e h;grind
  .rename_i e;obtain⟨ob,h1,h2⟩:=h;obtain⟨r,h3,h4⟩:=WP (o:=o) (n:=n) ho e h1 h2;grind
  grind
 .rename_i ho;exact Vg ho h
 .rename_i ho;exact⟨_,_,_,ZV ho h.1,h.2⟩
 .rename_i ho;exact lift (aAa ho h) λ_ h=>h
 .rename_i ho;exact lift (aAi ho h) λ_ h=>h
 .rename_i ho;exact lift (Yd ho h) λ_ h=>h
 .rename_i ho;exact⟨_,_,_,X7 ho,h⟩
 .rename_i ho;exact lift (Vm ho h) λ_ h=>h
 .rename_i ho;exact lift (Wa ho h) λ_ h=>h
 .rename_i ho;exact lift (WZ ho h) λ_ h=>h
 .rename_i ho;exact lift (WU ho h) λ_ h=>h
 .rename_i ho;exact lift (YV ho h) λ_ h=>h
 .rename_i ho;exact Or.elim h (Yf ho rfl) (Wy ho rfl)
 .rename_i ho;exact lift (Zg ho h) λ_ h=>h
 .rename_i ho;exact aAd h.1 ho h.2
 .rename_i ho;exact lift (Zb ho h) λ_ h=>h
 .rename_i ho;exact lift (Zd ho h) λ_ h=>h
 .rename_i ho;exact Or.elim h (YA ho) (WN ho)
 grind
structure St(C0:bE)(B:Nat)(wI:World)(F:List AV)(σ:Nat->Option Ob)(N:Nat)(a:Act)(w:World):Prop where
 ex:∃ρ:Ren,StR C0 ρ σ w B/\(∀s,N<=cls s->ρ s=none)/\∀t,aR ρ (bC C0 B w ρ σ) (F.getD t .any) (a.tmps.getD t Go.undef)
 le:B<=w.heap.size
 defers:a.defers=[]
 size:a.tmps.size=F.length
 below:Below B wI w
def Pc(ops:List Oper)(j:Nat):((ops.map (·.dst))[j]?).join=(ops[j]?).bind (·.dst):=by grind
def gdA(ds:List (Option Nat))(F:List AV)(j:Nat):Option (Option Bool):=match(ds[j]?).join with
 |some d=>(match F.getD d .any with| .p (.bool b)=>some (some b)| .undef=>some none|_=>none)
 |none=>none
def eK(F:List AV)(d:Option Nat)(r:AV):List AV:=match d with|some d=>F.set d r|none=>F
abbrev i7:=List (List Nat×List Nat)
def inC(R Rc:List Nat):Prop:=∀s∈R,cls s∈Rc
def eR(P:Program)(N:Nat)(ds:List (Option Nat)):List Oper->Nat->List AV->Sto->i7->(List AV->Sto->i7->Prop)->Prop
 |[],_,F,L,log,K=>K F L log
 |o::rest,i,F,L,log,K=>match o.guard with
  |none=>∃r R W Rc Wc,bT P o (j5 F) L (N+i) r R W/\inC R Rc/\inC (W.map (·.1)) Wc/\eR P N ds rest (i+1) (eK F o.dst r) (ai L W) (log++[(Rc,Wc)]) K
  |some (j,want)=>(match gdA ds F j with
   |some (some b)=>if b=want then∃r R W Rc Wc,bT P o (j5 F) L (N+i) r R W/\inC R Rc/\inC (W.map (·.1)) Wc/\eR P N ds rest (i+1) (eK F o.dst r) (ai L W) (log++[(Rc,Wc)]) K
    else eR P N ds rest (i+1) (eK F o.dst .undef) L (log++[([],[])]) K
   |some none=>eR P N ds rest (i+1) (eK F o.dst .undef) L (log++[([],[])]) K
   |none=>False)
structure Tr where
 r:AV
 R:List Nat
 W:List (Nat×Option Ob)
 Rc:List Nat
 Wc:List Nat
instance:Inhabited Tr:=⟨⟨.any,[],[],[],[]⟩⟩
def im(ops:List Oper)(tr:Nat->Tr)(F0:List AV):Nat->List AV
 |0=>F0
 |k+1=>eK (im ops tr F0 k) ((ops[k]?).bind (·.dst)) (tr k).r
def sgD(tr:Nat->Tr)(σ0:Nat->Option Ob)(D:Nat->Bool):Nat->Nat->Option Ob
 |0=>σ0
 |k+1=>if D k=true then ai (sgD tr σ0 D k) (tr k).W else sgD tr σ0 D k
def pj(tr:Nat->Tr)(n:Nat):i7:=(bV n).map λk=>((tr k).Rc,(tr k).Wc)
def pm(P:Program)(N:Nat)(ops:List Oper)(F0:List AV)(σ0:Nat->Option Ob)(tr:Nat->Tr)(k:Nat):Prop:=
 ∀o,ops[k]? =some o->(((o.guard=none\/∃j b,o.guard=some (j,b)/\gdA (ops.map (·.dst)) (im ops tr F0 k) j=some (some b))/\
   bT P o (j5 (im ops tr F0 k)) (sgD tr σ0 (λ_=>true) k) (N+k) (tr k).r (tr k).R (tr k).W/\inC (tr k).R (tr k).Rc/\inC ((tr k).W.map (·.1)) (tr k).Wc)\/
  (∃j want q,o.guard=some (j,want)/\gdA (ops.map (·.dst)) (im ops tr F0 k) j=some q/\q≠some want/\tr k=⟨.undef,[],[],[],[]⟩))
def xC(ops:List Oper)(F0:List AV){tr tr':Nat->Tr}:∀k,(∀j,j<k->tr j=tr' j)->im ops tr F0 k=im ops tr' F0 k
 |0,_=>rfl
 |k+1,h=>by simp only[im];rw[xC ops F0 k (λj hj=>h j (by omega)),h k (by omega)]
def uH(σ0:Nat->Option Ob){tr tr':Nat->Tr}{D D':Nat->Bool}:∀k,(∀j,j<k->tr j=tr' j)->(∀j,j<k->D j=D' j)->sgD tr σ0 D k=sgD tr' σ0 D' k
 |0,_,_=>rfl
 |k+1,h,h2=>by simp only[sgD];rw[uH σ0 k (λj hj=>h j (by omega)) (λj hj=>h2 j (by omega)),h k (by omega),h2 k (by omega)]
def Tm{P:Program}{N:Nat}{ops:List Oper}{F0:List AV}{σ0:Nat->Option Ob}{tr tr':Nat->Tr}{k:Nat}(h:∀j,j<=k->tr j=tr' j)(hg:pm P N ops F0 σ0 tr k):pm P N ops F0 σ0 tr' k:=by unfold pm at*;rw[xC ops F0 k (λj hj=>(h j (by omega)).symm),uH (D':=λ_=>true) σ0 k (λj hj=>(h j (by omega)).symm) (λ_ _=>rfl),<-h k (bX _)];exact hg
def nB(tr:Nat->Tr)(i:Nat)(x:Tr):Nat->Tr:=λk=>if k=i then x else tr k
def Ly{tr:Nat->Tr}{i:Nat}{x:Tr}{k:Nat}(h:k<i):tr k=nB tr i x k:=by unfold nB;grind
def Kb{P:Program}{N:Nat}{ops:List Oper}{F0:List AV}{L0:Sto}{K:List AV->Sto->i7->Prop}:
  ∀(rest:List Oper) (i:Nat) (F:List AV) (L:Sto) (log:i7) (tr:Nat->Tr),i<=ops.length->ops.drop i=rest->F=im ops tr F0 i->L=sgD tr L0 (λ_=>true) i->log=pj tr i->
   (∀k,k<i->pm P N ops F0 L0 tr k)->eR P N (ops.map (·.dst)) rest i F L log K->
   ∃(tr':Nat->Tr) (L':Sto),(∀k,k<ops.length->pm P N ops F0 L0 tr' k)/\L'=sgD tr' L0 (λ_=>true) ops.length/\K (im ops tr' F0 ops.length) L' (pj tr' ops.length)
 |[],i,F,L,log,tr,hil,hd,hF,hL,hlog,hg,h=>by
  have hi:i=ops.length:=by have:=congrArg fh hd;simp at this;omega
  subst hi;unfold eR at h;grind
 |o::rest,i,F,L,log,tr,hil,hd,hF,hL,hlog,hg,h=>by
  have hlt:i<ops.length:=by have:=congrArg fh hd;simp at this;omega
  have ho:ops[i]? =some o:=by have:=congrArg (λl=>l[0]?) hd;simpa using this
  have hd':ops.drop (i+1)=rest:=by have:=congrArg List.tail hd;simpa using this
  have step:∀(x:Tr),pm P N ops F0 L0 (nB tr i x) i->eR P N (ops.map (·.dst)) rest (i+1) (eK F o.dst x.r) (ai L x.W) (log++[(x.Rc,x.Wc)]) K->
    ∃(tr':Nat->Tr) (L':Sto),(∀k,k<ops.length->pm P N ops F0 L0 tr' k)/\L'=sgD tr' L0 (λ_=>true) ops.length/\K (im ops tr' F0 ops.length) L' (pj tr' ops.length):=by
   intro x hgx hx;have hc:∀j,j<i->tr j=nB tr i x j:=λj hj=>Ly hj;have hxi:nB tr i x i=x:=by unfold nB;rw[if_pos rfl]
   refine Kb rest (i+1) _ _ _ (nB tr i x) hlt hd' ?_ ?_ ?_ ?_ hx
   .simp only[im,ho,Option.bind_some,hxi];rw[hF,xC ops F0 i hc]
   .simp only[sgD,if_true,hxi];rw[hL,uH (D':=λ_=>true) L0 i hc (λ_ _=>rfl)]
   .unfold pj at hlog|-;rw[List.range_succ,List.map_append,List.map_singleton,hxi,hlog];simp_all
   .intro k hk;by_cases e:k=i
    .grind
    .exact Tm (by grind) (hg k (by omega))
  have hc:∀x:Tr,∀j,j<i->nB tr i x j=tr j:=λx j hj=>(Ly hj).symm;have hxi:∀x:Tr,nB tr i x i=x:=λx=>by unfold nB;grind
  have mkG:∀x:Tr,(o.guard=none\/∃j b,o.guard=some (j,b)/\gdA (ops.map (·.dst)) F j=some (some b))->bT P o (j5 F) L (N+i) x.r x.R x.W->inC x.R x.Rc->inC (x.W.map (·.1)) x.Wc->pm P N ops F0 L0 (nB tr i x) i:=by intro x h1 h2 h3 h4 o' ho';rw[ho]at ho';cases ho';rw[xC ops F0 i (hc x),uH (D':=λ_=>true) L0 i (hc x) (λ_ _=>rfl),<-hF,<-hL,hxi];grind
  unfold eR at h;split at h
  .rename_i hgd;obtain⟨r,R,W,Rc,Wc,h1,i1,i2,h2⟩:=h;exact step ⟨r,R,W,Rc,Wc⟩ (by grind) h2
  .rename_i j want hgd;have skip:∀q,gdA (ops.map (·.dst)) F j=some q->q≠some want->eR P N (ops.map (·.dst)) rest (i+1) (eK F o.dst .undef) L (log++[([],[])]) K->
     ∃(tr':Nat->Tr) (L':Sto),(∀k,k<ops.length->pm P N ops F0 L0 tr' k)/\L'=sgD tr' L0 (λ_=>true) ops.length/\K (im ops tr' F0 ops.length) L' (pj tr' ops.length):=by
    intro q hq hne hx;refine step ⟨.undef,[],[],[],[]⟩ ?_ hx;intro o' ho';rw[ho]at ho';cases ho';rw[xC ops F0 i (hc _),<-hF,hxi];grind
   split at h
   .rename_i b hb;split at h
    .rename_i e;subst e;obtain⟨r,R,W,Rc,Wc,h1,i1,i2,h2⟩:=h;exact step ⟨r,R,W,Rc,Wc⟩ (by grind) h2
    simp_all
   .grind
   grind
def Gz(ops:List Oper):List (List Nat):=
 ops.foldl (λacc o=>acc++[(o.after.toList.filter (gv .any)).foldl (λs e=>s++(e.on::acc.getD e.on []).filter λx=> !s.contains x) []]) []
def GX(o:Oper):List Nat:=o.op.operands.toList.filterMap λx=>match x with| .tmp t=>some t|_=>none
def okE(l:List Oper)(anc:List (List Nat)):Bool:=
 (bV l.length).all λi=>
  (((l[i]?).map λo=>(o.after.toList.all λe=> !gv .any e||(decide (e.on<i)&&(fy anc i).contains e.on))&&o.dst !=some 1000000).getD false)&&
  ((fy anc i).all λj=>decide (j<i)&&(((l[i]?).map λo=>o.after.toList.any λe=>gv .any e&&(e.on==j||(fy anc e.on).contains j)).getD false))&&
  ((bV l.length).all λj=>j==i||dg l j !=dg l i||dg l i==1000000)
def Bt(ops:List Oper)(anc:List (List Nat)):Bool:=
 okE ops anc&&
 ((bV ops.length).all λi=>((ops[i]?).map λo=>
   ((GX o).all λt=>(bV ops.length).all λj=>j==i||dg ops j !=t||(fy anc i).contains j||(fy anc j).contains i)&&
   (match o.guard with|none=>true|some (j,_)=>(fy anc i).contains j&&((ops[j]?).bind (·.dst)).isSome)).getD false)
def B5(a b:List Nat×List Nat):Bool:=a.2.any (λs=>b.1.contains s||b.2.contains s)||a.1.any (λs=>b.2.contains s)
def x6(anc:List (List Nat))(log:i7):Bool:=(bV log.length).all λi=>(bV i).all λj=> !B5 (log.getD i ([],[])) (log.getD j ([],[]))||(fy anc i).contains j
def WI{ops:List Oper}{anc:List (List Nat)}(h:okE ops anc=true):
  (∀(i:Nat) o,ops[i]? =some o->(∀e∈o.after.toList,gv .any e=true->e.on<i/\(fy anc i).contains e.on=true)/\
    (∀j,(fy anc i).contains j=true->j<i/\∃e∈o.after.toList,gv .any e=true/\(e.on=j\/(fy anc e.on).contains j=true))/\(∀d,o.dst=some d->dg ops i=d/\d≠1000000)/\(o.dst=none->dg ops i=1000000))/\
  ∀i j,i<ops.length->j<ops.length->j≠i->dg ops j=dg ops i->dg ops i=1000000:=by
 unfold okE at h;rw[bf]at h;have hget:∀(i:Nat) o,ops[i]? =some o->i<ops.length:=by grind
 refine⟨?_,?_⟩
 .intro i o ho;have h1:=h i (cF.2 (hget i o ho));simp only[bn]at h1;obtain⟨⟨h2,h3⟩,_⟩:=h1;rw[ho]at h2;refine⟨?_,?_,?_,?_⟩
  .grind
  .intro j hj;rw[bf]at h3;have:=h3 j (by grind);simp only[bn,decide_eq_true_eq]at this;obtain⟨h4,h5⟩:=this;refine⟨h4,?_⟩;rw[ho]at h5;simp only[eE,ku,lj,bn,jl,beq_iff_eq]at h5;exact h5
  .intro d hd;refine⟨by unfold dg;grind,?_⟩;grind
  .unfold dg;grind
 .intro i j hi hj hne he;have h1:=h i (cF.2 hi);grind
def aAt{tr:Nat->Tr}{σ0:Nat->Option Ob}{D:Nat->Bool}{s i n:Nat}(hin:i<=n)
  (hlo:∀k,k<i->(tr k).W.lookup s≠none->D k=true) (hhi:∀k,i<=k->k<n->(tr k).W.lookup s≠none->D k=false):
  sgD tr σ0 D n s=sgD tr σ0 (λ_=>true) i s:=by
 have h1:∀m,m<=i->sgD tr σ0 D m s=sgD tr σ0 (λ_=>true) m s:=by
  intro m;induction m with
  |zero=>intro _;rfl
  |succ m ih=>
   intro hm;simp only[sgD,if_true];cases hD:D m with
   |true=>unfold ai;grind
   |false=>
    unfold ai;grind
 have h2:∀m,i<=m->m<=n->sgD tr σ0 D m s=sgD tr σ0 D i s:=by
  intro m;induction m with
  |zero=>grind
  |succ m ih=>
   intro hi hm;by_cases e:i=m+1
   .rw[e]
   .simp only[sgD];cases hD:D m with
    |false=>grind
    |true=>
     unfold ai;grind
 grind
def KC{W:List (Nat×Option Ob)}{s:Nat}(h:W.lookup s≠none):s∈W.map (·.1):=by grind
def Fa{g:Nat->Option Ob}{W:List (Nat×Option Ob)}{s:Nat}(h:W.lookup s=none):ai g W s=g s:=by unfold ai;rw[h]
def DQ(F:List AV)(d:Option Nat)(r:AV):(eK F d r).length=F.length:=by cases d<;>simp[eK]
def wo(ops:List Oper)(tr:Nat->Tr)(F0:List AV):∀k,(im ops tr F0 k).length=F0.length
 |0=>rfl
 |k+1=>by simp only[im];rw[DQ,wo ops tr F0 k]
def DK{ops:List Oper}{tr:Nat->Tr}{F0:List AV}{t j:Nat}(hj:(ops[j]?).bind (·.dst)=some t)(ht:t<F0.length)(hu:∀k,k≠j->(ops[k]?).bind (·.dst)≠some t):∀m,j<m->(im ops tr F0 m).getD t .any=(tr j).r
 |0,h=>by omega
 |m+1,h=>by
  simp only[im];by_cases e:m=j
  .subst e;rw[hj];have:=wo ops tr F0 m;simp[eK,dw,this,ht]
  .have ih:=DK (tr:=tr) hj ht hu m (by omega);cases hd:(ops[m]?).bind (·.dst)with
   |none=>simpa[eK]using ih
   |some d=>
    have:d≠t:=by grind
    simp only[eK,dw,Sk this]at ih|-;exact ih
def DB{ops:List Oper}{tr:Nat->Tr}{F0:List AV}{t:Nat}:∀m,(∀k,k<m->(ops[k]?).bind (·.dst)≠some t)->(im ops tr F0 m).getD t .any=F0.getD t .any
 |0,_=>rfl
 |m+1,h=>by
  simp only[im];have ih:=DB (tr:=tr) (F0:=F0) m λk hk=>h k (by omega);cases hd:(ops[m]?).bind (·.dst)with
  |none=>simpa[eK]using ih
  |some d=>
   have:d≠t:=by grind
   simp only[eK,dw,Sk this]at ih|-;exact ih
def AF{ρ:Ren}{C:bE}{F:List AV}{V:Nat->Value}{x:Operand}(h:∀t,x= .tmp t->aR ρ C (F.getD t .any) (V t)):aR ρ C (j5 F x) (bH V x):=by
 cases x with
 |tmp t=>exact h t rfl
 |const v=>exact T7 v
 |global g=>trivial
 |func f=>
  exact⟨[],[],rfl,by rfl,by rfl⟩
def zY{P:Program}{o:Oper}{V:Nat->Value}{w:World}{K K':Value->World->Prop}(h:cJ P o V w K)(hk:∀v w,K v w->K' v w):cJ P o V w K':=by
 unfold cJ at h|-;split at h
 .grind
 .grind
 .exact h.mono (by grind)
 omega
def Ua{o:Oper}{t:Nat}(h: .tmp t∈o.op.operands.toList):t∈GX o:=Iq.2 (by grind)
def StR.drew{C0:bE}{ρ:Ren}{g:Nat->Option Ob}{w:World}{B:Nat}(h:StR C0 ρ g w B):StR C0 ρ g w.drew B:=by
 refine⟨λs o hg=> ?_,h.inj,h.mpi⟩;obtain⟨q,c,h1,h2|⟨b,arr,h2,h3,h4⟩⟩:=h.ob s o hg
 .exact⟨q,c,h1,.inl h2⟩
 .exact⟨q,c,h1,.inr ⟨b,arr,h2,h3,⟨h4.blk,h4.box,h4.row,h4.cells⟩⟩⟩
def Tc{P:Program}{id N:Nat}{ops:List Oper}{Q:Exit->Act->World->Prop}{a0:Act}{w0:World}{C0:bE}{B:Nat}{wI:World}{F0:List AV}{L0:Sto}{K:List AV->Sto->Prop}
  (hm:P.follows .mixedOrders=true) (anc:List (List Nat)) (hok:Bt ops anc=true) (hds:((bV ops.length).all λi=>match(ops[i]?).bind (·.dst)with|some d=>decide (d<F0.length)|none=>true)=true)
  (hS:St C0 B wI F0 L0 N a0 w0) (h:eR P N (ops.map (·.dst)) ops 0 F0 L0 [] λF L log=>x6 anc log=true/\K F L)
  (hK:∀F L a w,K F L->F.length=F0.length->St C0 B wI F L (N+ops.length) a w->Q .normal a w):(yx id ops.toArray true).wp P Q a0 w0:=by
 obtain⟨tr,L',hgood,hL',hfeet,hKK⟩:=Kb ops 0 F0 L0 [] default (jS _) rfl rfl rfl rfl (by grind) h;unfold Bt at hok;rw[bn,bf]at hok;obtain⟨hokE,hokT⟩:=hok;obtain⟨hop,huq⟩:=WI hokE;obtain⟨⟨ρ0,hs0,hn0,hf0⟩,hle0,hdf0,hsz0,hbl0⟩:=hS;have hget:∀(i:Nat) o,ops[i]? =some o->i<ops.length:=by grind
 have hat:∀(i:Nat),i<ops.length->∃o,ops[i]? =some o:=λi hi=>⟨_,fA hi⟩;have hdst:∀(j t:Nat),(ops[j]?).bind (·.dst)=some t->dg ops j=t/\t≠1000000/\j<ops.length/\t<F0.length:=by intro j t hj;obtain⟨o,ho,hd⟩:=Option.bind_eq_some_iff.1 hj;have:=(hop j o ho).2.2.1 t hd;refine⟨this.1,this.2,hget j o ho,?_⟩;rw[bf]at hds;have h2:=hds j (cF.2 (hget j o ho));rw[hj]at h2;simpa using h2
 have huniq:∀(j t:Nat),(ops[j]?).bind (·.dst)=some t->∀(k:Nat),k≠j->(ops[k]?).bind (·.dst)≠some t:=by intro j t hj k hk e;obtain⟨h1,h2,h3,_⟩:=hdst j t hj;obtain⟨h4,_,h5,_⟩:=hdst k t e;exact h2 (h1▸huq j k h3 h5 hk (by grind))
 have hclash:∀i k,i<ops.length->k<ops.length->k≠i->∀s,s∈(tr i).R\/s∈(tr i).W.map (·.1)->(tr k).W.lookup s≠none->(k<i->(fy anc i).contains k=true)/\(i<k->(fy anc k).contains i=true):=by
  intro i k hi hk hne s hs hw;have hws:=KC hw;have hin:∀j,j<ops.length->inC (tr j).R (tr j).Rc/\inC ((tr j).W.map (·.1)) (tr j).Wc:=λj hj=>by
   obtain⟨o,ho⟩:=hat j hj;rcases hgood j hj o ho with⟨_,_,h1,h2⟩|⟨_,_,_,_,_,_,h⟩
   .exact⟨h1,h2⟩
   .rw[h];exact⟨λs h=>(cG h).elim,λs h=>(cG h).elim⟩
  have hwc:=(hin k hk).2 s hws;have hsc:cls s∈(tr i).Rc\/cls s∈(tr i).Wc:=hs.imp ((hin i hi).1 s) ((hin i hi).2 s);have hfl:(pj tr ops.length).length=ops.length:=by simp[pj]
  have hfg:∀j,j<ops.length->(pj tr ops.length).getD j ([],[])=((tr j).Rc,(tr j).Wc):=by intro j hj;simp[pj,dw,hj]
  unfold x6 at hfeet;rw[bf]at hfeet;have hsym:∀a b:List Nat×List Nat,cls s∈b.2->(cls s∈a.1\/cls s∈a.2)->B5 a b=true/\B5 b a=true:=by
   intro a b hb ha;unfold B5;refine⟨?_,?_⟩
   .rw[jl];rcases ha with ha|ha
    .exact .inr (lj.2 ⟨cls s,ha,by simpa using hb⟩)
    .exact .inl (lj.2 ⟨cls s,ha,by rw[jl];exact .inr (by simpa using hb)⟩)
   .rw[jl];refine .inl (lj.2 ⟨cls s,hb,?_⟩);rw[jl];rcases ha with ha|ha
    .exact .inl (by simpa using ha)
    .exact .inr (by simpa using ha)
  obtain⟨c1,c2⟩:=hsym ((tr i).Rc,(tr i).Wc) ((tr k).Rc,(tr k).Wc) hwc hsc;refine⟨λhlt=> ?_,λhlt=> ?_⟩
  .have:=hfeet i (cF.2 (by rw[hfl];exact hi));rw[bf]at this;have:=this k (cF.2 hlt);rw[hfg i hi,hfg k hk,c1]at this;simpa using this
  .have:=hfeet k (cF.2 (by rw[hfl];exact hk));rw[bf]at this;have:=this i (cF.2 hlt);rw[hfg i hi,hfg k hk,c2]at this;simpa using this
 let dsts:List Nat:=(bV ops.length).filterMap λi=>(ops[i]?).bind (·.dst)
 have hdm:∀(t:Nat),t∈dsts↔∃(j:Nat),(ops[j]?).bind (·.dst)=some t:=by intro t;simp only[dsts,Iq,cF];exact⟨λ⟨j,_,h⟩=>⟨j,h⟩,λ⟨j,h⟩=>⟨j,(hdst j t h).2.2.1,h⟩⟩
 let G:(Nat->Bool)->(Nat->Value)->World->Prop:=λD V w=>∃ρ:Ren,
  (∀i j,D i=true->(fy anc i).contains j=true->D j=true)/\(∀i,D i=true->i<ops.length)/\
  StR C0 ρ (sgD tr L0 D ops.length) w B/\B<=w.heap.size/\Below B wI w/\
  (∀(j t:Nat),D j=true->(ops[j]?).bind (·.dst)=some t->aR ρ (bC C0 B w ρ (sgD tr L0 D ops.length)) (tr j).r (V t))/\
  (∀(t:Nat),(∀(j:Nat),D j=true->(ops[j]?).bind (·.dst)≠some t)->V t=a0.tmps.getD t Go.undef)/\
  (∀t,aR ρ (bC C0 B w ρ (sgD tr L0 D ops.length)) (F0.getD t .any) (a0.tmps.getD t Go.undef))/\
  (∀k s,D k=false->cls s=N+k->ρ s=none)
 refine Tn hm dsts ?_ ?_ G ?_ ?_ ?_
 .rw[bf];intro i hi;have hi':=cF.1 hi;obtain⟨o,ho⟩:=hat i hi';obtain⟨q1,q3,q4,q5⟩:=hop i o ho;simp only[List.getElem?_toArray,ho,eE,ku,bn];refine⟨?_,?_⟩
  .rw[bf];intro e he;cases hb:gv .any e with
   |false=>simp
   |true=>simpa using(q1 e he hb).1
  .cases hd:o.dst with
   |none=>rfl
   |some d=>simpa using(hdm d).2 ⟨i,by rw[ho];exact hd⟩
 .intro s hs;obtain⟨j,hj⟩:=(hdm s).1 hs;rw[hsz0];exact(hdst j s hj).2.2.2
 .have e0:sgD tr L0 (λ_=>false) ops.length=L0:=by
   have:∀m,sgD tr L0 (λ_=>false) m=L0:=by
    intro m;induction m with
    |zero=>rfl
    |succ m ih=>exact ih
   exact this _
  refine⟨ρ0,(by grind),(by grind),?_,hle0,hbl0.drew,(by grind),(λt _=>rfl),?_,λk s _ hs=>hn0 s (by omega)⟩
  .rw[e0];exact hs0.drew
  .rw[e0];exact hf0
 .intro i o D V w ho ⟨ρ,g1,g2,g3,g4,g5,g6,g7,g8,g9⟩ hD hpre _;have ho':ops[i]? =some o:=by simpa using ho
  have hi:=hget i o ho';obtain⟨q1,q3,q4,q5⟩:=hop i o ho';have hanc:∀j,(fy anc i).contains j=true->D j=true:=by
   intro j hj;obtain⟨_,e,he,hb,h⟩:=q3 j hj;have:=hpre e he hb;rcases h with rfl|h
   .exact this
   .exact g1 _ _ this h
  have hdesc:∀j,(fy anc j).contains i=true->D j=false:=by
   intro j hj;cases hx:D j with
   |false=>rfl
   |true=>rw[g1 _ _ hx hj]at hD;cases hD
  have hT:=hokT i (cF.2 hi);rw[ho']at hT;simp only[eE,ku,bn]at hT;obtain⟨hT1,hT2⟩:=hT
  let Fi:=im ops tr F0 i
  have hslot:∀t,t∈GX o\/(∃(j:Nat) (b:Bool),o.guard=some (j,b)/\(ops[j]?).bind (·.dst)=some t)->aR ρ (bC C0 B w ρ (sgD tr L0 D ops.length)) (Fi.getD t .any) (V t):=by
   intro t ht;have hdone:∀(j:Nat),j<i->(ops[j]?).bind (·.dst)=some t->D j=true:=by
    intro j hji hj;rcases ht with ht|⟨j',b,hg,hj'⟩
    .rw[bf]at hT1;have:=hT1 t ht;rw[bf]at this;have:=this j (cF.2 (by omega));simp only[jl,beq_iff_eq,bne_iff_ne,ne_eq]at this;rcases this with((h|h)|h)|h
     .omega
     .exact absurd (hdst j t hj).1 h
     .exact hanc j h
     .have h1:=(hop j _ (fA (by omega))).2.1 i h;omega
    .have:j=j':=by
      rcases pD j j' with h|h
      .exact absurd hj (huniq j' t hj' j h)
      .exact h
     subst this;rw[hg]at hT2;simp only[bn]at hT2;exact hanc j hT2.1
   have hnot:∀(j:Nat),i<=j->(ops[j]?).bind (·.dst)=some t->D j=false:=by
    intro j hij hj;by_cases e:j=i
    .rw[e];exact hD
    rcases ht with ht|⟨j',b,hg,hj'⟩
    .rw[bf]at hT1;have:=hT1 t ht;rw[bf]at this;have:=this j (cF.2 (hdst j t hj).2.2.1);simp only[jl,beq_iff_eq,bne_iff_ne,ne_eq]at this;rcases this with((h|h)|h)|h
     .omega
     .exact absurd (hdst j t hj).1 h
     .have:=(q3 j h).1;omega
     .exact hdesc j h
    .have:j=j':=by
      rcases pD j j' with h|h
      .exact absurd hj (huniq j' t hj' j h)
      .exact h
     subst this;rw[hg]at hT2;simp only[bn]at hT2;have:=(q3 j hT2.1).1;omega
   by_cases hw:∃(j:Nat),j<i/\(ops[j]?).bind (·.dst)=some t
   .obtain⟨j,hji,hj⟩:=hw;have:=DK (tr:=tr) hj (hdst j t hj).2.2.2 (huniq j t hj) i hji;rw[this];exact g6 j t (hdone j hji hj) hj
   .have:=DB (ops:=ops) (tr:=tr) (F0:=F0) (t:=t) i λk hk e=>hw ⟨k,hk,e⟩;rw[this,g7 t λj hDj e=> ?_]
    .exact g8 t
    .rcases nU j i with h|h
     .exact hw ⟨j,h,e⟩
     .rw[hnot j h e]at hDj;cases hDj
  have hgi:=hgood i hi o ho';have hDset:∀s,sgD tr L0 (λj=>if j=i then true else D j) ops.length s=ai (sgD tr L0 D ops.length) (tr i).W s:=by
   intro s;have hlt:∀m,m<=i->sgD tr L0 (λj=>if j=i then true else D j) m=sgD tr L0 D m:=λm hm=>uH _ m (λ_ _=>rfl) (λj hj=>by rw[if_neg (by omega)]);cases hl:(tr i).W.lookup s with
   |none=>
    rw[Fa hl];have:∀m,i<m->sgD tr L0 (λj=>if j=i then true else D j) m s=sgD tr L0 D m s:=by
     intro m;induction m with
     |zero=>omega
     |succ m ih=>
      intro hm;by_cases e:m=i
      .subst e;simp only[sgD,if_true,hD,Bool.false_eq_true,if_false];rw[Fa hl,hlt m (bX _)]
      .simp only[sgD,if_neg e];cases hDm:D m with
       |false=>exact ih (by omega)
       |true=>simp only[if_true];unfold ai;rw[ih (by omega)]
    exact this _ hi
   |some x=>
    have:∀m,i<m->m<=ops.length->sgD tr L0 (λj=>if j=i then true else D j) m s=x:=by
     intro m;induction m with
     |zero=>omega
     |succ m ih=>
      intro hm hmn;by_cases e:m=i
      .subst e;simp only[sgD,if_true];unfold ai;rw[hl]
      .simp only[sgD,if_neg e];have hlm:D m=true->(tr m).W.lookup s=none:=by
        intro hDm;cases hl2:(tr m).W.lookup s with
        |none=>rfl
        |some y=>
         have:=(hclash i m hi (by omega) e s (.inr (KC (by rw[hl];simp))) (by rw[hl2];simp)).2 (by omega);rw[hdesc m this]at hDm;cases hDm
       cases hDm:D m with
       |false=>exact ih (by omega) (by omega)
       |true=>simp only[if_true];rw[Fa (hlm hDm)];exact ih (by omega) (by omega)
    rw[this _ hi (bX _)];unfold ai;rw[hl]
  have key:∀(ρ':Ren) (v:Value) (w':World),(∀s,cls s≠N+i->ρ' s=ρ s)->
    (∀b o' x,bC C0 B w ρ (sgD tr L0 D ops.length) b o' x->bC C0 B w' ρ' (ai (sgD tr L0 D ops.length) (tr i).W) b o' x)->
    StR C0 ρ' (ai (sgD tr L0 D ops.length) (tr i).W) w' B->aR ρ' (bC C0 B w' ρ' (ai (sgD tr L0 D ops.length) (tr i).W)) (tr i).r v->Below B w w'->
    G (λj=>if j=i then true else D j) (match o.dst with|some d=>λs=>if s=d then v else V s|none=>V) w':=by
   intro ρ' v w' k1 k2 k3 k4 k5;have hsg:sgD tr L0 (λj=>if j=i then true else D j) ops.length=ai (sgD tr L0 D ops.length) (tr i).W:=funext hDset;have hext:∀s q,ρ s=some q->ρ' s=some q:=by intro s q hq;rw[k1 s (λe=>by rw[g9 i s hD e]at hq;cases hq)];exact hq
   have hVd:∀(t:Nat),(ops[i]?).bind (·.dst)=some t->(match o.dst with|some d=>λs=>if s=d then v else V s|none=>V) t=v:=by intro t ht;rw[ho']at ht;have:o.dst=some t:=ht;rw[this];simp
   have hVn:∀(t:Nat),(ops[i]?).bind (·.dst)≠some t->(match o.dst with|some d=>λs=>if s=d then v else V s|none=>V) t=V t:=by
    intro t ht;rw[ho']at ht;cases hd:o.dst with
    |none=>rfl
    |some d=>
     have:t≠d:=λe=>ht (by rw[e];exact hd);simp[this]
   show G _ _ _;refine⟨ρ',?_,?_,by rw[hsg];exact k3,cO g4 k5.size,g5.trans k5,?_,?_,?_,?_⟩
   .intro i' j h1 h2;dsimp only at h1|-;by_cases e:j=i
    .rw[if_pos e]
    .rw[if_neg e];by_cases e':i'=i
     .subst e';exact hanc j h2
     .rw[if_neg e']at h1;exact g1 _ _ h1 h2
   .intro i' h1;dsimp only at h1;by_cases e':i'=i
    .rw[e'];exact hi
    .rw[if_neg e']at h1;exact g2 _ h1
   .intro j t h1 h2;dsimp only at h1;rw[hsg];by_cases e:j=i
    .subst e;rw[hVd t h2];exact k4
    .rw[if_neg e]at h1;rw[hVn t (huniq j t h2 i (λh=>e h.symm))];exact aR.mono hext k2 _ _ (g6 j t h1 h2)
   .intro t ht;rw[hVn t (ht i (by simp))];refine g7 t λj hj=>ht j ?_;dsimp only;by_cases e:j=i
    .rw[if_pos e]
    .rw[if_neg e];exact hj
   .intro t;rw[hsg];exact aR.mono hext k2 _ _ (g8 t)
   .intro k s hk hs;dsimp only at hk;by_cases e:k=i
    .rw[if_pos e]at hk;cases hk
    .rw[if_neg e]at hk;rw[k1 _ (by omega)];exact g9 k s hk hs
  have hgv:∀j b q,o.guard=some (j,b)->gdA (ops.map (·.dst)) Fi j=some q->gdV ops.toArray V j=q:=by
   intro j b q hg hq;unfold gdA at hq;rw[Pc]at hq;cases hd:(ops[j]?).bind (·.dst)with
   |none=>rw[hd]at hq;cases hq
   |some d=>
    rw[hd]at hq;have hrep:=hslot d (.inr ⟨j,b,hg,hd⟩);unfold gdV;rw[show(ops.toArray[j]?).bind (·.dst)=some d by simpa using hd];dsimp only at hq|-;split at hq
    .rename_i bb e;rw[e]at hrep;cases hq;rw[hrep]
    .rename_i e;rw[e]at hrep;cases hq;rw[hrep];rfl
    .cases hq
  rcases hgi with⟨hgd,hsim,_,_⟩|⟨j,want,q,hgd,hq,hne,htr⟩
  .have hwant:iS o (gdV ops.toArray V)=true:=by
    unfold iS;rcases hgd with h|⟨j,b,h,hq⟩
    .rw[h]
    .rw[h];dsimp only;rw[hgv j b _ h hq];simp
   rw[if_pos hwant];have hsg:∀s,s∈(tr i).R\/s∈(tr i).W.map (·.1)->sgD tr L0 D ops.length s=sgD tr L0 (λ_=>true) i s:=by
    intro s hs;refine aAt (Nat.le_of_lt hi) ?_ ?_
    .intro k hk hw;exact hanc k ((hclash i k hi (by omega) (by omega) s hs hw).1 hk)
    .intro k hk1 hk2 hw;by_cases e:k=i
     .rw[e];exact hD
     .exact hdesc k ((hclash i k hi hk2 e s hs hw).2 (by omega))
   have hgn:∀s,cls s=N+i->sgD tr L0 D ops.length s=none:=by
    intro s hs;cases hx:sgD tr L0 D ops.length s with
    |none=>rfl
    |some ob=>obtain⟨q,c,h1,_⟩:=g3.ob _ _ hx;rw[g9 i s hD hs]at h1;cases h1
   refine zY (hsim C0 ρ _ V w B g3 g4 (λs hs=>hsg s (.inl hs)) (λs hs=>g9 i s hD hs) hgn ?_) ?_
   .intro x hx;refine AF λt e=> ?_;subst e;exact hslot t (.inl (Ua hx))
   .rintro v w' ⟨ρ',k1,k2,k3,k4,k5⟩;exact key ρ' v w' k1 k2 k3 k4 k5
  .have hwant:iS o (gdV ops.toArray V)=false:=by unfold iS;rw[hgd];dsimp only;rw[hgv j want _ hgd hq];simpa using hne
   rw[hwant,if_neg (by simp)];have e1:(tr i).W=[] :=by rw[htr]
   have e2:(tr i).r= .undef:=by rw[htr]
   refine key ρ Go.undef w (λ_ _=>rfl) ?_ ?_ ?_ (Below.refl _ _)
   .rw[e1];exact λ_ _ _ h=>h
   .rw[e1];exact g3
   .rw[e2];rfl
 .intro D V w ⟨ρ,g1,g2,g3,g4,g5,g6,g7,g8,g9⟩ hall;simp only[List.size_toArray]at hall;have hsg:sgD tr L0 D ops.length=L':=by rw[hL'];exact uH _ _ (λ_ _=>rfl) (λj hj=>hall j hj)
  obtain⟨p1,p2,p3⟩:=zK V dsts a0 (λs hs=>by obtain⟨j,hj⟩:=(hdm s).1 hs;rw[hsz0];exact(hdst j s hj).2.2.2)
  refine hK _ L' _ w hKK (wo _ _ _ _) ⟨⟨ρ,by rw[<-hsg];exact g3,?_,?_⟩,g4,p1.trans hdf0,by rw[p2,hsz0,wo],g5⟩
  .intro s hs;have:D (cls s-N)=false:=by
    cases hx:D (cls s-N)with
    |false=>rfl
    |true=>have:=g2 _ hx;omega
   exact g9 _ s this (by omega)
  .intro t;rw[<-hsg];by_cases ht:t<a0.tmps.size
   .rw[p3 t ht];by_cases hm:t∈dsts
    .rw[if_pos hm];obtain⟨j,hj⟩:=(hdm t).1 hm;obtain⟨_,_,h3,h4⟩:=hdst j t hj;rw[DK hj h4 (huniq j t hj) _ h3];exact g6 j t (hall j h3) hj
    .rw[if_neg hm,DB _ λk _ e=>hm ((hdm t).2 ⟨k,e⟩)];exact g8 t
   .have:(im ops tr F0 ops.length).getD t .any= .any:=by rw[dw,lr (by rw[wo];omega)];rfl
    rw[this];trivial
attribute [irreducible] eR
section
abbrev oU:=Exit->List AV->Sto->Nat->Prop
def JC{P:Program}{ops:Array Oper}{Q:Exit->Act->World->Prop}{i:Nat}{o:Oper}{a:Act}{w:World}{next:Act->World->Prop}(ho:ops[i]? =some o)
  (h:if iS o (gdV ops λs=>a.tmps.getD s Go.undef)=true then cJ P o (λs=>a.tmps.getD s Go.undef) w λv w'=>next (a.put o.dst v) w' else next (a.put o.dst Go.undef) w):wpOp P ops Q i next a w:=by
 unfold wpOp;rw[ho];simp only[];rw[DL];by_cases hw:iS o (gdV ops λs=>a.tmps.getD s undef)=true
 .rw[if_pos hw]at h|-;refine .inl ?_;unfold Oper.wp;rw[Act.eval_evalV];unfold cJ at h;cases hr:(execOp (bH λs=>a.tmps.getD s undef) o).run P w with
  |halt x w'=>grind
  |ok n w'=>
   rw[hr]at h;cases n<;>simp only[]at h<;>first|exact h.elim|skip
   .exact h
   .exact h
   .rename_i f args;refine h.mono ?_;grind
 grind
def MT(a:Act)(d:Option Nat)(v:Value)(t:Nat):(a.put d v).tmps.getD t Go.undef=if d=some t/\t<a.tmps.size then v else a.tmps.getD t Go.undef:=by
 cases d with
 |none=>simp[mZ]
 |some d=>
  simp only[mZ,gG,Array.getElem?_setIfInBounds,fm];grind
def Kx(F:List AV)(d:Option Nat)(r:AV)(t:Nat):(eK F d r).getD t .any=if d=some t/\t<F.length then r else F.getD t .any:=by
 cases d with
 |none=>simp[eK]
 |some d=>
  simp only[eK,dw,List.getElem?_set,fm];grind
section
variable {P:Program} {C0:bE} {B:Nat} {wI:World}
def St.mono{F:List AV}{σ:Nat->Option Ob}{N N':Nat}{a:Act}{w:World}(h:St C0 B wI F σ N a w)(hN:N<=N'):St C0 B wI F σ N' a w:=by obtain⟨⟨ρ,h1,h2,h3⟩,h4,h5,h6,h7⟩:=h;exact⟨by grind,h4,h5,h6,h7⟩
def zu{ops tail:List Oper}{m N:Nat}{Q:Exit->Act->World->Prop}{K:List AV->Sto->i7->Prop}(hm:m+tail.length=ops.length)(hK:∀F L log a w,K F L log->St C0 B wI F L (N+m) a w->wpOps P ops.toArray Q (Ct m tail.length) a w):
  ∀(rest:List Oper) (i:Nat) (F:List AV) (L:Sto) (log:i7) (a:Act) (w:World),i<=ops.length->ops.drop i=rest++tail->eR P N (ops.map (·.dst)) rest i F L log K->St C0 B wI F L (N+i) a w->wpOps P ops.toArray Q (Ct i (rest.length+tail.length)) a w
 |[],i,F,L,log,a,w,hil,hd,h,hS=>by
  have hi:i=m:=by have:=congrArg fh hd;simp at this;omega
  subst hi;unfold eR at h;grind
 |o::rest,i,F,L,log,a,w,hil,hd,h,hS=>by
  have hlt:i<ops.length:=by have:=congrArg fh hd;simp at this;omega
  have ho:ops[i]? =some o:=by have:=congrArg (λl=>l[0]?) hd;simpa using this
  have hd':ops.drop (i+1)=rest++tail:=by have:=congrArg List.tail hd;simpa using this
  rw[List.length_cons,show rest.length+1+tail.length=(rest.length+tail.length)+1 by omega];refine JC (by simpa using ho) ?_;obtain⟨⟨ρ,s1,s2,s3⟩,s4,s5,s6,s7⟩:=hS;have fin:∀(ρ':Ren) (W:List (Nat×Option Ob)) (r:AV) (v:Value) (w':World) (K':Prop),(∀s,cls s≠N+i->ρ' s=ρ s)->(∀b o' x,bC C0 B w ρ L b o' x->bC C0 B w' ρ' (ai L W) b o' x)->StR C0 ρ' (ai L W) w' B->
    aR ρ' (bC C0 B w' ρ' (ai L W)) r v->Below B w w'->St C0 B wI (eK F o.dst r) (ai L W) (N+(i+1)) (a.put o.dst v) w':=by
   intro ρ' W r v w' _ k1 k2 k3 k4 k5;have hext:∀s q,ρ s=some q->ρ' s=some q:=by intro s q hq;rw[k1 s (by grind)];exact hq
   refine⟨⟨ρ',k3,by grind,λt=> ?_⟩,cO s4 k5.size,by cases hd2:o.dst<;>exact s5,by rw[DQ];cases hd2:o.dst<;>simpa[mZ]using s6,s7.trans k5⟩;rw[Kx,MT,s6];by_cases e:o.dst=some t/\t<F.length
   .grind
   .rw[if_neg e,if_neg e];exact aR.mono hext k2 _ _ (s3 t)
  have run:(∃r R W Rc Wc,bT P o (j5 F) L (N+i) r R W/\inC R Rc/\inC (W.map (·.1)) Wc/\eR P N (ops.map (·.dst)) rest (i+1) (eK F o.dst r) (ai L W) (log++[(Rc,Wc)]) K)->
    cJ P o (λs=>a.tmps.getD s Go.undef) w λv w'=>wpOps P ops.toArray Q (Ct (i+1) (rest.length+tail.length)) (a.put o.dst v) w':=by
   rintro⟨r,R,W,Rc,Wc,hsim,_,_,hk⟩;have hgn:∀s,cls s=N+i->L s=none:=by
    intro s hs;cases hx:L s with
    |none=>rfl
    |some ob=>obtain⟨q,c,h1,_⟩:=s1.ob _ _ hx;grind
   refine zY (hsim C0 ρ L _ w B s1 s4 (λ_ _=>rfl) (by grind) hgn (λx _=>AF λt _=>s3 t)) ?_;rintro v w' ⟨ρ',k1,k2,k3,k4,k5⟩;exact zu hm hK rest (i+1) _ _ _ _ w' hlt hd' hk (fin ρ' W r v w' True k1 k2 k3 k4 k5)
  have skip:eR P N (ops.map (·.dst)) rest (i+1) (eK F o.dst .undef) L (log++[([],[])]) K->wpOps P ops.toArray Q (Ct (i+1) (rest.length+tail.length)) (a.put o.dst Go.undef) w:=by intro h;exact zu hm hK rest (i+1) _ _ _ _ w hlt hd' h (fin ρ [] .undef Go.undef w True (λ_ _=>rfl) (λ_ _ _ h=>h) s1 (by rfl) (Below.refl _ _))
  have hgv:∀j b q,o.guard=some (j,b)->gdA (ops.map (·.dst)) F j=some q->gdV ops.toArray (λs=>a.tmps.getD s Go.undef) j=q:=by
   intro j b q hgd hq;unfold gdA at hq;rw[Pc]at hq;cases hd:(ops[j]?).bind (·.dst)with
   |none=>grind
   |some d=>
    rw[hd]at hq;have hrep:=s3 d;unfold gdV;rw[show(ops.toArray[j]?).bind (·.dst)=some d by grind];dsimp only at hq|-;split at hq
    .rename_i bb e;unfold aR aU at hrep;grind
    .rename_i e;rw[e]at hrep;cases hq;rw[hrep];rfl
    .cases hq
  unfold eR at h;split at h
  .rename_i hgd;have hw:iS o (gdV ops.toArray λs=>a.tmps.getD s Go.undef)=true:=by unfold iS;rw[hgd]
   grind
  .rename_i j want hgd;split at h
   .rename_i b hb;split at h
    .rename_i e;subst e;have hw:iS o (gdV ops.toArray λs=>a.tmps.getD s Go.undef)=true:=by unfold iS;rw[hgd];dsimp only;rw[hgv j b _ hgd hb];simp
     grind
    .rename_i e;have hw:iS o (gdV ops.toArray λs=>a.tmps.getD s Go.undef)=false:=by unfold iS;rw[hgd];dsimp only;rw[hgv j want _ hgd hb];simpa using e
     grind
   .rename_i hb;have hw:iS o (gdV ops.toArray λs=>a.tmps.getD s Go.undef)=false:=by unfold iS;rw[hgd];dsimp only;rw[hgv j want _ hgd hb];rfl
    grind
   grind
def Tb{id N:Nat}{ops:List Oper}{Q:Exit->Act->World->Prop}{a:Act}{w:World}{F:List AV}{L:Sto}{K:List AV->Sto->Prop}
  (hS:St C0 B wI F L N a w) (h:eR P N (ops.map (·.dst)) ops 0 F L [] λF L _=>K F L)
  (hK:∀F L a w,K F L->St C0 B wI F L (N+ops.length) a w->Q .normal a w):(yx id ops.toArray false).wp P Q a w:=by
 refine wp_region ?_;have:=zu (P:=P) (C0:=C0) (B:=B) (wI:=wI) (Q:=Q) (tail:=[]) (m:=ops.length) rfl (λF L _ a w h hS=>hK F L a w h hS) ops 0 F L [] a w (jS _) (by simp) h (by omega);rw[List.range_eq_range'];omega
def tQ(P:Program)(o:Oper)(F:List AV)(L:Sto)(N:Nat)(K:List AV->Sto->Nat->Prop):Prop:=∀(C0:bE) (B:Nat) (wI:World) (a:Act) (w:World),St C0 B wI F L N a w->
 cJ P o (λs=>a.tmps.getD s Go.undef) w λv w'=>∃F' L' N',K F' L' N'/\St C0 B wI F' L' N' (a.put o.dst v) w'
def T4{id N:Nat}{pre:List Oper}{o:Oper}{Q:Exit->Act->World->Prop}{a:Act}{w:World}{F:List AV}{L:Sto}{K:List AV->Sto->Nat->Prop}(hgd:o.guard=none)
  (hS:St C0 B wI F L N a w) (h:eR P N ((pre++[o]).map (·.dst)) pre 0 F L [] λF L _=>tQ P o F L (N+pre.length) K)
  (hK:∀F L N a w,K F L N->St C0 B wI F L N a w->Q .normal a w):(yx id (pre++[o]).toArray false).wp P Q a w:=by
 refine wp_region ?_;have:=zu (P:=P) (C0:=C0) (B:=B) (wI:=wI) (Q:=Q) (ops:=pre++[o]) (tail:=[o]) (m:=pre.length) (by simp) (λF L _ a w h hS=>by
  refine JC (o:=o) (by simp) ?_;have hw:iS o (gdV (pre++[o]).toArray λs=>a.tmps.getD s Go.undef)=true:=by unfold iS;rw[hgd]
  rw[if_pos hw];refine zY (h C0 B wI a w hS) ?_;rintro v w' ⟨F',L',N',h1,h2⟩;exact hK F' L' N' _ _ h1 h2) pre 0 F L [] a w (jS _) (by simp) h (by omega)
 rw[List.range_eq_range'];grind
end
def ff(F:List AV)(L:Sto)(N:Nat)(F':List AV)(L':Sto)(N':Nat):Prop:=∀(C0:bE) (B:Nat) (wI:World) (a:Act) (w:World),St C0 B wI F L N a w->St C0 B wI F' L' N' a w
def ff.rfl{F:List AV}{L:Sto}{N:Nat}:ff F L N F L N:=λ_ _ _ _ _ h=>h
def SP(P:Program)(draw:Bool)(ops:List Oper)(F:List AV)(L:Sto)(N:Nat)(K:List AV->Sto->Prop):Prop:=match draw with
 |true=>∃anc:List (List Nat),P.follows .mixedOrders=true/\Bt ops anc=true/\((bV ops.length).all λi=>match(ops[i]?).bind (·.dst)with|some d=>decide (d<F.length)|none=>true)=true/\eR P N (ops.map (·.dst)) ops 0 F L [] λF L log=>x6 anc log=true/\K F L
 |false=>(ops.all (λo=>match o.guard with|none=>true|some (j,_)=>((ops[j]?).bind (·.dst)).isSome)=true)/\eR P N (ops.map (·.dst)) ops 0 F L [] λF L _=>K F L
def awp(P:Program):Code->oU->List AV->Sto->Nat->Prop
 | .skip,Q,F,L,N=>Q .normal F L N
 | .region _ ops draw,Q,F,L,N=>(SP P draw ops.toList F L N λF L=>Q .normal F L (N+ops.size))\/(draw=false/\∃pre o,ops.toList=pre++[o]/\o.guard=none/\eR P N (ops.toList.map (·.dst)) pre 0 F L [] λF L _=>tQ P o F L (N+pre.length) λF L N=>Q .normal F L N)
 | .seq a b,Q,F,L,N=>∃M:List AV->Sto->Nat->Prop,awp P a (λe F L N=>match e with| .normal=>M F L N|e=>Q e F L N) F L N/\∀F L N,M F L N->∃F' L' N',ff F L N F' L' N'/\awp P b Q F' L' N'
 | .cond c t e,Q,F,L,N=>∃b,j5 F c= .p (.bool b)/\(b=true->awp P t Q F L N)/\(b=false->awp P e Q F L N)
 | .block id c,Q,F,L,N=>awp P c (λe F L N=>match e with| .exit id'=>if id'=id then Q .normal F L N else Q (.exit id') F L N|e=>Q e F L N) F L N
 | .loop c,Q,F,L,N=>∃(Inv:List AV->Sto->Nat->Prop) (μ:List AV->Sto->Nat->Nat),(∃F' L' N',ff F L N F' L' N'/\Inv F' L' N')/\
    ∀F L N,Inv F L N->awp P c (λe F1 L1 N1=>match e with| .normal=>∃F' L' N',ff F1 L1 N1 F' L' N'/\Inv F' L' N'/\μ F' L' N'<μ F L N|e=>Q e F1 L1 N1) F L N
 | .exit id,Q,F,L,N=>Q (.exit id) F L N
 | .ret,Q,F,L,N=>Q .ret F L N
 | .scope c,Q,F,L,N=>awp P c (λe F L N=>match e with| .goto _=>False|e=>Q e F L N) F L N
 | .label _,Q,F,L,N=>Q .normal F L N
 |_,_,_,_,_=>False
def JX{P:Program}{c:Code}{Q:Exit->Act->World->Prop}:∀{n:Nat} {a:Act} {w:World},Cu P c Q n a w->Cu P c Q (n+1) a w
 |0,_,_,h=>h.elim
 |n+1,a,w,h=>by
  refine wp_mono h ?_;intro e a w h;cases e<;>first|exact h|exact JX h
def Vy{P:Program}{c:Code}{Q:Exit->Act->World->Prop}{n m:Nat}(h:n<=m){a:Act}{w:World}(hr:Cu P c Q n a w):Cu P c Q m a w:=by
 induction h with
 |refl=>exact hr
 |step _ ih=>exact JX ih
def VZ{P:Program}{c:Code}{Q:Exit->Act->World->Prop}{a:Act}{w:World}(I:Nat->Act->World->Prop){n:Nat}(h0:I n a w)
  (hr:∀n a w,I n a w->c.wp P (Exit.then (λa' w'=>∃m,m<n/\I m a' w') Q) a w):(Code.loop c).wp P Q a w:=by
 have key:∀n a w,I n a w->Cu P c Q (n+1) a w:=by
  intro n;induction n using Nat.strongRecOn with
  |ind n ih=>
   intro a w h;refine wp_mono (hr n a w h) ?_;intro e a' w' h';cases e<;>first|exact h'|skip
   obtain⟨m,hm,hI⟩:=h';exact Vy (by grind) (ih m hm a' w' hI)
 exact wp_loop_rounds (n+1) (key n a w h0)
def Ee{P:Program}{C0:bE}{B:Nat}{wI:World}:∀(c:Code) (Q:oU) (F:List AV) (L:Sto) (N:Nat) (a:Act) (w:World),awp P c Q F L N->St C0 B wI F L N a w->
  c.wp P (λe a' w'=>∃F' L' N',Q e F' L' N'/\St C0 B wI F' L' N' a' w') a w:=by
 intro c;induction c with
 |skip=>intro Q F L N a w h hS;exact wp_skip ⟨F,L,N,h,hS⟩
 |region id ops draw=>
  intro Q F L N a w h hS;rcases h with h|⟨rfl,pre,o,h1,h2,h3⟩
  rotate_left
  .have e:ops=(pre++[o]).toArray:=by rw[<-h1]
   subst e;exact T4 h2 hS h3 (by grind)
  cases draw with
  |true=>
   obtain⟨anc,h1,h2,h3,h4⟩:=h;have:=Tc (id:=id) (P:=P) (Q:=λe a' w'=>∃F' L' N',Q e F' L' N'/\St C0 B wI F' L' N' a' w') h1 anc h2 h3 hS h4 (by grind);omega
  |false=>
   obtain⟨h1,h4⟩:=h;have:=Tb (id:=id) (P:=P) (Q:=λe a' w'=>∃F' L' N',Q e F' L' N'/\St C0 B wI F' L' N' a' w') hS h4 (by grind);omega
 |seq x y ihx ihy=>
  intro Q F L N a w h hS;obtain⟨M,h1,h2⟩:=h;refine wp_seq (wp_mono (ihx _ F L N a w h1 hS) ?_);rintro e a' w' ⟨F',L',N',hq,hs⟩;cases e<;>first|exact⟨F',L',N',hq,hs⟩|(obtain⟨F2,L2,N2,hw,hy⟩:=h2 _ _ _ hq;exact ihy Q F2 L2 N2 a' w' hy (hw C0 B wI a' w' hs))
 |cond c t e iht ihe=>
  intro Q F L N a w h hS;obtain⟨b,hb,h1,h2⟩:=h;obtain⟨⟨ρ,s1,s2,s3⟩,_⟩:=id hS;have hc:a.eval c= .bool b:=by rw[Act.eval_evalV];have:=AF (x:=c) (F:=F) (V:=λs=>a.tmps.getD s undef) (ρ:=ρ) (C:=bC C0 B w ρ L) (λt _=>s3 t);rw[hb]at this;unfold aR aU at this;exact this
  exact wp_cond_split hc (by grind) (by grind)
 |block id c ih=>
  intro Q F L N a w h hS;refine wp_block (wp_mono (ih _ F L N a w h hS) ?_);rintro e a' w' ⟨F',L',N',hq,hs⟩;cases e<;>first|exact⟨F',L',N',hq,hs⟩|skip
  rename_i id';unfold Exit.inBlock;grind
 |loop c ih=>
  intro Q F L N a w h hS;obtain⟨Inv,μ,⟨F0,L0,N0,hw0,hI0⟩,hround⟩:=h;refine VZ (λn a w=>∃F L N,Inv F L N/\St C0 B wI F L N a w/\μ F L N=n) ⟨F0,L0,N0,hI0,hw0 C0 B wI a w hS,rfl⟩ ?_;rintro n a' w' ⟨F1,L1,N1,hI1,hS1,rfl⟩;refine wp_mono (ih _ F1 L1 N1 a' w' (hround F1 L1 N1 hI1) hS1) ?_;rintro e a2 w2 ⟨F2,L2,N2,hq,hs⟩;cases e<;>first|exact⟨F2,L2,N2,hq,hs⟩|skip
  obtain⟨F3,L3,N3,hw,hI3,hlt⟩:=hq;exact⟨_,hlt,F3,L3,N3,hI3,hw C0 B wI a2 w2 hs,rfl⟩
 |exit id=>intro Q F L N a w h hS;exact wp_exit ⟨F,L,N,h,hS⟩
 |ret=>intro Q F L N a w h hS;exact wp_ret ⟨F,L,N,h,hS⟩
 |rangeFunc f params x y _ _=>intro Q F L N a w h;exact h.elim
 |scope c ih=>
  intro Q F L N a w h hS;refine wp_scope_straight (wp_mono (ih _ F L N a w h hS) ?_);rintro e a' w' ⟨F',L',N',hq,hs⟩;cases e<;>first|exact hq.elim|exact⟨F',L',N',hq,hs⟩
 |label l=>intro Q F L N a w h hS;exact wp_label ⟨F,L,N,h,hS⟩
 |goto l=>intro Q F L N a w h;exact h.elim
 |refuse s=>intro Q F L N a w h;exact h.elim
section
variable {P:Program} {y:Code} {Q:oU} {F:List AV} {L:Sto} {N:Nat}
def gOk(l:List Oper):Bool:=l.all λo=>match o.guard with|none=>true|some (j,_)=>((l[j]?).bind (·.dst)).isSome
def dOk(l:List Oper)(n:Nat):Bool:=(bV l.length).all λi=>match(l[i]?).bind (·.dst)with|some d=>decide (d<n)|none=>true
def Tj{x:Code}(J:List AV->Sto->Nat->Prop)(h1:awp P x (λe F L N=>match e with| .normal=>∃F' L' N',ff F L N F' L' N'/\J F' L' N'|e=>Q e F L N) F L N)(h2:∀F L N,J F L N->awp P y Q F L N):awp P (.seq x y) Q F L N:=
 ⟨λF L N=>∃F' L' N',ff F L N F' L' N'/\J F' L' N',h1,by grind⟩
def Yk{c:Code}(Inv:List AV->Sto->Nat->Prop)(μ:List AV->Sto->Nat)(h0:∃F' L' N',ff F L N F' L' N'/\Inv F' L' N')
 (hr:∀F L N,Inv F L N->awp P c (λe F1 L1 N1=>match e with| .normal=>∃F' L' N',ff F1 L1 N1 F' L' N'/\Inv F' L' N'/\μ F' L'<μ F L|e=>Q e F1 L1 N1) F L N):awp P (.loop c) Q F L N:=⟨Inv,λF L _=>μ F L,h0,hr⟩
def W6{c:Code}(Inv:List AV->Sto->Nat->Prop)(μ:List AV->Sto->Nat->Nat)(h0:∃F' L' N',ff F L N F' L' N'/\Inv F' L' N')
 (hr:∀F L N,Inv F L N->awp P c (λe F1 L1 N1=>match e with| .normal=>∃F' L' N',ff F1 L1 N1 F' L' N'/\Inv F' L' N'/\μ F' L' N'<μ F L N|e=>Q e F1 L1 N1) F L N):awp P (.loop c) Q F L N:=⟨Inv,μ,h0,hr⟩
end
section
variable {P:Program} {N:Nat} {ds:List (Option Nat)} {K:List AV->Sto->i7->Prop}
end
end
section
def ik(P:Program):List ResultVar->List AV->(Nat->Option Ob)->(List AV->Prop)->Prop
 |[],_,_,K=>K []
 | .tmp t::rs,F,σ,K=>ik P rs F σ λl=>K (F.getD t .any::l)
 | .cell a t::rs,F,σ,K=>(match F.getD a .any with
   | .ptr s off=>∃ob,σ s=some ob/\rB P t ob.cells off λr=>ik P rs F σ λl=>K (r::l)
   |_=>False)
def vQ:List PV->PV
 |[x] =>x
 |m=> .tup m
def CH(tmps:Array Value):ResultVar->Sem Value
 | .tmp t=>pure (tmps.getD t Go.undef)
 | .cell a t=>do loadVar t (<-asAddr (tmps.getD a Go.undef))
def DH(fn:Func)(tmps:Array Value):results fn tmps=(do let vs<-fn.results.mapM (CH tmps);pure (if h:vs.size=1 then vs[0]else .tuple vs)):=by
 congr 1
def Hw(P:Program)(rs:List ResultVar)(r:PV):oU:=λe F L _=>match e with
 | .normal| .ret=>ik P rs F L λl=>∃m,dj (dI 3 L) l=some m/\vQ m=r
 |_=>False
section
variable {P:Program} {C0:bE} {B:Nat} {wI:World}
def xS{ρ:Ren}{σ:Nat->Option Ob}{a:Act}{w:World}{F:List AV}(hs:StR C0 ρ σ w B)(hf:∀t,aR ρ (bC C0 B w ρ σ) (F.getD t .any) (a.tmps.getD t Go.undef)):
  ∀(rs:List ResultVar) (K:List AV->Prop),ik P rs F σ K->∃l vs,K l/\(rs.mapM (CH a.tmps)).run P w= .ok vs w/\ag ρ (bC C0 B w ρ σ) l vs
 |[],K,h=>⟨[],[],h,by simp,by rfl⟩
 | .tmp t::rs,K,h=>by
   obtain⟨l,vs,h1,h2,h3⟩:=xS hs hf rs _ h;refine⟨_,_::vs,h1,?_,by exact⟨_,vs,rfl,hf t,h3⟩⟩;simp[List.mapM_cons,h2,CH]
 | .cell x t::rs,K,h=>by
   unfold ik at h;split at h
   .rename_i s off e;obtain⟨ob,hob,hl⟩:=h;obtain⟨r,hr,hv⟩:=LF hl;obtain⟨l,vs,h1,h2,h3⟩:=xS hs hf rs _ hr;have hx:=hf x;rw[e]at hx;obtain⟨b,c,hq,hpt⟩:=hx;obtain⟨_,arr,hO⟩:=hs.at hob hq;obtain⟨v,hrun,hrep⟩:=hv _ _ w b c arr hO;have hrun':(loadVar t ⟨b,off,none⟩).run P w= .ok v w:=by simpa[Instr.loadAt,Instr.sureAddr]using hrun
    refine⟨_,v::vs,h1,?_,by unfold ag;grind⟩;simp[List.mapM_cons,h2,CH,hpt,asAddr,hrun']
   grind
def yY:Sto:=λs=>if s=sit 0 0 then some ⟨0,0,[.undef]⟩else none
def si(L:Sto)(N:Nat):Prop:=(L=(λ_=>none)/\N=0)\/(L=yY/\N=1)
def si.st{L:Sto}{N:Nat}(h:si L N){C:bE}{w:World}(hC:∀b o v,C b o v->w.cell? ⟨b,o,none⟩=some v):
  ∃ρ:Ren,StR C ρ L w w.heap.size/\(∀s,N<=cls s->ρ s=none)/\∀s b c,ρ s≠some (some b,c):=by
 rcases h with⟨rfl,rfl⟩|⟨rfl,rfl⟩
 .exact⟨λ_=>none,⟨by grind,by grind,by grind⟩,λ_ _=>rfl,by grind⟩
 .have hat:∀s o,yY s=some o->s=sit 0 0/\o=⟨0,0,[.undef]⟩:=by
   intro s o h;unfold yY at h;split at h
   .grind
   .cases h
  refine⟨λs=>if s=sit 0 0 then some (none,0)else none,⟨?_,?_,?_⟩,?_,?_⟩
  .intro s o h;obtain⟨rfl,rfl⟩:=hat s o h;have hno:∀i v,¬C w.heap.size i v:=λi v hv=>absurd (World.block_lt_of_cell? w ⟨w.heap.size,i,none⟩ (hC _ _ _ hv)) (Nat.lt_irrefl _);exact⟨none,0,by simp,.inl ⟨rfl,.inr ⟨rfl,.inl (by grind)⟩⟩⟩
  .grind
  .grind
  .intro s hs;try dsimp only
   split
   .rename_i e;rw[e,iE]at hs;omega
   .rfl
  grind
def Uj{f:FuncId}{fn:Func}{c:Code}{A:List PV}{r:PV}(hok:je P f=true)(hf:P.funcs[f]? =some fn)(hb:fn.body=some c)
  {L0:Sto} {N0:Nat} (h0:si L0 N0) (h:awp P c (Hw P fn.results.toList r) (A.map .p++cS (fn.ntmps-A.length) .undef) L0 N0):Sat P false f A r:=by
 refine⟨hok,λC w vs hC hrep=> ?_⟩;obtain⟨ρ0,z1,z2,z3⟩:=h0.st hC;have hlen:=hrep.length;refine calls_of_wp hf hb (wp_mono (Ee (C0:=C) (B:=w.heap.size) (wI:=w) c _ _ _ _ _ _ h ?_) ?_)
 .refine⟨⟨ρ0,z1,z2,λt=> ?_⟩,bX _,rfl,by simp[hlen],Below.refl _ _⟩;by_cases ht:t<A.length
  .have e1:(A.map AV.p++cS (fn.ntmps-A.length) AV.undef).getD t .any= .p A[t] :=by rw[dw,mW (by grind)];simp[ht]
   obtain⟨v,h1,h2⟩:=hrep.get _ _ t A[t] (by grind);have e2:(vs.toArray++nW (fn.ntmps-vs.toArray.size) undef).getD t undef=v:=by rw[gG,Cj (by simp;omega)];simp[h1]
   rw[e1];rw[e2];refine aU.mono (λb o x hx=>⟨hC b o x hx,by grind,.inr hx⟩) _ v h2
  .by_cases ht2:t<A.length+(fn.ntmps-A.length)
   .have e1:(A.map AV.p++cS (fn.ntmps-A.length) AV.undef).getD t .any= .undef:=by rw[dw,kW (by simp;omega),Cv,if_pos (by simp;omega)];rfl
    have e2:(vs.toArray++nW (fn.ntmps-vs.toArray.size) undef).getD t undef=undef:=by rw[gG,Sl (by simp;omega),Cl];split<;>rfl
    rw[e1];rw[e2];rfl
   .have e1:(A.map AV.p++cS (fn.ntmps-A.length) AV.undef).getD t .any= .any:=by rw[dw,lr (by simp;omega)];rfl
    rw[e1];trivial
 .rintro e a w' ⟨F,L,N,hq,⟨ρ,s1,s2,s3⟩,s4,s5,s6,s7⟩;have fin:ik P fn.results.toList F L (λl=>∃m,dj (dI 3 L) l=some m/\vQ m=r)->a.defers=[]/\∃v,(results fn a.tmps).run P w'= .ok v w'/\∃v',Ending.returned v= .returned v'/\aU (λb o x=>((false:Bool)=false/\C b o x)\/(w.heap.size<=b/\w'.cell? ⟨b,o,none⟩=some x)) r v'/\Below w.heap.size w w':=by
   intro h;refine⟨s5,?_⟩;obtain⟨l,us,⟨m,hm,hr⟩,h2,h3⟩:=xS s1 s3 _ _ h;have hres:(results fn a.tmps).run P w'= .ok (if h:us.toArray.size=1 then us.toArray[0]else .tuple us.toArray) w':=by rw[DH,Sm];simp only[cg,Sem.run_map,h2,cl,dc]
   refine⟨_,hres,_,rfl,?_,s7⟩;obtain⟨g1,g2⟩:=n7 hm;have hrl:ae (λb o x=>((false:Bool)=false/\C b o x)\/(w.heap.size<=b/\w'.cell? ⟨b,o,none⟩=some x)) m us:=by
    refine ae.of _ _ (by rw[<-g1];exact h3.length) λi y hi=> ?_;have hlt:i<l.length:=by rw[g1];grind
    obtain⟨y',h5,h6⟩:=g2 i _ (fA hlt);rw[hi]at h5;cases h5;obtain⟨v,k1,k2⟩:=h3.get _ _ i _ (fA hlt);refine⟨v,k1,Ep s1 _ (λ_=>True) ?_ ?_ 3 _ _ v h6 (by grind) k2⟩
    .rintro b o x ⟨e1,e2,e3⟩;grind
    .grind
   rw[<-hr];cases m with
   |nil=>
    subst hrl;exact⟨[],rfl,by rfl⟩
   |cons x m=>
    cases m with
    |nil=>
     obtain⟨v,r',rfl,h7,h8⟩:=hrl;subst h8;unfold vQ;grind
    |cons y m=>
     have hl:¬us.toArray.size=1:=by have:=hrl.length;simp at this;simp;omega
     unfold vQ aU;grind
  cases e<;>first|exact fin hq|exact hq.elim
end
def iu:∀{l:List AV} {A:List PV},bK l=some A->l=A.map .p
 |[],A,h=>by simp[bK]at h;subst h;rfl
 |x::l,A,h=>by
  unfold bK at h;split at h
  .grind
  .rename_i y l' e;cases e;simp only[Option.map_eq_some_iff]at h;obtain⟨r,h1,rfl⟩:=h;rw[iu h1];rfl
  .cases h
section
variable {P:Program} {σ:Nat->Option Ob} {f:FuncId} {fr:Bool} {A:List PV} {r:PV} {avs:List AV} {K:Res}
def DV(hs:Sat P fr f A r)(hA:bK avs=some A)(hK:K (.p r) [] []):ph P σ f avs K:=by have:=iu hA;subst this;refine .inl ⟨A,sX 3 σ A,fr,r,hs,.inl ⟨.inr hA,?_⟩⟩;rw[pX];exact hK
def JM{R:List Nat}(hs:Sat P true f A r)(hA:dj (dI 3 σ) avs=some A)(hR:bL (cK 3 σ) avs=R)(hK:K (.p r) R []):ph P σ f avs K:=by subst hR;exact .inl ⟨A,hA,true,r,hs,by grind⟩
def UG{R:List Nat}(hs:Sat P fr f A r)(hA:dj (dI 3 σ) avs=some A)(hR:bL (cK 3 σ) avs=R)(hK:K (.p r) R (R.map (·,none))):ph P σ f avs K:=by subst hR;exact .inl ⟨A,hA,fr,r,hs,.inr hK⟩
def PV.flat:PV->Bool
 | .int .. | .bool _| .str _=>true
 | .agg l| .tup l=>l.all λx=>match x with| .int .. | .bool _| .str _=>true|_=>false
 |_=>false
def aU.flat1{C C':bE}{x:PV}{v:Value}(hf:(match x with| .int .. | .bool _| .str _=>true|_=>false)=true)(h:aU C x v):aU C' x v:=by cases x<;>first|(cases hf;done)|(unfold aU at*;exact h)
def ae.flat{C C':bE}:∀{l:List PV} {vs:List Value},l.all (λx=>match x with| .int .. | .bool _| .str _=>true|_=>false)=true->ae C l vs->ae C' l vs
 |[],vs,_,h=>by exact h
 |x::l,vs,hf,h=>by
  obtain⟨v,r,rfl,h1,h2⟩:=h;simp only[List.all_cons,bn]at hf;exact⟨v,r,rfl,aU.flat1 hf.1 h1,ae.flat hf.2 h2⟩
def aU.flat{C C':bE}{x:PV}{v:Value}(hf:x.flat=true)(h:aU C x v):aU C' x v:=by
 cases x<;>first|(cases hf;done)|(unfold aU at*;exact h)|skip
 .obtain⟨vs,h1,h2,h3⟩:=h;exact⟨vs,h1,ae.flat hf h2,h3⟩
 .obtain⟨vs,h1,h2⟩:=h;exact⟨vs,h1,ae.flat hf h2⟩
def Sat.fresh(hs:Sat P fr f A r)(hf:r.flat=true):Sat P true f A r:=
 ⟨hs.1,λC w vs hC hr=>(hs.2 C w vs hC hr).mono λ_e _w' ⟨v,h1,h2,h3⟩=>⟨v,h1,aU.flat hf h2,h3⟩⟩
end
def Hx(P:Program)(rs:List ResultVar)(ty esz:Nat)(cells:List PV)(m:Nat)(ys:List PV):oU:=λe F L _=>match e with
 | .normal| .ret=>ik P rs F L λl=>(∃s,l= .own s 0 m::ys.map .p/\L s=some ⟨ty,esz,cells.map .p⟩)\/(l= .nil::ys.map .p/\m=0/\cells=[])
 |_=>False
section
variable {P:Program} {C0:bE} {B:Nat} {wI:World}
def ag.E5{ρ:Ren}{C:bE}:∀{l:List PV} {vs:List Value},ag ρ C (l.map .p) vs->ae C l vs
 |[],vs,h=>by exact h
 |x::l,vs,h=>by
  obtain⟨v,r,rfl,h2,h3⟩:=h;exact⟨v,r,rfl,h2,ag.E5 h3⟩
def Kk{f:FuncId}{fn:Func}{c:Code}{A:List PV}{Q:oU}{C:bE}{w:World}{vs:List Value}{R:Ending->World->Prop}(hf:P.funcs[f]? =some fn)(hb:fn.body=some c)(hC:∀b o v,C b o v->w.cell? ⟨b,o,none⟩=some v)(hrep:ae C A vs)
  {L0:Sto} {N0:Nat} (h0:si L0 N0) (h:awp P c Q (A.map .p++cS (fn.ntmps-A.length) .undef) L0 N0)
  (hR:∀e a w' F L N,Q e F L N->St C w.heap.size w F L N a w'->(match e with| .normal| .ret=>a.defers=[]/\∃v,(results fn a.tmps).run P w'= .ok v w'/\R (.returned v) w'|_=>False)):Calls P f vs.toArray w R:=by
 obtain⟨ρ0,z1,z2,z3⟩:=h0.st hC;have hlen:=hrep.length;refine calls_of_wp hf hb (wp_mono (Ee (C0:=C) (B:=w.heap.size) (wI:=w) c _ _ _ _ _ _ h ?_) ?_)
 .refine⟨⟨ρ0,z1,z2,λt=> ?_⟩,bX _,rfl,by simp[hlen],Below.refl _ _⟩;by_cases ht:t<A.length
  .have e1:(A.map AV.p++cS (fn.ntmps-A.length) AV.undef).getD t .any= .p A[t] :=by rw[dw,mW (by grind)];simp[ht]
   obtain⟨v,h1,h2⟩:=hrep.get _ _ t A[t] (by grind);have e2:(vs.toArray++nW (fn.ntmps-vs.toArray.size) undef).getD t undef=v:=by rw[gG,Cj (by simp;omega)];simp[h1]
   rw[e1];rw[e2];refine aU.mono (λb o x hx=>⟨hC b o x hx,by grind,.inr hx⟩) _ v h2
  .by_cases ht2:t<A.length+(fn.ntmps-A.length)
   .have e1:(A.map AV.p++cS (fn.ntmps-A.length) AV.undef).getD t .any= .undef:=by rw[dw,kW (by simp;omega),Cv,if_pos (by simp;omega)];rfl
    have e2:(vs.toArray++nW (fn.ntmps-vs.toArray.size) undef).getD t undef=undef:=by rw[gG,Sl (by simp;omega),Cl];split<;>rfl
    rw[e1];rw[e2];rfl
   .have e1:(A.map AV.p++cS (fn.ntmps-A.length) AV.undef).getD t .any= .any:=by rw[dw,lr (by simp;omega)];rfl
    rw[e1];trivial
 .rintro e a w' ⟨F,L,N,hq,hS⟩;have:=hR e a w' F L N hq hS;cases e<;>first|exact this|exact this.elim
def Tz{f:FuncId}{fn:Func}{c:Code}{A:List PV}{ty esz:Nat}{cells:List PV}{m:Nat}{ys:List PV}(hok:je P f=true)(he:esz≠0)(hf:P.funcs[f]? =some fn)(hb:fn.body=some c)
  {L0:Sto} {N0:Nat} (h0:si L0 N0) (h:awp P c (Hx P fn.results.toList ty esz cells m ys) (A.map .p++cS (fn.ntmps-A.length) .undef) L0 N0):vh P f A ty esz cells m ys:=by
 refine⟨hok,he,λC w vs hC hrep=>Kk hf hb hC hrep h0 h ?_⟩;rintro e a w' F L N hq ⟨⟨ρ,s1,s2,s3⟩,s4,s5,s6,s7⟩;have fin:ik P fn.results.toList F L (λl=>(∃s,l= .own s 0 m::ys.map .p/\L s=some ⟨ty,esz,cells.map .p⟩)\/(l= .nil::ys.map .p/\m=0/\cells=[]))->a.defers=[]/\∃v,(results fn a.tmps).run P w'= .ok v w'/\∃v' us q c,Ending.returned v= .returned (yb v' us)/\Below w.heap.size w w'/\ae (oQ C w.heap.size q w') ys us/\
   ((q=none/\v'= .slice none 0 0/\m=0/\cells=[]/\c=0)\/∃b arr,q=some b/\v'= .slice (some ⟨b,0,none⟩) m c/\m<=c/\w.heap.size<=b/\w'.heap[b]? =some (.cells arr ty (0,0))/\
     arr.size=c*esz/\cells.length<=arr.size/\c<=maxLen/\∀(i:Nat) x,cells[i]? =some x->∃u,arr[i]? =some u/\u.oneCell'=true/\aU (oQ C w.heap.size q w') x u):=by
  intro h;refine⟨s5,?_⟩;obtain⟨l,us,hl,h2,h3⟩:=xS s1 s3 _ _ h;have hres:(results fn a.tmps).run P w'= .ok (if h:us.toArray.size=1 then us.toArray[0]else .tuple us.toArray) w':=by rw[DH,Sm];simp only[cg,Sem.run_map,h2,cl,dc]
  refine⟨_,hres,?_⟩;have hout:∀v us',us=v::us'->(if h:us.toArray.size=1 then us.toArray[0]else Value.tuple us.toArray)=yb v us':=by
   rintro v us' rfl;cases us' with
   |nil=>rfl
   |cons u us'=>rfl
  rcases hl with⟨s,rfl,hs⟩|⟨rfl,hm,hc⟩
  .obtain⟨v,us',rfl,hv,hys⟩:=h3;obtain⟨q,c,hρ,hcase⟩:=hv;have hkeep:∀b o x,bC C w.heap.size w' ρ L b o x->oQ C w.heap.size q w' b o x:=by
    rintro b o x ⟨e1,e2,e3|e3⟩
    .refine .inr ⟨e3,λhq=> ?_,e1⟩;grind
    .exact .inl e3
   refine⟨v,us',q,c,by grind,s7,ae.mono hkeep _ _ (ag.E5 hys),?_⟩;obtain⟨q2,c2,hρ2,hob⟩:=s1.ob s _ hs;rw[hρ]at hρ2;cases hρ2;rcases hcase with⟨h1,h4,h5,_⟩|⟨b,o',c',h1,h4,h5,h6,h7⟩
   .simp_all
   .obtain⟨rfl,rfl⟩:=h7 rfl;rcases hob with⟨h8,_⟩|⟨b2,arr,h8,h9,h10⟩
    .grind
    .rw[h1]at h8;cases h8;obtain⟨r1,r2,r3⟩:=h10.row he;refine .inr ⟨b,arr,h1,h4,h5,h9,h10.blk,r1,by grind,r3,λi x hi=> ?_⟩;obtain⟨u,k1,k2,k3⟩:=h10.cells i (.p x) (by grind);exact⟨u,k1,k2,aU.mono hkeep x u k3⟩
  .obtain⟨v,us',rfl,hv,hys⟩:=h3;refine⟨v,us',none,0,by grind,s7,ae.mono ?_ _ _ (ag.E5 hys),.inl ⟨rfl,hv,hm,hc,rfl⟩⟩;rintro b o x ⟨e1,e2,e3|e3⟩
   .exact .inr (by grind)
   .exact .inl e3
 cases e<;>first|exact fin hq|exact hq.elim
end
end
section
def Yn{ρ:Ren}{C:bE}{A:List AV}{vs:List Value}{n:Nat}(h:ag ρ C A vs)(t:Nat):aR ρ C ((A++cS (n-A.length) AV.undef).getD t .any) ((vs.toArray++nW (n-vs.toArray.size) Go.undef).getD t Go.undef):=by
 have hlen:=h.length;by_cases ht:t<A.length
 .obtain⟨v,h1,h2⟩:=h.get _ _ t A[t] (fA ht);have e1:(A++cS (n-A.length) AV.undef).getD t .any=A[t] :=by rw[dw,mW ht];simp[ht]
  have e2:(vs.toArray++nW (n-vs.toArray.size) Go.undef).getD t Go.undef=v:=by rw[gG,Cj (by simp;omega)];simp[h1]
  grind
 .by_cases ht2:t<A.length+(n-A.length)
  .have e1:(A++cS (n-A.length) AV.undef).getD t .any= .undef:=by rw[dw,kW (by omega),Cv,if_pos (by omega)];rfl
   have e2:(vs.toArray++nW (n-vs.toArray.size) Go.undef).getD t Go.undef=Go.undef:=by rw[gG,Sl (by simp;omega),Cl];split<;>rfl
   rw[e1,e2];unfold aR;rfl
  .have e1:(A++cS (n-A.length) AV.undef).getD t .any= .any:=by rw[dw,lr (by simp;omega)];rfl
   rw[e1];unfold aR;trivial
abbrev eQ:Nat:=sit 0 0
def Eo{C0:bE}{B:Nat}{ρ:Ren}{w:World}{L:Sto}{S:List AV}(h:StR C0 ρ L w B)(hL:L eQ=some ⟨0,0,.undef::S⟩):
  ∃c,ρ eQ=some (none,c)/\(∀(i:Nat) x,(AV.undef::S)[i]? =some x->∀v,C0 B i v->aR ρ (bC C0 B w ρ L) x v)/\∀i v,C0 B i v->i<(AV.undef::S).length:=by
 obtain⟨q,c,h1,⟨rfl,h2|⟨_,h2⟩⟩|⟨b,arr,_,_,h2⟩⟩:=h.ob _ _ hL
 .grind
 .rcases h2 with⟨_,h3,h4⟩|⟨h3,_⟩
  .grind
  .cases h3
 .obtain⟨v,_,h3,h4⟩:=h2.cells 0 .undef rfl;unfold aR at h4;subst h4;cases h3
def StR.stk{C0 C1:bE}{B:Nat}{ρ:Ren}{w:World}{L:Sto}{S T:List AV}(h:StR C0 ρ L w B)(hL:L eQ=some ⟨0,0,.undef::S⟩)(h1:∀b,b<B->C1 b=C0 b)
  (h2:∀(i:Nat) x,T[i]? =some x->∀v,C1 B i v->aR ρ (bC C0 B w ρ L) x v) (h3:∀i v,C1 B i v->i<T.length):
  (∀b o x,bC C1 B w ρ (ai L [(eQ,some ⟨0,0,T⟩)]) b o x↔bC C0 B w ρ L b o x)/\StR C1 ρ (ai L [(eQ,some ⟨0,0,T⟩)]) w B:=by
 obtain⟨c0,k1,_,_⟩:=Eo h hL;have hup:∀s,s≠eQ->ai L [(eQ,some ⟨0,0,T⟩)] s=L s:=by intro s hs;unfold ai;simp[hZ,beq_eq_false_iff_ne.2 hs]
 have hus:ai L [(eQ,some ⟨0,0,T⟩)] eQ=some ⟨0,0,T⟩:=by unfold ai;simp[hZ]
 have hC:∀b o x,bC C1 B w ρ (ai L [(eQ,some ⟨0,0,T⟩)]) b o x↔bC C0 B w ρ L b o x:=by
  intro b o x;have e:(B<=b\/C1 b o x)↔(B<=b\/C0 b o x):=by
   rcases nU b B with hb|hb
   .rw[h1 b hb]
   .omega
  unfold bC;rw[e];refine and_congr_right λ_=>and_congr_left λ_=>forall_congr' λs=>forall_congr' λc=> ?_;by_cases hs:s=eQ
  .grind
  .rw[hup s hs]
 refine⟨hC,?_,?_,?_⟩
 .intro s o ho;by_cases hs:s=eQ
  .subst hs;rw[hus]at ho;cases ho;exact⟨none,c0,k1,.inl ⟨rfl,.inr ⟨rfl,.inl ⟨rfl,λi x hi v hv=>aR.mono (λ_ _ h=>h) (λb o x h=>(hC b o x).2 h) x v (h2 i x hi v hv),h3⟩⟩⟩⟩
  .rw[hup s hs]at ho;obtain⟨q,c,e1,⟨e2,e3|⟨e3,e4⟩⟩|⟨b,arr,e2,e3,e4⟩⟩:=h.ob s o ho
   .grind
   .refine⟨q,c,e1,.inl ⟨e2,.inr ⟨e3,?_⟩⟩⟩;rcases e4 with⟨f1,f2,f3⟩|⟨f1,f2,es,clock,f3,f4⟩
    .subst e2;exact absurd (h.mpi s eQ o _ c c0 ho hL e3 rfl e1 k1 (.inr ⟨f1,rfl⟩)) hs
    .exact .inr ⟨f1,f2,es,clock,f3,ag.mono (λ_ _ h=>h) (λb o x h=>(hC b o x).2 h) _ _ f4⟩
   .refine⟨q,c,e1,.inr ⟨b,arr,e2,e3,e4.blk,e4.box,e4.row,λi x hi=> ?_⟩⟩;obtain⟨v,g1,g2,g3⟩:=e4.cells i x hi;exact⟨v,g1,g2,aR.mono (λ_ _ h=>h) (λb o x h=>(hC b o x).2 h) x v g3⟩
 .intro s s' o o' b c c' e1 e2 e3 e4;have n1:s≠eQ:=λe=>by grind
  have n2:s'≠eQ:=λe=>by grind
  rw[hup s n1]at e1;rw[hup s' n2]at e2;exact h.inj s s' o o' b c c' e1 e2 e3 e4
 .intro s s' o o' c c' e1 e2 m1 m2 e3 e4 hT;have key:∀s o,ai L [(eQ,some ⟨0,0,T⟩)] s=some o->∃o2,L s=some o2/\o2.ty=o.ty/\o2.esz=o.esz:=by
   intro s o ho;by_cases hs:s=eQ
   .grind
   .grind
  obtain⟨p,f1,f2,f3⟩:=key s o e1;obtain⟨p',f1',f2',f3'⟩:=key s' o' e2;exact h.mpi s s' p p' c c' f1 f1' (by omega) (by omega) e3 e4 (by unfold rN at*;grind)
variable {P:Program}
def rL:List AV->AV
 |[] => .undef
 |[x] =>x
 |l=> .tup l
def Nx{C0:bE}{B:Nat}{fn:Func}{ρ:Ren}{σ:Nat->Option Ob}{a:Act}{w:World}{F:List AV}{K:List AV->Prop}(hs:StR C0 ρ σ w B)(hf:∀t,aR ρ (bC C0 B w ρ σ) (F.getD t .any) (a.tmps.getD t Go.undef))(h:ik P fn.results.toList F σ K):
  ∃l v,K l/\(results fn a.tmps).run P w= .ok v w/\aR ρ (bC C0 B w ρ σ) (rL l) v:=by
 obtain⟨l,us,hl,h2,h3⟩:=xS hs hf _ _ h;have hres:(results fn a.tmps).run P w= .ok (if h:us.toArray.size=1 then us.toArray[0]else .tuple us.toArray) w:=by rw[DH,Sm];simp only[cg,Sem.run_map,h2,cl,dc]
 refine⟨l,_,hl,hres,?_⟩;match l,us,h3 with
 |[],us,h3=>unfold ag at h3;subst h3;show aR _ _ .undef _;unfold aR;rfl
 |[x],us,h3=>
  unfold ag at h3;obtain⟨v,r,rfl,h4,h5⟩:=h3;unfold ag at h5;subst h5;exact h4
 |x::y::l,us,h3=>
  have hlen:=h3.length;rw[dif_neg (by grind)];show aR _ _ (.tup (x::y::l)) _;unfold aR;grind
def SG(P:Program)(rs:List ResultVar)(d:Option Nat)(m n:Nat)(K:List AV->Sto->Nat->Prop):oU:=λe Fc Lc Nc=>match e with
 | .normal| .ret=>ik P rs Fc Lc λl=>∃S F2,Lc eQ=some ⟨0,0,.undef::(S++F2)⟩/\S.length=m/\F2.length=n/\K (eK F2 d (rL l)) (ai Lc [(eQ,some ⟨0,0,.undef::S⟩)]) Nc
 |_=>False
def YI{o:Oper}{c:Call}{f:Operand}{fid:FuncId}{fn:Func}{body:Code}{A S F:List AV}{L:Sto}{N:Nat}{K:List AV->Sto->Nat->Prop}(ho:o.op= .call c)(hc:c.callee= .value f)(hfv:j5 F f= .p (.fn (.func fid) [] []))
  (hA:c.args.toList.map (j5 F)=A) (hok:je P fid=true) (hf:P.funcs[fid]? =some fn) (hb:fn.body=some body) (hL:L eQ=some ⟨0,0,.undef::S⟩)
  (h:awp P body (SG P fn.results.toList o.dst S.length F.length K) (A++cS (fn.ntmps-A.length) .undef) (ai L [(eQ,some ⟨0,0,.undef::(S++F)⟩)]) N):tQ P o F L N K:=by
 intro C0 B wI a w ⟨⟨ρ,s1,s2,s3⟩,s4,s5,s6,s7⟩;obtain⟨c0,k1,k2,k3⟩:=Eo s1 hL
 let V:Nat->Value:=λs=>a.tmps.getD s Go.undef
 have hev:∀x:Operand,aR ρ (bC C0 B w ρ L) (j5 F x) (bH V x):=λx=>AF λt _=>s3 t;have hvf:bH V f= .func (.func fid) #[] #[] :=by have:=hev f;rw[hfv]at this;unfold aR aU at this;obtain⟨v1,v2,h1,h2,h3⟩:=this;unfold ae at h2 h3;rw[h1,h2,h3]
 have hrun:(execOp (bH V) o).run P w= .ok (.enter fid (c.args.toList.map (bH V)).toArray) w:=by
  unfold execOp;rw[ho];have e2: #[] ++Array.map (bH V) c.args++ #[] =(c.args.toList.map (bH V)).toArray:=by apply Array.toList_inj.1;simp
  simp only[resolve,hc,hvf,te,cg,dc,cl,invoke,ky hok,e2]
 have hargs:ag ρ (bC C0 B w ρ L) A (c.args.toList.map (bH V)):=by
  rw[<-hA];generalize c.args.toList=l;induction l with
  |nil=>simp only[List.map_nil];unfold ag;rfl
  |cons x l ih=>simp only[List.map_cons];unfold ag;grind
 let C1:bE:=λb i v=>if b=B then(if i<(AV.undef::S).length then C0 B i v else a.tmps[i-(AV.undef::S).length]? =some v)else C0 b i v
 have hC1:∀b,b<B->C1 b=C0 b:=λb hb=>by grind
 have hC1B:∀i v,C1 B i v->if i<(AV.undef::S).length then C0 B i v else a.tmps[i-(AV.undef::S).length]? =some v:=λi v hv=>by grind
 obtain⟨hCC,hst⟩:=s1.stk (C1:=C1) (T:= .undef::(S++F)) hL hC1 (by
  intro i x hi v hv;have hv:=hC1B i v hv;rw[<-List.cons_append]at hi;split at hv
  .grind
  .rename_i hlt;rw[kW (by omega)]at hi;have:=s3 (i-(AV.undef::S).length);simp_all) (by
  grind)
 unfold cJ;rw[hrun];dsimp only;have hlen:=hargs.length;have hfin:∀(e:Exit) (a':Act) (w':World),(∃F' L' N',SG P fn.results.toList o.dst S.length F.length K e F' L' N'/\St C1 B w F' L' N' a' w')->
   match e with| .normal| .ret=>a'.defers=[]/\∃v,(results fn a'.tmps).run P w'= .ok v w'/\∃v',Ending.returned v= .returned v'/\∃F' L' N',K F' L' N'/\St C0 B wI F' L' N' (a.put o.dst v') w'|_=>False:=by
  rintro e a' w' ⟨Fc,Lc,Nc,hq,⟨⟨ρ1,t1,t2,t3⟩,t4,t5,t6,t7⟩⟩;have fin:ik P fn.results.toList Fc Lc (λl=>∃S2 F2,Lc eQ=some ⟨0,0,.undef::(S2++F2)⟩/\S2.length=S.length/\F2.length=F.length/\K (eK F2 o.dst (rL l)) (ai Lc [(eQ,some ⟨0,0,.undef::S2⟩)]) Nc)->
    a'.defers=[]/\∃v,(results fn a'.tmps).run P w'= .ok v w'/\∃v',Ending.returned v= .returned v'/\∃F' L' N',K F' L' N'/\St C0 B wI F' L' N' (a.put o.dst v') w':=by
   intro hr;obtain⟨l,v,⟨S2,F2,hL2,hS2,hF2,hK⟩,hres,hrep⟩:=Nx t1 t3 hr;refine⟨t5,v,hres,v,rfl,_,_,Nc,hK,?_⟩;obtain⟨c1,j1,j2,j3⟩:=Eo t1 hL2;have hl2:(AV.undef::S2).length=(AV.undef::S).length:=by simp[hS2]
   obtain⟨hCC2,hst2⟩:=t1.stk (C1:=C0) (T:= .undef::S2) hL2 (λb hb=>(hC1 b hb).symm) (by
    grind) (by
    grind)
   have hfr:∀t,aR ρ1 (bC C0 B w' ρ1 (ai Lc [(eQ,some ⟨0,0,.undef::S2⟩)])) (F2.getD t .any) (a.tmps.getD t Go.undef):=by
    intro t;by_cases ht:t<F2.length
    .have htm:t<a.tmps.size:=by rw[s6];omega
     have e1:F2.getD t .any=F2[t] :=by rw[dw];simp[ht]
     have e2:a.tmps.getD t Go.undef=a.tmps[t] :=by rw[gG];simp[htm]
     rw[e1,e2];refine aR.mono (λ_ _ h=>h) (λb o x h=>(hCC2 b o x).2 h) _ _ (j2 ((AV.undef::S).length+t) F2[t] (by grind) a.tmps[t] ?_);grind
    .rw[dw,lr (by omega)];show aR _ _ .any _;unfold aR;trivial
   refine⟨⟨ρ1,hst2,t2,λt=> ?_⟩,t4,by cases hd:o.dst<;>exact s5,by rw[DQ,hF2];cases hd:o.dst<;>simpa[mZ]using s6,s7.trans t7⟩;rw[Kx,MT,s6];by_cases e:o.dst=some t/\t<F.length
   .rw[if_pos (by grind),if_pos e];exact aR.mono (λ_ _ h=>h) (λb o x h=>(hCC2 b o x).2 h) _ _ hrep
   .grind
  cases e<;>first|exact fin hq|exact hq.elim
 refine calls_of_wp hf hb (wp_mono (Ee (C0:=C1) (B:=B) (wI:=w) body _ _ _ _ _ _ h ?_) ?_)
 .refine⟨⟨ρ,hst,s2,λt=> ?_⟩,s4,rfl,by simp[hlen],Below.refl _ _⟩;exact aR.mono (λ_ _ h=>h) (λb o x h=>(hCC b o x).2 h) _ _ (Yn hargs t)
 .intro e a' w' h;have:=hfin e a' w' h;cases e<;>first|exact this|exact this.elim
end
end Go.Proofs.YtdaeofhdgabhjaaGreat
