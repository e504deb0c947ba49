/- What the statement stands on: contracts of functions, plain laws. Part 5 of 7, no condition of its own. (X9 X10 Shelf2 L1 K1) -/
import Derived.Test.YtdaeofhdgabhjaaGreatCQ4
import Derived.ChangeKeysEq
import Derived.Shelf.SlSortCmp.NoneTotal
import Derived.Shelf.SlicesE.DeleteFunc
import Derived.Ground.SlsfProg
import Derived.Ground.SlgfProg
import Derived.Lib.SliceRun
set_option linter.all false
set_option maxRecDepth 100000
set_option maxHeartbeats 8000000
open Nat renaming blt->iT,zero_le->jS,ble->mf,beq->bF,le_of_ble_eq_true->pH,eq_of_beq_eq_true->dK,ne_of_gt->nZ,le_trans->cO
open List renaming length->fh,map_cons->cv,length_map->db,map_nil->kZ,replicate->cS,getElem?_map->gS,getElem?_eq_getElem->fA,getElem?_eq_none->lr,range->bV,mem_singleton->bZ,mem_cons->aj,length_filter_le->Iv,mem_cons_self->bo,take_add_one->rW,take->bD,drop->iA
open Go.Sem renaming run->fz,run_bind->cg,run_pure->dc
open Go.Proofs.Tryz renaming prog->ak,underlying3->pF,isAgg3->tf,sizeOf3->wH,underlying4->Iu
open Go.Op renaming equalIn->tZ
open Go.Value renaming int->cY
open Go.Result renaming andThen_ok->cl
open Go.Instr renaming checkKey->y6
open Int renaming mul_nonneg->bm
open And renaming intro->cM
open Go.RowKit
open Go.Proofs.YtdaeofhdgabhjaaGreat.Geo
open Go.Proofs.YtdaeofhdgabhjaaGreat.Geo renaming sub->aEy,nth->aEv
namespace Go.Proofs.YtdaeofhdgabhjaaGreat
section
noncomputable section
def oV(P:Program)(n:Nat)(F:Frm)(σ:Sg):List ResultVar->Option (List SV)
 |[] =>some []
 | .tmp t::rs=>(match iT t n,oV P n F σ rs with|true,some l=>some (F.at t::l)|_,_=>none)
 | .cell a t::rs=>(match iT a n,F.at a,oV P n F σ rs with
   |true,.ptr s off,some l=>(match σ s with
    |some (.box _ cs)=>(match oP P t cs off with|some r=>some (r::l)|none=>none)
    |some (.arr _ _ cs)=>(match oP P t cs off with|some r=>some (r::l)|none=>none)
    |_=>none)
   |_,_,_=>none)
def qq{P:Program}{n:Nat}{F:Frm}{σ:Sg}:∀{rs:List ResultVar} {l:List SV} {K:List AV->Prop},oV P n F σ rs=some l->K (avs l)->ik P rs (F.av n) σ.a K
 |[],l,K,h,hK=>by cases h;exact hK
 | .tmp t::rs,l,K,h,hK=>by
   unfold oV at h;split at h<;>cases h;rename_i l' h1 h2;unfold ik;refine qq h2 ?_;rw[Frm.mE ((jv _ _).1 h1)];exact hK
 | .cell a t::rs,l,K,h,hK=>by
   unfold oV at h;split at h
   case h_2=>cases h
   rename_i s off l' h1 h2 h3;unfold ik;rw[Frm.mE ((jv _ _).1 h1),h2];split at h
   .rename_i ty cs hs;split at h<;>cases h;rename_i r hr;exact⟨_,by rw[Sg.cI,hs];rfl,qj hr (qq h3 hK)⟩
   .rename_i ty ez cs hs;split at h<;>cases h;rename_i r hr;exact⟨_,by rw[Sg.cI,hs];rfl,qj hr (qq h3 hK)⟩
   .cases h
def tI:List SV->SV
 |[x] =>x
 |l=> .tup l
def CS(P:Program)(n:Nat)(rs:List ResultVar)(r:SV)(F:Frm)(L:aP):Fm:=match oV P n F L.at rs with
 |some l=>(match j7 (kR 3 L.at) l with
  |some (ps,m)=>(match eqv 3 r (tI m)with
   |some (qs,[])=>rA (ps++qs) .tt
   |_=> .stuck 920000)
  |none=> .stuck 930000)
 |none=> .stuck 940000
def R0(P:Program)(n:Nat)(rs:List ResultVar)(r:SV):oT:=λe F L _=>match e with
 | .normal=>CS P n rs r F L
 | .ret=>CS P n rs r F L
 |_=> .stuck 910000
def ZI{P:Program}{n:Nat}{rs:List ResultVar}{r:SV}{q:PV}(hr:r.av= .p q){e:Exit}{F:Frm}{L:aP}{N:Nat}(h:(R0 P n rs r e F L N).holds):Hw P rs q e (F.av n) L.fn N:=by
 have key:(CS P n rs r F L).holds->ik P rs (F.av n) L.fn λl=>∃m,dj (dI 3 L.fn) l=some m/\vQ m=q:=by
  intro h;unfold CS at h;split at h
  case h_2=>exact h.elim
  rename_i l hl;split at h
  case h_2=>exact h.elim
  rename_i ps m hm;split at h
  case h_2=>exact h.elim
  rename_i qs he;have hp:=(re h).1;have e2:Sg.a L.at=L.fn:=rfl;rw[<-e2];refine qq hl ?_;obtain⟨u,h1,h2⟩:=xj (λx ps y=>Er) hm (λp hpp=>hp p (by grind));refine⟨u,h1,?_⟩;have h3:=uh (m:=λ_=>none) 3 r (tI m) qs [] he (λp hpp=>hp p (by grind)) (λq hq=>by cases hq);rw[hr]at h3;unfold cR at h3;have h4:(tI m).av= .p (vQ u):=by
   cases m with
   |nil=>
    have:u=[] :=by have:=congrArg fh h2;simp[avs]at this;grind
    subst this;rfl
   |cons x m=>
    cases m with
    |nil=>
     cases u with
     |nil=>simp[avs]at h2
     |cons y u=>
      have h5:u=[] :=by have:=congrArg fh h2;simp only[avs,cv,List.length_cons,List.length_nil,db]at this;grind
      subst h5;simp only[avs,cv,kZ,List.cons.injEq,and_true]at h2;exact h2
    |cons y m=>
     have h5:(tI (x::y::m)).av=j0 (avs (x::y::m)):=rfl;rw[h5,h2];unfold j0;rw[dS];cases u with
     |nil=>simp[avs]at h2
     |cons a u=>
      cases u with
      |nil=>simp[avs]at h2
      |cons b u=>rfl
  rw[h4]at h3;cases h3;rfl
 cases e<;>first|exact h.elim|exact key h
structure Ar(α:Type) where
 enc:α->SV
 dec:SV->Option α
 ok:∀s a,dec s=some a->s.av=(enc a).av
 pl:∀a,∃q,(enc a).av= .p q
structure Arl(α:Type) where
 enc:α->List SV
 dec:List SV->Option α
 ok:∀s a,dec s=some a->avs s=avs (enc a)
 pl:∀a,∃q:List PV,avs (enc a)=q.map .p
def a0:Arl Unit:=⟨λ_=>[],λl=>match l with|[] =>some ()|_=>none,by grind,λ_=>⟨[],rfl⟩⟩
def a1{α:Type}(A:Ar α):Arl α:=⟨λa=>[A.enc a],λl=>match l with|[x] =>A.dec x|_=>none,λs a h=>by
  match s,h with
  |[x],h=>simp only[avs,A.ok x a h],
 λa=>by obtain⟨q,h⟩:=A.pl a;exact⟨[q],by simp only[avs,h,cv,kZ]⟩⟩
def ac{α β:Type}(A:Ar α)(B:Arl β):Arl (α×β):=⟨λa=>A.enc a.1::B.enc a.2,λl=>match l with
  |x::r=>(match A.dec x,B.dec r with|some a,some b=>some (a,b)|_,_=>none)
  |_=>none,λs a h=>by
  match s,h with
  |x::r,h=>
   dsimp only at h;split at h<;>cases h;rename_i a b h1 h2;simp only[avs,A.ok x a h1,B.ok r b h2],
 λa=>by obtain⟨q,h⟩:=A.pl a.1;obtain⟨r,k⟩:=B.pl a.2;exact⟨q::r,by simp only[avs,h,k,cv]⟩⟩
def aI:Ar Int:=⟨λn=> .int .i64 n,λs=>match s with| .int .i64 n=>some n|_=>none,by grind,λ_=>⟨_,rfl⟩⟩
def aN:Ar Nat:=⟨λn=> .int .i64 (n:Int),λs=>match s with| .int .i64 (.ofNat n)=>some n|_=>none,λ_ _ h=>by
 (split at h<;>cases h;rfl),λ_=>⟨_,rfl⟩⟩
def aB:Ar Bool:=⟨λb=> .bool b,yW,λ_ _ h=>xY h,λ_=>⟨_,rfl⟩⟩
def aV:Ar V:=⟨λv=> .agg [.int .i64 v.x,.int .i64 v.y],λs=>match s with| .agg [.int .i64 x,.int .i64 y] =>some ⟨x,y⟩|_=>none,by grind,λ_=>⟨_,rfl⟩⟩
def aS:Ar Geo.S:=⟨λs=> .agg [.int .i64 s.a.x,.int .i64 s.a.y,.int .i64 s.b.x,.int .i64 s.b.y],λs=>match s with| .agg [.int .i64 x,.int .i64 y,.int .i64 z,.int .i64 w] =>some ⟨⟨x,y⟩,⟨z,w⟩⟩|_=>none,by grind,λ_=>⟨_,rfl⟩⟩
def aT:Ar Pt:=⟨λp=> .agg [.int .i64 p.x,.int .i64 p.y,.int .i64 p.den],λs=>match s with| .agg [.int .i64 x,.int .i64 y,.int .i64 z] =>some ⟨x,y,z⟩|_=>none,by grind,λ_=>⟨_,rfl⟩⟩
def oc(t:LT)(s:SV):Option (List t.ty):=match s with
 | .lst t' l=>(match decEq t' t with| .isTrue h=>some (h▸l)| .isFalse _=>none)
 | .sl 0 [] =>some []
 | .sl n cs=>t.decs n cs
 |_=>none
def qt{t:LT}{s:SV}{l:List t.ty}(h:oc t s=some l):s.av= .p (.sl l.length (t.enc l)):=by
 unfold oc at h;split at h
 .split at h
  .rename_i e _;subst e;cases h;rfl
  .cases h
 .cases h;rfl
 .rename_i n cs _;obtain⟨e1,e2⟩:=LT.ui h;show(match bK (avs cs)with|some q=>AV.p (.sl n q)|none=> .any)=_;rw[e2,dS,e1]
 .cases h
def aL(t:LT):Ar (List t.ty):=⟨λl=> .lst t l,oc t,λ_ _ h=>qt h,λ_=>⟨_,rfl⟩⟩
def shD(s:SV):Option Shape:=match s with
 | .agg [r,h] =>(match oc .V r,oc .R h with|some o,some hs=>some ⟨o,hs⟩|_,_=>none)
 |_=>none
def aAr(s:SV)(a:Shape)(h:shD s=some a):s.av=(SV.agg [.lst .V a.outer,.lst .R a.holes]).av:=by
 unfold shD at h;split at h
 .split at h<;>cases h;rename_i o hs h1 h2;simp only[SV.av,avs,qt h1,qt h2]
 .cases h
def aSh:Ar Shape:=⟨λs=> .agg [.lst .V s.outer,.lst .R s.holes],shD,aAr,λ_=>⟨_,rfl⟩⟩
def con{α:Type}(A:Arl α)(pre:α->List Prop)(res:α->SV):Con:=⟨α,A.dec,pre,.val false res⟩
def oh(l:List SV):Nat->Frm
 |k=>match l with
  |[] =>[]
  |x::l=>(k,x)::oh l (k+1)
def GP:∀(l:List SV) (k t:Nat),(oh l k).at t=if k<=t then(match l[t-k]? with|some x=>x|none=> .undef)else .undef
 |[],k,t=>by simp[oh,Frm.at]
 |x::l,k,t=>by
  unfold oh;rw[Frm.lJ,GP l (k+1) t];grind
def NO{l:List SV}{n:Nat}(hn:l.length<=n):(oh l 0).av n=avs l++cS (n-(avs l).length) .undef:=by
 apply List.ext_getElem?;intro i;unfold Frm.av;rw[gS];by_cases hi:i<n
 .rw[List.getElem?_range hi,Option.map_some,GP,if_pos (jS _),Nat.sub_zero];by_cases h2:i<l.length
  .rw[List.getElem?_append_left (by rw[jV];exact h2),xu,fA h2];rfl
  .rw[List.getElem?_append_right (by rw[jV];omega),List.getElem?_replicate,lr (by omega),jV,if_pos (by omega)];rfl
 .rw[lr (by simp;omega),lr (by simp[jV];omega)];rfl
def GO{args:List SV}(hpe:∀v∈args,v.ape=false):(oh args 0).ok:=by
 intro t;rw[GP,if_pos (jS _)];split
 .rename_i x hx;exact SV.nF (by grind)
 .trivial
def aAV:aP.fn [] =λ_=>none:=by
 funext s
 rcases kE s with⟨x,rfl⟩|⟨x,a,rfl⟩|hno
 .exact Sg.cI _ x
 .exact Sg.fX _ x a
 .exact Sg.jj _ hno
def vD:Nat->Nat->Bool:=λ_ _=>false
def H0(X:Cx):Inl:=λf xs F n L N K=>match je X.P f,X.P.funcs[f]?,L.at 0 with
 |true,some fn,some (.box 0 (.undef::S))=>(match fn.body with
  |some c=>(match mf xs.length fn.ntmps,eo (λv:SV=>match v.ape with|true=>false|false=>true) xs with
   |true,true=>
    let fin:Frm->aP->Nat->Fm:=λF' L' N'=>match eo (λq:Nat×Option SOb=>match bF q.1 0 with|true=>false|false=>true) (L'.take (L'.length-(L.length+1)))with
     |true=>(match oV X.P fn.ntmps F' L'.at fn.results.toList with
      |some [] =>K .undef ((0,some (.box 0 (.undef::S)))::L') N'
      |some [r] =>(match r.ape with|false=>K r ((0,some (.box 0 (.undef::S)))::L') N'|true=> .stuck 991001)
      |_=> .stuck 991002)
     |false=> .stuck 991003
    vc X HX fn.ntmps vD c (λ_=>true) [] (λe F' L' N'=>match e with
     | .normal=>fin F' L' N'
     | .ret=>fin F' L' N'
     |_=> .stuck 991004) (oh xs 0) ((0,some (.box 0 (.undef::(S++(bV n).map F.at))))::L) N
   |_,_=> .stuck 991005)
  |none=> .stuck 991006)
 |_,_,_=> .stuck 991007
def Ym{L:aP}{pre:aP}{s:Nat}(h:∀q∈pre,q.1≠s):aP.at (pre++L) s=L.at s:=by
 induction pre with
 |nil=>rfl
 |cons q pre ih=>
  obtain⟨k,x⟩:=q;have hk:bF s k=false:=by
   cases hb:bF s k with
   |false=>rfl
   |true=>simp_all
  show(match bF s k with|true=>x|false=>aP.at (pre++L) s)=_;grind
def Ni{L:aP}{cs T:List SV}(hL:L.at 0=some (.box 0 cs)):aP.fn ((0,some (.box 0 T))::L)=ai L.fn [(eQ,some ⟨0,0,avs T⟩)] :=by have h:=(bY.flat (σ:=L.at) (rd:=[]) (W:=[(0,some (.box 0 T))]) λq hq=>by rw[bZ.1 hq,hL];exact⟨rfl,rfl⟩).2.2;rw[aP.Bi]at h;have e:aO 0=eQ:=zZ (by unfold NM;omega);unfold aP.fn;rw[show aP.at ((0,some (.box 0 T))::L)=aP.at ([(0,some (SOb.box 0 T))] ++L)from rfl,<-h,<-e];rfl
def PD{L:aP}{cs:List SV}(hL:L.at 0=some (.box 0 cs)):L.fn eQ=some ⟨0,0,avs cs⟩:=by have e:aO 0=eQ:=zZ (by unfold NM;omega);rw[<-e];show Sg.a L.at (aO 0)=_;rw[Sg.cI,hL];rfl
def W7(F:Frm)(n:Nat):avs ((bV n).map F.at)=F.av n:=by rw[iy,List.map_map];rfl
def Zi{X:Cx}(hX:X.Ok):Hl X (H0 X):=by
 intro f xs F n L N K o c ho hc hargs h;unfold H0 at h;split at h
 case h_2=>exact h.elim
 rename_i fn S hok hf hL;split at h
 case h_2=>exact h.elim
 rename_i body hb;split at h
 case h_2=>exact h.elim
 rename_i hn hpe;have hn:=pH hn;have hpe:∀v∈xs,v.ape=false:=λv hv=>by have:=gk hpe v hv;grind
 have hw:=El hX (Mg X) body (λ_=>true) [] _ _ _ N (λ_ _=>rfl) (GO hpe) h;rw[NO hn,Ni hL]at hw;have hT:avs (.undef::(S++(bV n).map F.at))= .undef::(avs S++F.av n):=by rw[Yl,rr,W7];rfl
 rw[hT]at hw;refine YI (fid:=f) (A:=avs xs) (S:=avs S) (f:= .func f) ho hc rfl hargs hok hf hb (by rw[PD hL];rfl) (mw body ?_ hw);rintro e FA LA N' ⟨F',L',rfl,rfl,hF',hpre,⟨pre,hpl⟩,hh⟩;have fin:(match eo (λq:Nat×Option SOb=>match bF q.1 0 with|true=>false|false=>true) (L'.take (L'.length-(L.length+1)))with
    |true=>(match oV X.P fn.ntmps F' L'.at fn.results.toList with
     |some [] =>K .undef ((0,some (.box 0 (.undef::S)))::L') N'
     |some [r] =>(match r.ape with|false=>K r ((0,some (.box 0 (.undef::S)))::L') N'|true=> .stuck 991001)
     |_=> .stuck 991002)
    |false=> .stuck 991003).holds->
   ik X.P fn.results.toList (F'.av fn.ntmps) L'.fn λl=>∃S2 F2,L'.fn eQ=some ⟨0,0,.undef::(S2++F2)⟩/\S2.length=(avs S).length/\F2.length=(F.av n).length/\
    (λFA LA N'=>∃r L2,r.ok/\FA=eK (F.av n) o.dst r.av/\LA=aP.fn L2/\gZ L L2/\(K r L2 N').holds) (eK F2 o.dst (rL l)) (ai L'.fn [(eQ,some ⟨0,0,.undef::S2⟩)]) N':=by
  intro hh;split at hh
  case h_2=>exact hh.elim
  rename_i h0;have hat:L'.at 0=some (.box 0 (.undef::(S++(bV n).map F.at))):=by rw[hpl];have h1:=gk h0;rw[hpl,show(pre++(0,some (SOb.box 0 (.undef::(S++(bV n).map F.at))))::L).length-(L.length+1)=pre.length by simp,List.take_left]at h1;rw[Ym λq hq e=>by have:=h1 q hq;simp_all];rfl
  have hst:L'.fn eQ=some ⟨0,0,.undef::(avs S++F.av n)⟩:=by rw[PD hat,hT]
  have hL2:aP.fn ((0,some (.box 0 (.undef::S)))::L')=ai L'.fn [(eQ,some ⟨0,0,.undef::avs S⟩)] :=Ni hat;have hpl2:gZ L ((0,some (.box 0 (.undef::S)))::L'):=⟨(0,some (.box 0 (.undef::S)))::(pre++[(0,some (.box 0 (.undef::(S++(bV n).map F.at))))]),by grind⟩;split at hh
  .rename_i hr;exact qq hr ⟨avs S,F.av n,hst,rfl,rfl,.undef,_,trivial,rfl,hL2.symm,hpl2,hh⟩
  .rename_i r hr;split at hh
   .rename_i hrp;exact qq hr ⟨avs S,F.av n,hst,rfl,rfl,r,_,SV.nF hrp,rfl,hL2.symm,hpl2,hh⟩
   .exact hh.elim
  .exact hh.elim
 cases e<;>first|exact fin hh|exact hh.elim
def Bh(X:Cx)(st:Bool)(raw:Nat->Nat->Bool)(f:Nat)(ann:List (Nat×Ann))(args:List SV)(post:Nat->List ResultVar->oT):Fm:=match je X.P f,X.P.funcs[f]? with
 |true,some fn=>(match fn.body with
  |some c=>(match mf args.length fn.ntmps,eo (λv=>match v.ape with|true=>false|false=>true) args with
   |true,true=>(match st with
    |false=>vc X HX fn.ntmps raw c (λ_=>true) ann (post fn.ntmps fn.results.toList) (oh args 0) [] 0
    |true=>vc X (H0 X) fn.ntmps raw c (λ_=>true) ann (post fn.ntmps fn.results.toList) (oh args 0) [(0,some (.box 0 [.undef]))] 1)
   |_,_=> .stuck 950000)
  |none=> .stuck 960000)
 |_,_=> .stuck 970000
def Pq(X:Cx)(raw:Nat->Nat->Bool)(f:Nat)(ann:List (Nat×Ann))(args:List SV)(post:Nat->List ResultVar->oT):Fm:=Bh X false raw f ann args post
def vP(X:Cx)(raw:Nat->Nat->Bool)(f:Nat)(ann:List (Nat×Ann))(args:List SV)(r:SV):Fm:=Pq X raw f ann args λn rs=>R0 X.P n rs r
def aAU:aP.fn [(0,some (.box 0 [.undef]))] =yY:=by
 have e:aO 0=eQ:=zZ (by unfold NM;omega)
 funext s
 unfold yY;rcases kE s with⟨x,rfl⟩|⟨x,a,rfl⟩|hno
 .show Sg.a _ (aO x)=_;rw[Sg.cI];by_cases hx:x=0
  .subst hx;rw[if_pos e];rfl
  .rw[if_neg (λh=>hx (k8 (h.trans e.symm)))];show Option.map _ (match bF x 0 with|true=>_|false=>none)=none;cases hb:bF x 0 with
   |true=>simp_all
   |false=>rfl
 .show Sg.a _ (inn x (a+1))=_;rw[Sg.fX,if_neg (λh=>by have h:inn x (a+1)=aO 0:=h.trans e.symm;have:=(fJ h).2;omega)];show Option.bind (match bF x 0 with|true=>_|false=>none) _=none;cases bF x 0<;>rfl
 .show Sg.a _ s=_;rw[Sg.jj _ hno,if_neg (λh=>hno 0 0 (h.trans e.symm))]
def Ej{X:Cx}(hX:X.Ok){st:Bool}{raw:Nat->Nat->Bool}{f:Nat}{ann:List (Nat×Ann)}{args:List SV}{post:Nat->List ResultVar->oT}{A:List PV}{Q:List ResultVar->oU}(hA:avs args=A.map .p)
  (hQ:∀n rs e (F:Frm) (L:aP) N,(post n rs e F L N).holds->Q rs e (F.av n) L.fn N) (h:(Bh X st raw f ann args post).holds):
  je X.P f=true/\∃fn c L0 N0,X.P.funcs[f]? =some fn/\fn.body=some c/\si L0 N0/\awp X.P c (Q fn.results.toList) (A.map .p++cS (fn.ntmps-A.length) .undef) L0 N0:=by
 unfold Bh at h;split at h
 case h_2=>exact h.elim
 rename_i fn hok hf;split at h
 case h_2=>exact h.elim
 rename_i c hb;split at h
 case h_2=>exact h.elim
 rename_i hn hpe;have hn:=pH hn;have hpe:∀v∈args,v.ape=false:=λv hv=>by have:=gk hpe v hv;grind
 have hal:(A.map AV.p).length=A.length:=by grind
 have hAF:A.map .p++cS (fn.ntmps-A.length) .undef=(oh args 0).av fn.ntmps:=by rw[NO hn,hA,hal]
 split at h
 .refine⟨hok,fn,c,aP.fn [],0,hf,hb,.inl ⟨aAV,rfl⟩,?_⟩;rw[hAF];refine mw c ?_ (El hX (Mg X) c (λ_=>true) ann _ _ [] 0 (λ_ _=>rfl) (GO hpe) h);rintro e FA LA N' ⟨F',L',rfl,rfl,_,_,_,hh⟩;grind
 .refine⟨hok,fn,c,aP.fn [(0,some (.box 0 [.undef]))],1,hf,hb,.inr ⟨aAU,rfl⟩,?_⟩;rw[hAF];refine mw c ?_ (El hX (Zi hX) c (λ_=>true) ann _ _ _ 1 (λ_ _=>rfl) (GO hpe) h);rintro e FA LA N' ⟨F',L',rfl,rfl,_,_,_,hh⟩;grind
def XC{X:Cx}(hX:X.Ok){raw:Nat->Nat->Bool}{f:Nat}{ann:List (Nat×Ann)}{args:List SV}{r:SV}{A:List PV}{q:PV}(hA:avs args=A.map .p)(hq:r.av= .p q)(h:(vP X raw f ann args r).holds):Sat X.P false f A q:=by obtain⟨hok,fn,c,L0,N0,hf,hb,h0,hw⟩:=Ej hX (st:=false) (Q:=λrs=>Hw X.P rs q) hA (λn rs e F L N hh=>ZI hq hh) h;exact Uj hok hf hb h0 hw
def CT(P:Program)(n:Nat)(rs:List ResultVar)(ty:Nat)(t:LT)(l:List t.ty)(ys:List SV)(F:Frm)(L:aP):Fm:=match oV P n F L.at rs with
 |some (v::r)=>(match oe (eqv 3) ys r with
  |some (qs,[])=>(match v with
   | .nil=>rA ((l=[])::qs) .tt
   | .own s _ k=>(match L.at s with
     |some (.row ty' t' l')=>(match bF ty' ty,decEq t' t with
      |true,.isTrue h=>rA ([(h▸l':List t.ty)=l,k=l'.length] ++qs) .tt
      |_,_=> .stuck 980001)
     |_=> .stuck 980002)
   |_=> .stuck 980003)
  |_=> .stuck 980004)
 |_=> .stuck 980005
def P6(P:Program)(ty:Nat)(t:LT)(l:List t.ty)(ys:List SV)(n:Nat)(rs:List ResultVar):oT:=λe F L _=>match e with
 | .normal=>CT P n rs ty t l ys F L
 | .ret=>CT P n rs ty t l ys F L
 |_=> .stuck 910000
def MR{m:Rf}:∀{q:List PV} {r:List AV},fC m (q.map .p) r->r=q.map .p
 |[],r,h=>by exact h
 |x::q,r,h=>by
  obtain⟨y,r',rfl,h1,h2⟩:=h;rw[h1,MR h2];rfl
def Xq{P:Program}{n:Nat}{rs:List ResultVar}{ty:Nat}{t:LT}{l:List t.ty}{ys:List SV}{Y:List PV}(hY:avs ys=Y.map .p){e:Exit}{F:Frm}{L:aP}{N:Nat}(h:(P6 P ty t l ys n rs e F L N).holds):Hx P rs ty t.w (t.enc l) l.length Y e (F.av n) L.fn N:=by
 have key:(CT P n rs ty t l ys F L).holds->ik P rs (F.av n) L.fn λlA=>(∃s,lA= .own s 0 l.length::Y.map .p/\L.fn s=some ⟨ty,t.w,(t.enc l).map .p⟩)\/(lA= .nil::Y.map .p/\l.length=0/\t.enc l=[]):=by
  intro h;unfold CT at h;split at h
  case h_2=>exact h.elim
  rename_i v r hl;split at h
  case h_2=>exact h.elim
  rename_i qs he;have e2:Sg.a L.at=L.fn:=rfl;have hr:(∀p∈qs,p)->avs r=Y.map .p:=λhp=>by have:=qn (m:=λ_=>none) (uh 3) he hp (λq hq=>by cases hq);rw[hY]at this;exact MR this
  rw[<-e2];refine qq hl ?_;split at h
  .have hp:=(re h).1;have hl0:l=[] :=hp _ (by grind);subst hl0;refine .inr ⟨?_,rfl,rfl⟩;show AV.nil::avs r=_;grind
  .rename_i s t2 k;split at h
   case h_2=>exact h.elim
   rename_i ty' t' l' hs;split at h
   case h_2=>exact h.elim
   rename_i h2 hty _;subst h2;have hp:=(re h).1;have h3:l'=l:=hp _ (by grind);have h4:k=l'.length:=hp _ (by grind);subst h3;refine .inl ⟨aO s,?_,?_⟩
   .show AV.own (aO s) 0 k::avs r=_;grind
   .rw[Sg.cI,hs,<-dK hty];rfl
  .exact h.elim
 cases e<;>first|exact h.elim|exact key h
def IF{α:Type}(A:Arl α)(pre:α->List Prop)(ty:Nat)(t:LT)(l:α->List t.ty)(ys:α->List SV):Con:=⟨α,A.dec,pre,.own ty t l ys⟩
def Ox{X:Cx}(hX:X.Ok){raw:Nat->Nat->Bool}{f:Nat}{α:Type}{A:Arl α}{pre:α->List Prop}{ty:Nat}{t:LT}{l:α->List t.ty}{ys:α->List SV}(ann:α->List (Nat×Ann))(hr:∀x,∃q:List PV,avs (ys x)=q.map .p)
  (h:∀x,oi (pre x)->(Pq X raw f (ann x) (A.enc x) (P6 X.P ty t (l x) (ys x))).holds):(IF A pre ty t l ys).Ok X.P f:=by
 intro s x hd hp;obtain⟨B,hB⟩:=A.pl x;obtain⟨q,hq⟩:=hr x;obtain⟨hok,fn,c,L0,N0,hf,hb,h0,hw⟩:=Ej hX (st:=false) (Q:=λrs=>Hx X.P rs ty t.w (t.enc (l x)) (l x).length q) hB (λn rs e F L N hh=>Xq hq hh) (h x (jY.2 hp));exact⟨B,q,by rw[A.ok s x hd,hB],hq,Tz hok (nZ t.kP) hf hb h0 hw⟩
def yK{X:Cx}(hX:X.Ok){raw:Nat->Nat->Bool}{f:Nat}{α:Type}{A:Arl α}{pre:α->List Prop}{res:α->SV}(ann:α->List (Nat×Ann))(hr:∀x,∃q,(res x).av= .p q)(h:∀x,oi (pre x)->(vP X raw f (ann x) (A.enc x) (res x)).holds):(con A pre res).Ok X.P f:=by intro s x hd hp;obtain⟨B,hB⟩:=A.pl x;obtain⟨q,hq⟩:=hr x;exact⟨B,q,by rw[A.ok s x hd,hB],hq,XC hX hB hq (h x (jY.2 hp))⟩
def x8(r:Rm):List Nat:=match r with
 |[] =>[]
 |(k,none)::r=>k::x8 r
 |(_,some _)::r=>x8 r
def HO(ns:List Nat)(r:Rm):Bool:=eo (λq:Nat×Option Nat=>match q.2 with
 |some k=>(match bF q.1 k,mem ns q.1 with|true,false=>true|_,_=>false)
 |none=>mem ns q.1) r
open Classical in
def idm(ns:List Nat):Rf:=λs=>if∃k∈ns,s=aO k then some none else some (some s)
def QF{ns:List Nat}{k:Nat}(h:mem ns k=false):idm ns (aO k)=some (some (aO k)):=by unfold idm;rw[if_neg];rintro⟨x,hx,e⟩;rw[k8 e,(mem_iff x ns).2 hx]at h;cases h
def PX(ns:List Nat)(x a:Nat):idm ns (inn x (a+1))=some (some (inn x (a+1))):=by unfold idm;rw[if_neg];rintro⟨y,hy,e⟩;have:=(fJ e).2;omega
def MJ{ns:List Nat}{r:Rm}(h:HO ns r=true):jz (idm ns) r:=by
 intro q hq;have h:=gk h q hq;obtain⟨s,o⟩:=q;cases o with
 |none=>
  exact if_pos ⟨s,(mem_iff s ns).1 h,rfl⟩
 |some k=>
  dsimp only at h;split at h
  .rename_i e1 e2;rw[<-dK e1];exact QF e2
  .cases h
def yH(ns:List Nat)(σ:Sg):aP->Option (List Prop)
 |[] =>some []
 |(_,none)::_=>none
 |(k,some ob)::l=>match yH ns σ l with
  |none=>none
  |some ps=>(match mem ns k with
   |true=>(match ob with| .row _ _ c=>some ((c=[])::ps)|_=>none)
   |false=>(match σ k with
    |none=>none
    |some ob'=>(match vJ ob ob' with
     |some (p,r)=>(match HO ns r with|true=>some (p++ps)|false=>none)
     |none=>(match yU [] k k ob ob' with
      |some p=>some (p++ps)
      |none=>none))))
def Lf{ns:List Nat}{σ:Sg}:∀{l:aP} {ps:List Prop},yH ns σ l=some ps->(∀p∈ps,p)->∀k o,(k,o)∈l->∃ob,o=some ob/\
  ((mem ns k=true/\∃ty t,ob= .row ty t [])\/(mem ns k=false/\∃ob',σ k=some ob'/\p8 (idm ns) (ob.ob k) (ob'.ob k)/\(ob.flat=true\/ob=ob')))
 |[],_,_,_,_,_,hk=>by cases hk
 |(_,none)::_,_,h,_,_,_,_=>by cases h
 |(k,some ob)::l,ps,h,hp,k1,o1,hk=>by
  unfold yH at h;split at h
  .cases h
  rename_i qs hqs;have ih:=Lf hqs;split at h
  .split at h<;>cases h;rename_i ty t c;rcases aj.1 hk with e|hk
   .have:c=[] :=hp _ (by grind);grind
   grind
  .rename_i hm;split at h
   .cases h
   rename_i ob' hob';split at h
   .rename_i p r he;split at h<;>cases h;rename_i hs;rcases aj.1 hk with e|hk
    .cases e;exact⟨_,rfl,.inr ⟨hm,ob',hob',Le he (λq hq=>hp q (by grind)) (MJ hs) _ _,.inl (KW he)⟩⟩
    .exact ih (λp hpp=>hp p (by grind)) k1 o1 hk
   .split at h<;>cases h;rename_i p hf;rcases aj.1 hk with e|hk
    .cases e;obtain⟨_,_,e3,_⟩:=M4 hf λq hq=>hp q (by grind);subst e3;refine⟨_,rfl,.inr ⟨hm,_,hob',?_,.inr rfl⟩⟩;unfold yU at hf;split at hf
     .refine⟨rfl,rfl,uP _ _ _ λi _=> ?_⟩;exact .inl ⟨_,PX ns k (i+1-1),rfl⟩
     .cases hf
    .exact ih (λp hpp=>hp p (by grind)) k1 o1 hk
def VF{ns:List Nat}{L:aP}{l:aP}{ps:List Prop}(h:yH ns L.at l=some ps)(hp:∀p∈ps,p):yX (idm ns) (Sg.a (aP.at l)) L.fn:=by
 have key:=Lf h hp;constructor
 .intro s s' o h1 h2;unfold idm at h1 h2;split at h1<;>cases h1;split at h2<;>cases h2;rfl
 .intro s ob' hs;rcases kE s with⟨x,rfl⟩|⟨x,a,rfl⟩|hno
  .rw[Sg.cI]at hs;cases hx:aP.at l x with
   |none=>grind
   |some ob=>
    rw[hx]at hs;cases hs;obtain⟨ob1,e,h1⟩:=key x (some ob) (aP.vM hx);cases e;rcases h1 with⟨hm,ty,t,rfl⟩|⟨hm,ob2,h2,h3,_⟩
    .rw[show idm ns (aO x)=some none from if_pos ⟨x,(mem_iff x ns).1 hm,rfl⟩];exact⟨nZ t.kP,by rfl⟩
    .rw[QF hm];exact⟨_,by show Sg.a L.at (aO x)=_;rw[Sg.cI,h2];rfl,h3⟩
  .rw[Sg.fX]at hs;cases hx:aP.at l x with
   |none=>grind
   |some ob=>
    rw[hx]at hs;obtain⟨ob1,e,h1⟩:=key x (some ob) (aP.vM hx);cases e;have hs:ob.inner a=some ob':=hs;rw[PX];rcases h1 with⟨hm,ty,t,rfl⟩|⟨hm,ob2,h2,h3,h4⟩
    .cases hs
    .rcases h4 with h4|h4
     .rw[SOb.zb h4]at hs;cases hs
     .subst h4;refine⟨ob',by show Sg.a L.at (inn x (a+1))=_;rw[Sg.fX,h2];exact hs,rfl,rfl,?_⟩;cases ob with
      |fam ty ity t M ov=>
       have hs:(match ov.lookup a with|some _=>none|none=>(M[a]?).map λl=>(⟨ity,t.w,(t.enc l).map .p⟩:Ob))=some ob':=hs;cases ho:ov.lookup a with
       |some v=>grind
       |none=>
        rw[ho]at hs;cases hm:M[a]? with
        |none=>grind
        |some c=>rw[hm]at hs;cases hs;exact jt _ _
      |_=>cases hs
  .rw[Sg.jj _ hno]at hs;cases hs
def R4(l:List SV):Bool:=match l with
 |[_] =>true
 |[] =>false
 |l=>(match bK (avs l)with|none=>true|some _=>false)
def CP(P:Program)(n:Nat)(rs:List ResultVar)(r:SV)(obs:aP)(F:Frm)(L:aP):Fm:=match oV P n F L.at rs with
 |some l=>(match R4 l,eqv 3 r (tI l)with
  |true,some (ps,m)=>(match HO (x8 m) m,yH (x8 m) L.at obs with
   |true,some qs=>rA (ps++qs) .tt
   |_,_=> .stuck 990001)
  |_,_=> .stuck 990002)
 |none=> .stuck 990003
def Rz(P:Program)(r:SV)(obs:aP)(n:Nat)(rs:List ResultVar):oT:=λe F L _=>match e with
 | .normal=>CP P n rs r obs F L
 | .ret=>CP P n rs r obs F L
 |_=> .stuck 910000
def ZS{l:List SV}(h:R4 l=true):rL (avs l)=(tI l).av:=by
 match l,h with
 |[x],_=>rfl
 |x::y::r,h=>
  show AV.tup (avs (x::y::r))=j0 (avs (x::y::r));have h:(match bK (avs (x::y::r))with|none=>true|some _=>false)=true:=h;unfold j0;grind
def ZH{P:Program}{n:Nat}{rs:List ResultVar}{r:SV}{obs:aP}{e:Exit}{F:Frm}{L:aP}{N:Nat}(h:(Rz P r obs n rs e F L N).holds):Hv P rs r.av (Sg.a (aP.at obs)) e (F.av n) L.fn N:=by
 have key:(CP P n rs r obs F L).holds->ik P rs (F.av n) L.fn λl=>∃m:Rf,yX m (Sg.a (aP.at obs)) L.fn/\cR m r.av (rL l):=by
  intro h;unfold CP at h;split at h
  case h_2=>exact h.elim
  rename_i l hl;split at h
  case h_2=>exact h.elim
  rename_i ps m h1 he;split at h
  case h_2=>exact h.elim
  rename_i qs hs hq;have hp:=(re h).1;rw[show L.fn=Sg.a L.at from rfl];refine qq hl ⟨idm (x8 m),VF hq λp hpp=>hp p (by grind),?_⟩;rw[ZS h1];exact uh 3 r (tI l) ps m he (λp hpp=>hp p (by grind)) (MJ hs)
 cases e<;>first|exact h.elim|exact key h
def IE{α:Type}(A:Arl α)(pre:α->List Prop)(res:α->SV)(obs:α->aP):Con:=⟨α,A.dec,pre,.tree res obs⟩
def Ow{X:Cx}(hX:X.Ok){st:Bool}{raw:Nat->Nat->Bool}{f:Nat}{α:Type}{A:Arl α}{pre:α->List Prop}{res:α->SV}{obs:α->aP}(ann:α->List (Nat×Ann))
  (h:∀x,oi (pre x)->(Bh X st raw f (ann x) (A.enc x) (Rz X.P (res x) (obs x))).holds):(IE A pre res obs).Ok X.P f:=by
 intro s x hd hp;obtain⟨B,hB⟩:=A.pl x;obtain⟨hok,fn,c,L0,N0,hf,hb,h0,hw⟩:=Ej hX (Q:=λrs=>Hv X.P rs (res x).av (Sg.a (aP.at (obs x)))) hB (λn rs e F L N hh=>ZH hh) (h x (jY.2 hp));exact⟨B,by rw[A.ok s x hd,hB],Ty hok hf hb h0 hw⟩
def aBA{p q:Prop}(h:p=q)(hq:q):p:=h▸hq
def CA:List (Nat×Con)->Tab->Tab
 |[],T,f=>T f
 |(k,c)::l,T,f=>match bF f k with|true=>some c|false=>CA l T f
def QS(P:Program):List (Nat×Con)->Prop
 |[] =>True
 |q::l=>q.2.Ok P q.1/\QS P l
def Nb{P:Program}{T:Tab}(hT:T.Ok P):∀{l:List (Nat×Con)},QS P l->(CA l T).Ok P
 |[],_=>hT
 |(k,c)::l,h=>by
  intro f d hd;unfold CA at hd;split at hd
  .rename_i e;cases hd;rw[dK e];exact h.1
  .exact Nb hT h.2 f d hd
def QV:Tab:=λ_=>none
def Yu{P:Program}:QV.Ok P:=λ_ _ h=>by cases h
end
end
noncomputable section
def aBr(N:Nat)(a b c d:Int)(w:World):fz ak (tZ (N+1+1) 44 (.agg #[.int .i64 a,.int .i64 b]) (.agg #[.int .i64 c,.int .i64 d])) w= .ok (a==c&&b==d) w:=by
 have u3:=pF;have a3:=tf;have z3:=wH;have hS:ak.underlying 44=some (.struct (ak.fieldsOf 44)):=by kernel_rfl
 have hp:ak.stoodInHeld 44=false:=by kernel_rfl
 rw[run_equalIn_agg w (N+1) 44 _ _ hS hp];simp only[Program.fieldsOf,Tryz.underlying44]
 go_simp
 grind
def aBs(a b c d a' b' c' d':Int)(w:World)(N:Nat):fz ak (tZ (N+1+1+1) 46 (.agg #[.int .i64 a,.int .i64 b,.int .i64 c,.int .i64 d]) (.agg #[.int .i64 a',.int .i64 b',.int .i64 c',.int .i64 d'])) w= .ok ((a==a'&&b==b')&&(c==c'&&d==d')) w:=by
 have hS6:ak.underlying 46=some (.struct (ak.fieldsOf 46)):=by kernel_rfl
 have hp6:ak.stoodInHeld 46=false:=by kernel_rfl
 rw[run_equalIn_agg w (N+1+1) 46 _ _ hS6 hp6];unfold Program.fieldsOf;rw[Tryz.underlying46];dsimp only;have a44:=Tryz.isAgg44;have z44:=Tryz.sizeOf44;have p1:∀a b c d:Int,(part 44 #[cY .i64 a,cY .i64 b,cY .i64 c,cY .i64 d] 0).run ak w= .ok (.agg #[.int .i64 a,.int .i64 b]) w:=by intro a b c d;simp[part,a44,z44]
 have p2:∀a b c d:Int,(part 44 #[cY .i64 a,cY .i64 b,cY .i64 c,cY .i64 d] 2).run ak w= .ok (.agg #[.int .i64 c,.int .i64 d]) w:=by intro a b c d;simp[part,a44,z44]
 have hE:=aBr N;generalize N+1+1=M at hE|-;unfold Op.eqFields;unfold Op.eqFields;unfold Op.eqFields;rw[if_pos (by decide)];simp only[cg,p1,cl,hE];cases h1:(a==a')<;>cases h2:(b==b')<;>simp[hE,p2,cg,cl];grind
def YX:yM ak 46 4:=by
 intro xs ys x y w hx hy;match xs,ys,hx,hy with
 |[a,b,c,d],[a',b',c',d'],_,_=>
  have h1:=aBs a b c d a' b' c' d' w 9997;rw[show 9997+1+1+1=10000 from rfl]at h1;have e:(([a,b,c,d] :List Int)==[a',b',c',d'])=((a==a'&&b==b')&&(c==c'&&d==d')):=by rw[Bool.eq_iff_iff];simp[and_assoc]
  refine⟨?_,?_⟩
  .simp only[cv,kZ];rw[e];simp only[eqGuard,cg];simp[Result.andThen];rw[run_eql_struct,h1];simp_all
  .simp only[cv,kZ];unfold bne;rw[e];simp[eqGuard];rw[run_neq_struct,h1];simp_all
noncomputable def ltL:List (Nat×LT)->Nat->Option LT
 |[],_=>none
 |(k,x)::l,t=>match bF t k with|true=>some x|false=>ltL l t
def u67:ak.underlying 67=some (.array 2 3):=by kernel_rfl
def aBF:ak.underlying 115=some (.map 67 4):=by kernel_rfl
def vC(w:World)(xs:Array Value)(i:Nat)(a:Value)(h:xs[i]? =some a):(part 3 xs i).run ak w= .ok a w:=by have a3:=tf;simp[part,a3,h]
def aAM:MKey ak 67 2:=by
 have u3:=pF;have hu3:ak.underlying 3=some (.int .i64):=by kernel_rfl
 obtain⟨i3,hi3⟩:=info_of_underlying hu3;have c3:ak.cellsOf 3=1:=by kernel_rfl
 have two:∀{xs:List Int},xs.length=2->∃a b,xs=[a,b] :=λ{xs} h=>by
  match xs,h with
  |[a,b],_=>grind
 refine⟨?_,?_,⟨_,u67,λa b=>rfl⟩⟩
 .intro w em xs hx;obtain⟨a,b,rfl⟩:=two hx;show(y6 em (9999+1) 67 (.agg #[.int .i64 a,.int .i64 b])).run _ w=_;have p0:=vC w #[cY .i64 a,.int .i64 b] 0 (.int .i64 a) rfl;have p1:=vC w #[cY .i64 a,.int .i64 b] 1 (.int .i64 b) rfl;have ck:∀a:Int,(y6 em 9999 3 (.int .i64 a)).run ak w= .ok () w:=by intro a;show(y6 em (9998+1) 3 (.int .i64 a)).run _ w=_;generalize 9998=N;simp only[y6,cg,run_underlying hu3,cl,dc]
  generalize 9999=N at ck|-;rw[y6];simp only[cg,run_underlying u67,cl];simp only[Std.Legacy.Range.forIn_eq_forIn_range',Std.Legacy.Range.size,Nat.sub_zero,Nat.add_one_sub_one,Nat.div_one];simp only[show List.range' 0 2=[0,1]from rfl,List.forIn_cons,List.forIn_nil,cg,run_sizeOf w hi3,cl,c3,p0,p1,ck,dc,Nat.zero_mul,Nat.one_mul]
 .intro w xs ys hx hy;obtain⟨a,b,rfl⟩:=two hx;obtain⟨c,d,rfl⟩:=two hy;have p0:=vC w #[cY .i64 a,.int .i64 b] 0 (.int .i64 a) rfl;have p1:=vC w #[cY .i64 a,.int .i64 b] 1 (.int .i64 b) rfl;have q0:=vC w #[cY .i64 c,.int .i64 d] 0 (.int .i64 c) rfl;have q1:=vC w #[cY .i64 c,.int .i64 d] 1 (.int .i64 d) rfl;have e1:∀a b:Int,(tZ 9999 3 (.int .i64 a) (.int .i64 b)).run ak w= .ok (a==b) w:=λa b=>run_equalIn_int w 9998 3 _ _ a b hu3;show(tZ (9999+1) 67 (.agg #[.int .i64 a,.int .i64 b]) (.agg #[.int .i64 c,.int .i64 d])).run _ w=_;rw[run_equalIn_array w 9999 _ _ u67 hi3,c3,show bV 2=[0,1]from rfl];simp only[Op.eqItems,cg,Nat.zero_mul,Nat.one_mul,p0,q0,e1,cl];have hab:∀a b:Int,a≠b->(a==b)=false:=λa b h=>beq_eq_false_iff_ne.2 h;by_cases h1:a=c
  .subst h1;simp only[beq_self_eq_true,Bool.not_true,Bool.false_eq_true,if_false,cg];rw[p1,cl,q1,cl,e1,cl];by_cases h2:b=d
   .simp_all
   simp_all
  simp_all
def Ze:SS ak 115:=⟨67,4,aBF,aAM,λw=>by kernel_rfl⟩
noncomputable def cx(T:Tab):Cx:=⟨ak,T,ltL [(44,.V),(46,.S),(23,.R),(67,.P),(3,.I),(2,.I),(1,.I),(4,.B)],[(44,2),(46,4)],λt=>bF t 115,λf=>match bF f 202 with|true=>true|false=>bF f 173⟩
def qC{T:Tab}(h:T.Ok ak):(cx T).Ok:=⟨h,λt m hm=>by
 have hm:(t,m)∈[(44,2),(46,4)] :=hm;rcases aj.1 hm with h|h
 .cases h;exact YY
 .rw[bZ]at h;cases h;exact YX,λt ht=>by rw[show t=115 from dK ht];exact Ze⟩
noncomputable def nH(F:Frm)(d:Nat):Option Nat:=match F.at d with
 | .int _ v=>some v.toNat
 |_=>none
noncomputable def QD(F:Frm)(d:Nat):Option Int:=match F.at d with
 | .int _ v=>some v
 |_=>none
noncomputable def SF(F:Frm)(d e:Nat):Option (Int×Int):=match QD F d,QD F e with
 |some x,some y=>some (x,y)
 |_,_=>none
noncomputable def lp(key d n:Nat)(I:Nat->List Prop)(rk:List Nat)(upd:Nat->Frm)(obs:Nat->List (Nat×SOb))(inner:Nat->List (Nat×Ann):=λ_=>[]):Nat×Ann:=
 (key,.mk Nat (λF _=>nH F d) rk (λk=>(k<=n)::I k) (λk=>(d,.int .i64 (k:Int))::upd k) obs (λk=>n-k) inner)
noncomputable def cnt(key d n:Nat)(I:Nat->Prop)(inner:Nat->List (Nat×Ann):=λ_=>[]):Nat×Ann:=lp key d n (λk=>[I k]) [] (λ_=>[]) (λ_=>[]) inner
noncomputable def jb(key d:Nat)(b:Bool):Nat×Ann:=(key+10000,.mk Unit (λ_ _=>some ()) [] (λ_=>[]) (λ_=>[(d,.bool b)]) (λ_=>[]) (λ_=>0) (λ_=>[]))
noncomputable def jP(key:Nat)(I:List Prop):Nat×Ann:=(key+10000,.mk Unit (λ_ _=>some ()) [] (λ_=>I) (λ_=>[]) (λ_=>[]) (λ_=>0) (λ_=>[]))
noncomputable def jU(key:Nat)(u:Frm):Nat×Ann:=(key+10000,.mk Unit (λ_ _=>some ()) [] (λ_=>[]) (λ_=>u) (λ_=>[]) (λ_=>0) (λ_=>[]))
noncomputable def jN(key d:Nat)(I:Nat->List Prop)(inner:Nat->List (Nat×Ann):=λ_=>[]):Nat×Ann:=(key+10000,.mk Nat (λF _=>nH F d) [] I (λk=>[(d,.int .i64 (k:Int))]) (λ_=>[]) (λ_=>0) inner)
noncomputable def lU(key k:Nat):Nat×Ann:=(key+30000+k,.mk Unit (λ_ _=>none) [] (λ_=>[]) (λ_=>[]) (λ_=>[]) (λ_=>0) (λ_=>[]))
noncomputable def aM(q:Nat->Prop)(k:Nat):Prop:=∀j,j<k->q j
def nb{b:Bool}(h:(!b)=false):b=true:=by grind
def nb'{b:Bool}(h:(!b)=true):b=false:=by grind
theorem ir(q:Nat->Prop):aM q 0:=λj h=>absurd h (Nat.not_lt_zero j)
theorem cT{q:Nat->Prop}{k:Nat}(h:aM q k)(hk:q k):aM q (k+1):=λj hj=>by
 rcases Nat.lt_or_ge j k with h1|h1
 .exact h j h1
 grind
end
attribute [grind =] aJ ix
attribute [grind ←] ir cT
structure TTab where
 t:Tab
 o:t.Ok ak
noncomputable def TTab.adk(T:TTab){f:Nat}{c:Con}(k:c.Ok ak f):TTab:=⟨CA [(f,c)] T.t,Nb T.o ⟨k,trivial⟩⟩
def bJ(T:TTab){f:Nat}{α:Type}{A:Arl α}{pre:α->List Prop}{res:α->SV}(ann:α->List (Nat×Ann))(hr:∀x,∃q,(res x).av= .p q)(h:∀x,oi (pre x)->(vP (cx T.t) vD f (ann x) (A.enc x) (res x)).holds):(con A pre res).Ok ak f:=yK (qC T.o) ann hr h
abbrev Con.Okz(c:Con)(f:Nat):Prop:=c.Ok ak f
abbrev SV.iqz(n:Int):SV:= .int .i64 n
abbrev bh{α:Type _}{β:Type _}:α->List β:=λ_=>[]
def az{p:Prop}(q:Prop)(h:p=q)(hq:q):p:=aBA h hq
noncomputable def u8:TTab:=⟨QV,Yu⟩
end Go.Proofs.YtdaeofhdgabhjaaGreat
namespace Go.Proofs
open Go.Shelf
def Tryz.sort221_ren:Go.Shelf.Ren:=⟨λ|6=>221|15=>143|14=>229|28=>195|29=>196|20=>230|21=>231|22=>232|23=>233|24=>234|25=>235|26=>236|27=>237|46=>238|47=>211|48=>212|49=>239|50=>240|57=>241|n=>n,λ|22=>112|24=>3|25=>131|3=>3|39=>134|0=>0|53=>170|55=>172|4=>4|46=>163|45=>162|50=>167|5=>5|9=>9|66=>180|70=>184|76=>193|77=>60|n=>n,λ|n=>n⟩
def Tryz.sort221:Go.Proofs.SlLaysF.n6 ak Tryz.sort221_ren:={
 mixed:=by kernel_rfl
 f6:=⟨Tryz.f221.name,by decide,Tryz.func221.trans (congrArg some (by kernel_rfl))⟩
 f14:=⟨Tryz.f229.name,by decide,Tryz.func229.trans (congrArg some (by kernel_rfl))⟩
 f15:=Tryz.func143.trans (congrArg some (by kernel_rfl))
 f20:=⟨Tryz.f230.name,by decide,Tryz.func230.trans (congrArg some (by kernel_rfl))⟩
 f21:=⟨Tryz.f231.name,by decide,Tryz.func231.trans (congrArg some (by kernel_rfl))⟩
 f22:=⟨Tryz.f232.name,by decide,Tryz.func232.trans (congrArg some (by kernel_rfl))⟩
 f23:=⟨Tryz.f233.name,by decide,Tryz.func233.trans (congrArg some (by kernel_rfl))⟩
 f24:=⟨Tryz.f234.name,by decide,Tryz.func234.trans (congrArg some (by kernel_rfl))⟩
 f25:=⟨Tryz.f235.name,by decide,Tryz.func235.trans (congrArg some (by kernel_rfl))⟩
 f26:=⟨Tryz.f236.name,by decide,Tryz.func236.trans (congrArg some (by kernel_rfl))⟩
 f27:=⟨Tryz.f237.name,by decide,Tryz.func237.trans (congrArg some (by kernel_rfl))⟩
 f28:=Tryz.func195.trans (congrArg some (by kernel_rfl))
 f29:=Tryz.func196.trans (congrArg some (by kernel_rfl))
 f46:=⟨Tryz.f238.name,by decide,Tryz.func238.trans (congrArg some (by kernel_rfl))⟩
 f47:=Tryz.func211.trans (congrArg some (by kernel_rfl))
 f48:=Tryz.func212.trans (congrArg some (by kernel_rfl))
 f49:=⟨Tryz.f239.name,by decide,Tryz.func239.trans (congrArg some (by kernel_rfl))⟩
 f50:=⟨Tryz.f240.name,by decide,Tryz.func240.trans (congrArg some (by kernel_rfl))⟩
 f57:=⟨Tryz.f241.name,by decide,Tryz.func241.trans (congrArg some (by kernel_rfl))⟩
 t0:=Tryz.underlying0
 a0:=Tryz.isAgg0
 z0:=Tryz.sizeOf0
 v0:=Tryz.zeroValue0
 t3:=pF
 a3:=tf
 z3:=wH
 v3:=Tryz.zeroValue3
 t4:=Iu
 a4:=Tryz.isAgg4
 z4:=Tryz.sizeOf4
 v4:=Tryz.zeroValue4
 t5:=Tryz.underlying5
 a5:=Tryz.isAgg5
 z5:=Tryz.sizeOf5
 v5:=Tryz.zeroValue5
 t9:=Tryz.underlying9
 a9:=Tryz.isAgg9
 z9:=Tryz.sizeOf9
 v9:=Tryz.zeroValue9
 t22:=Tryz.underlying112
 a22:=Tryz.isAgg112
 z22:=Tryz.sizeOf112
 v22:=Tryz.zeroValue112
 a24:=tf
 z24:=wH
 t25:=Tryz.underlying131
 a25:=Tryz.isAgg131
 z25:=Tryz.sizeOf131
 v25:=Tryz.zeroValue131
 t39:=Tryz.underlying134
 a39:=Tryz.isAgg134
 z39:=Tryz.sizeOf134
 v39:=Tryz.zeroValue134
 t45:=Tryz.underlying162
 a45:=Tryz.isAgg162
 z45:=Tryz.sizeOf162
 v45:=Tryz.zeroValue162
 t46:=Tryz.underlying163
 a46:=Tryz.isAgg163
 z46:=Tryz.sizeOf163
 v46:=Tryz.zeroValue163
 t50:=Tryz.underlying167
 a50:=Tryz.isAgg167
 z50:=Tryz.sizeOf167
 v50:=Tryz.zeroValue167
 t53:=Tryz.underlying170
 a53:=Tryz.isAgg170
 z53:=Tryz.sizeOf170
 v53:=Tryz.zeroValue170
 t55:=Tryz.underlying172
 a55:=Tryz.isAgg172
 z55:=Tryz.sizeOf172
 v55:=Tryz.zeroValue172
 t66:=Tryz.underlying180
 a66:=Tryz.isAgg180
 z66:=Tryz.sizeOf180
 v66:=Tryz.zeroValue180
 t70:=Tryz.underlying184
 a70:=Tryz.isAgg184
 z70:=Tryz.sizeOf184
 v70:=Tryz.zeroValue184
 t76:=Tryz.underlying193
 a76:=Tryz.isAgg193
 z76:=Tryz.sizeOf193
 v76:=Tryz.zeroValue193
 t77:=Tryz.underlying60
 a77:=Tryz.isAgg60
 z77:=Tryz.sizeOf60
 v77:=Tryz.zeroValue60}
def Tryz.del203_ren:Go.Shelf.Ren:=⟨λ|10=>203|6=>224|n=>n,λ|22=>112|23=>3|25=>159|3=>3|4=>4|0=>0|n=>n,λ|n=>n⟩
def Tryz.del203:Go.Proofs.SlLaysH.n10 ak Tryz.del203_ren:={
 mixed:=by kernel_rfl
 f6:=⟨Tryz.f224.name,by decide,Tryz.func224.trans (congrArg some (by kernel_rfl))⟩
 f10:=⟨Tryz.f203.name,by decide,Tryz.func203.trans (congrArg some (by kernel_rfl))⟩
 t0:=Tryz.underlying0
 a0:=Tryz.isAgg0
 z0:=Tryz.sizeOf0
 v0:=Tryz.zeroValue0
 t3:=pF
 a3:=tf
 z3:=wH
 v3:=Tryz.zeroValue3
 t4:=Iu
 a4:=Tryz.isAgg4
 z4:=Tryz.sizeOf4
 v4:=Tryz.zeroValue4
 t22:=Tryz.underlying112
 a22:=Tryz.isAgg112
 z22:=Tryz.sizeOf112
 v22:=Tryz.zeroValue112
 a23:=tf
 z23:=wH
 t25:=Tryz.underlying159
 a25:=Tryz.isAgg159
 z25:=Tryz.sizeOf159
 v25:=Tryz.zeroValue159}
end Go.Proofs
namespace Go.Proofs.YtdaeofhdgabhjaaGreat
section
open Go.RowKit Go.Sort Go.Shelf Go.Lib
def YR(q x:Int)(B o:Nat)(W:World)(hc:W.cell? ⟨B,o,none⟩=some (.int .i64 q)):FnGives ak 204 #[.pointer (some ⟨B,o,none⟩)] #[.int .i64 x] (.bool (x==q)) W:=by
 show Calls ak 204 #[.int .i64 x,.pointer (some ⟨B,o,none⟩)] W _
 go_enter Tryz.func204,Tryz.ntmps204
 go_wp2
 all_goals (go_ret;exact⟨by simp_all,0,rfl⟩)
def YQ(q x:Int)(B o:Nat)(W:World)(hc:W.cell? ⟨B,o,none⟩=some (.int .i64 q)):FnGives ak 205 #[.pointer (some ⟨B,o,none⟩)] #[.int .i64 x] (.bool (x==q)) W:=by
 show Calls ak 205 #[.int .i64 x,.pointer (some ⟨B,o,none⟩)] W _
 go_enter Tryz.func205,Tryz.ntmps205
 go_wp2
 all_goals (go_ret;exact⟨by simp_all,0,rfl⟩)
def T5{enc:Int->Value}{d:Array Int}{cur:Array Value}{i:Nat}(h:i<d.size)(hc:i<cur.size):(putCells enc 0 d cur)[i]? =some (enc d[i]!):=by unfold putCells;simp[h,hc]
def TQ{enc:Int->Value}{d:Array Int}{cur:Array Value}:(putCells enc 0 d cur).size=cur.size:=by unfold putCells;simp
def Um{enc:Int->Value}{w:World}{b:Nat}{d:Array Int}{cur:Array Value}{t:TypeId}(h:w.heap[b]? =some (.cells cur t (0,0))):(putRow enc w b 0 d).heap[b]? =some (.cells (putCells enc 0 d cur) t (0,0)):=by unfold putRow mapBlock;show(w.heap.modify b _)[b]? =_;rw[Array.getElem?_modify,if_pos rfl,h];rfl
def Td{enc:Int->Value}{w:World}{b q:Nat}{d:Array Int}:w.grownBy (putRow enc (Sort.ahead w q) b 0 d) (some b):=by
 refine⟨rfl,rfl,rfl,?_,?_⟩
 .simp_all
 .intro k hk hne;unfold putRow mapBlock;show(w.heap.modify b _)[k]? =_;grind
def oS(l:List Int):LT.I.enc l=l.map (PV.int .i64):=by show CW l=_;unfold CW;exact ES (λn=>PV.int .i64 n) l
def LI{C:bE}{w:World}{b c:Nat}{l:List Int}{arr:Array Value}{ty:TypeId}(hL:Lent C w b c ty 1 (LT.I.enc l) arr):Holds (cY .i64) w b 0 l.toArray/\l.length<=arr.size:=by
 obtain⟨_,h2,_⟩:=hL.row (by decide);rw[oS,db]at h2;refine⟨λj hj=> ?_,h2⟩;have hj:j<l.length:=by simpa using hj
 obtain⟨v,h3,_,h4⟩:=hL.cells j (.int .i64 l[j]) (by rw[oS,gS,fA hj];rfl);unfold aU at h4;subst h4;refine⟨?_,?_⟩
 .rw[Nat.zero_add];refine(cell_of_row w b j arr ty (0,0) hL.blk).trans (h3.trans ?_);grind
 .simp[World.frozen?,hL.blk]
def Z5{C:bE}{w:World}{g:Nat}{q:Int}{vs:List Value}(hC:∀b o v,C b o v->w.cell? ⟨b,o,none⟩=some v)(h:ae C [.fn (.func g) [] [.pro [.int .i64 q] 0]] vs):∃B o,vs=[.func (.func g) #[] #[.pointer (some ⟨B,o,none⟩)]]/\C B o (.int .i64 q):=by unfold ae at h;obtain⟨v,r,rfl,h1,h2⟩:=h;unfold ae at h2;subst h2;unfold aU at h1;obtain⟨a,b,rfl,h3,h4⟩:=h1;unfold ae at h3 h4;subst h3;obtain⟨u,r,rfl,h5,h6⟩:=h4;unfold ae at h6;subst h6;unfold aU at h5;obtain⟨B,o,rfl,h7⟩:=h5;unfold cL at h7;obtain⟨⟨x,h8,_,h9⟩,_⟩:=h7;unfold aU at h9;grind
def Ns(g:Nat)(eg:∀args w,(callFunc g args).run ak w= .ok (.enter g args) w)(hg:∀(q x:Int) (B o:Nat) (W:World),W.cell? ⟨B,o,none⟩=some (.int .i64 q)->FnGives ak g #[.pointer (some ⟨B,o,none⟩)] #[.int .i64 x] (.bool (x==q)) W)
  (l:List Int) (q:Int) (hn:l.length<=1000000):
  IJ ak 203 l.length [.fn (.func g) [] [.pro [.int .i64 q] 0]] 3 1 (LT.I.enc l) (LT.I.enc (l.filter λx=> !(x==q))) (l.filter λx=> !(x==q)).length:=by
 refine⟨by kernel_rfl,?_,Iv ..,?_,?_⟩
 .rw[oS,oS,db,db];grind
 .rw[oS,List.all_eq_true];intro x hx;obtain⟨n,_,rfl⟩:=List.mem_map.1 hx;rfl
 intro C w b c arr vs hC hL hnc hA;obtain⟨B,o,rfl,hBo⟩:=Z5 (λb o v h=>(hC b o v h).1) hA;obtain⟨hcell,hne⟩:=hC _ _ _ hBo;obtain⟨hH,hsz⟩:=LI hL;have hB:B<w.heap.size:=World.block_lt_of_cell? w ⟨B,o,none⟩ hcell;have hcon:=AnyE.slices_DeleteFunc (P:=ak) (ρ:=Tryz.del203_ren) Tryz.del203 (cY .i64) (λ_=>rfl) (λx:Int=>x==q) g #[.pointer (some ⟨B,o,none⟩)] eg 0 (λw=>by kernel_rfl) b 0 c l.toArray w
  (λW x hb=>hg q x B o W ((hb.cell (p:=⟨B,o,none⟩) hB).trans hcell))
  (λn os dk x _=>hg q x B o _ (by unfold sortWorld;rw[cell?_grow _ _ _ (by simp_all),cell?_putRow_other _ _ b 0 _ _ (Or.inl hne)];exact hcell)) hH (by simp;omega) (by omega)
 change Calls ak 203 _ _ _ at hcon;have e1:l.toArray.toList=l:=rfl;rw[e1]at hcon;simp only[List.size_toArray]at hcon;refine hcon.mono ?_;rintro e w' ⟨rfl,q',rfl⟩;have hfl:=Iv (λx=> !(x==q)) l;generalize (l.filter λx=> !(x==q))=m at hfl|-;refine⟨_,rfl,Um (w:=Sort.ahead w q') hL.blk,TQ,?_,Td⟩;intro i x hi;rw[oS,gS]at hi;cases hx:m[i]? with
 |none=>grind
 |some y=>
  rw[hx]at hi;cases hi;have hi':i<m.length:=(List.getElem?_eq_some_iff.1 hx).1;refine⟨.int .i64 y,?_,rfl,by unfold aU;rfl⟩;rw[T5 (by simp;omega) (by omega)];grind
def aAw(args:Array Value)(w:World):(callFunc 204 args).run ak w= .ok (.enter 204 args) w:=ky (by kernel_rfl) args w
def aAv(args:Array Value)(w:World):(callFunc 205 args).run ak w= .ok (.enter 205 args) w:=ky (by kernel_rfl) args w
def IC:List SV->Option (List Int×Bool×Int)
 |[.lst .I l,.fnp 204 [] [.pro [.int .i64 q] 0]] =>some (l,true,q)
 |[.lst .I l,.fnp 205 [] [.pro [.int .i64 q] 0]] =>some (l,false,q)
 |_=>none
def Wj{l:List Int}{rest:List SV}{x:List Int×Bool×Int}(h:IC (.lst .I l::rest)=some x):∃q,(rest=[.fnp 204 [] [.pro [.int .i64 q] 0]]/\x=(l,true,q))\/(rest=[.fnp 205 [] [.pro [.int .i64 q] 0]]/\x=(l,false,q)):=by unfold IC at h;grind
noncomputable def aDq:Con:=⟨List Int×Bool×Int,IC,λx=>[x.1.length<=1000000],.rowB .I 3 λx=>x.1.filter λy=> !(y==x.2.2)⟩
def aB3:aDq.Okz 203:=by
 intro l rest x hd hp;obtain⟨q,⟨rfl,rfl⟩|⟨rfl,rfl⟩⟩:=Wj hd
 .exact⟨[.fn (.func 204) [] [.pro [.int .i64 q] 0]],rfl,Ns 204 aAw YR l q (hp _ bo)⟩
 .exact⟨[.fn (.func 205) [] [.pro [.int .i64 q] 0]],rfl,Ns 205 aAv YQ l q (hp _ bo)⟩
end
def gm{x y A B:Int}(hx: -A<=x/\x<=A)(hy: -B<=y/\y<=B): -(A*B)<=x*y/\x*y<=A*B:=by have h1:0<=(A-x)*(B-y):=bm (by omega) (by omega);have h2:0<=(A+x)*(B+y):=bm (by omega) (by omega);have h3:0<=(A-x)*(B+y):=bm (by omega) (by omega);have h4:0<=(A+x)*(B-y):=bm (by omega) (by omega);grind
def bd(M:Int)(v:V):Prop:=(-M<=v.x/\v.x<=M)/\ -M<=v.y/\v.y<=M
def qE{m M:Int}{v:V}(h:ao v m=true)(hm:m<=M:=by decide):bd M v:=by unfold ao at h;unfold bd;grind
def bd.mono{m M:Int}{v:V}(h:bd m v)(hm:m<=M:=by decide):bd M v:=by unfold bd at*;omega
def ms{M:Int}{a b:V}(ha:bd M a)(hb:bd M b):(-(M*M)<=a.x*b.y/\a.x*b.y<=M*M)/\ -(M*M)<=a.y*b.x/\a.y*b.x<=M*M:=⟨gm ha.1 hb.2,gm ha.2 hb.1⟩
def iZ{m:Int}{a b:V}(ha:bd m a)(hb:bd m b):bd (m+m) (aEy a b):=by unfold bd aEy at*;grind
def aAs(n:Int): -1<=sgn n/\sgn n<=1:=by unfold sgn;grind
def bW{x:Int}(h: -9000000000000000000<=x/\x<=9000000000000000000):aJ x:=by unfold aJ;omega
noncomputable def aD0:Con:=con (ac aV (a1 aV)) (λ(_,_)=>[]) (λ(a,b)=> .bool (bg a b)
 )
def aCC:aD0.Okz 149:=bJ u8 (λ(_,_)=>[]) (λ(_,_)=>⟨_,rfl⟩) λ(a,b) _=>az ((a.y<b.y->true=bg a b)/\
 (¬a.y<b.y->(a.y=b.y->decide (a.x<b.x)=bg a b)/\
  (¬a.y=b.y->false=bg a b))) (by kernel_rfl) (by
  unfold bg;grind)
noncomputable def RM:=u8.adk aCC
noncomputable def c80:Con:=con (a1 aI) (λ_=>[]) (λn=> .iqz (sgn n)
 )
def k80:c80.Okz 80:=bJ RM bh (λ_=>⟨_,rfl⟩) λn _=>az ((0<n->1=sgn n)/\
 (¬0<n->(n<0-> -1=sgn n)/\
  (¬n<0->0=sgn n))) (by kernel_rfl) (by
  unfold sgn;grind)
noncomputable def t80:=RM.adk k80
noncomputable def c35:Con:=con (ac aV (a1 aI)) (λ(_,m)=>[0<=m,m<=1000000000000]) (λ(a,m)=> .bool (ao a m)
 )
def k35:c35.Okz 35:=bJ t80 (λ(_,_)=>[]) (λ(_,_)=>⟨_,rfl⟩) λ(a,m) hp=>az (aJ (0-m)/\(0-m<=a.x->(a.x<=m->aJ (0-m)/\(0-m<=a.y->decide (a.y<=m)=ao a m)/\
   (¬0-m<=a.y->false=ao a m))/\
  (¬a.x<=m->false=ao a m))/\
 (¬0-m<=a.x->false=ao a m)) (by kernel_rfl) (by change 0<=m/\m<=1000000000000 at hp;unfold ao;have:= @aJ;grind[aJ])
noncomputable def t35:=t80.adk k35
noncomputable def c98:Con:=con (a1 aS) (λ_=>[]) (λs=> .bool (bG s)
 )
def k98:c98.Okz 98:=bJ t35 bh (λ_=>⟨_,rfl⟩) λs _=>az ((0:Int)<=4000/\(4000:Int)<=1000000000000/\(ao s.a 4000=true->(0:Int)<=4000/\(4000:Int)<=1000000000000/\ao s.b 4000=bG s)/\
 (ao s.a 4000=false->false=bG s)) (by kernel_rfl) (by unfold bG;grind)
noncomputable def t98:=t35.adk k98
noncomputable def aEr:Con:=con (a1 aV) (λ_=>[]) (λv=>(aT).enc (fD v)
 )
def SD:aEr.Okz 104:=bJ t98 bh (λ_=>⟨_,rfl⟩) λv _=>az (aC (fD v) λA=>v.x=A.x/\v.y=A.y/\1=A.den) (by kernel_rfl) (by exact⟨rfl,rfl,rfl⟩)
noncomputable def Rq:=t98.adk SD
noncomputable def aD3:Con:=con (ac aV (a1 aV)) (λ(a,b)=>[bd 2000000000 a,bd 2000000000 b]) (λ(a,b)=> .iqz (cross a b)
 )
def aCF:aD3.Okz 144:=bJ Rq (λ(_,_)=>[]) (λ(_,_)=>⟨_,rfl⟩) λ(a,b) hp=>az (aJ (a.x*b.y)/\aJ (a.y*b.x)/\aJ (a.x*b.y-a.y*b.x)/\a.x*b.y-a.y*b.x=cross a b) (by kernel_rfl) (by change bd 2000000000 a/\bd 2000000000 b at hp;have:=ms hp.1 hp.2;exact⟨bW (by omega),bW (by omega),bW (by omega),rfl⟩)
noncomputable def RP:=Rq.adk aCF
noncomputable def aD2:Con:=con (ac aV (a1 aV)) (λ(a,b)=>[bd 1000000000 a,bd 1000000000 b]) (λ(a,b)=>aV.enc (aEy a b)
 )
def aCE:aD2.Okz 145:=bJ RP (λ(_,_)=>[]) (λ(_,_)=>⟨_,rfl⟩) λ(a,b) hp=>az (aJ (a.x-b.x)/\aJ (a.y-b.y)/\a.x-b.x=(aEy a b).x/\a.y-b.y=(aEy a b).y) (by kernel_rfl) (by change bd 1000000000 a/\bd 1000000000 b at hp;unfold bd at hp;exact⟨bW (by omega),bW (by omega),rfl,rfl⟩)
noncomputable def RO:=RP.adk aCE
def m9{s:S}(h:(!bG s)=false){M:Int}(hM:4000<=M:=by decide):bd M s.a/\bd M s.b:=by unfold bG at h;simp only[Bool.not_eq_false',Bool.and_eq_true]at h;exact⟨qE h.1 hM,qE h.2 hM⟩
def PW{s:S}{p:V}{M:Int}(h1:bd M s.a/\bd M s.b)(h:fW s p=true):bd M p:=by unfold fW at h;unfold bd at*;grind
def AO(s:S)(p:V): -1<=gK s p/\gK s p<=1:=by
 unfold gK turn;split
 .omega
 .exact aAs _
noncomputable def c70:Con:=con (ac aV (ac aV (a1 aV))) (λ(a,b,c)=>[bd 1000000000 a,bd 1000000000 b,bd 1000000000 c]) (λ(a,b,c)=> .iqz (turn a b c)
 )
def k70:c70.Okz 70:=bJ RO (λ(_,_,_)=>[]) (λ(_,_,_)=>⟨_,rfl⟩) λ(a,b,c) hp=>az (bd 1000000000 b/\bd 1000000000 a/\bd 1000000000 c/\bd 1000000000 a/\bd 2000000000 (aEy b a)/\bd 2000000000 (aEy c a)/\sgn (cross (aEy b a) (aEy c a))=turn a b c) (by kernel_rfl) (by change bd 1000000000 a/\bd 1000000000 b/\bd 1000000000 c at hp;exact⟨hp.2.1,hp.1,hp.2.2,hp.1,iZ hp.2.1 hp.1,iZ hp.2.2 hp.1,rfl⟩)
noncomputable def t70:=RO.adk k70
noncomputable def aEu:Con:=con (ac aS (a1 aV)) (λ(_,_)=>[]) (λ(s,p)=> .iqz (gK s p)
 )
def aC6:aEu.Okz 100:=bJ t70 (λ(_,_)=>[]) (λ(_,_)=>⟨_,rfl⟩) λ(s,p) _=>az (aC (!bG s) λA=>aC (!ao p 4000) λB=>(A=true->0=gK s p)/\
 (A=false->(0:Int)<=4000/\(4000:Int)<=1000000000000/\(B=true->0=gK s p)/\
  (B=false->bd 1000000000 s.a/\bd 1000000000 s.b/\bd 1000000000 p/\turn s.a s.b p=gK s p))) (by kernel_rfl) (by
  unfold gK;refine⟨λh=>by rw[h];rfl,λh=>⟨by decide,by decide,λh2=>by grind,λh2=>⟨(m9 h).1,(m9 h).2,qE (by simpa using h2),by grind⟩⟩⟩)
noncomputable def Rv:=t70.adk aC6
noncomputable def aDP:Con:=con (ac aS (a1 aV)) (λ(_,_)=>[]) (λ(s,p)=> .bool (onS s p))
def aCt:aDP.Okz 163:=bJ Rv (λ(s,p)=>[jb 4 5 (fW s p)]
  ) (λ(_,_)=>⟨_,rfl⟩) λ(s,p) _=>az (aC (!bG s) λA=>(A=true->false=onS s p)/\
 (A=false->((Min.min s.a.x s.b.x<=p.x->(p.x<=Max.max s.a.x s.b.x->(Min.min s.a.y s.b.y<=p.y->decide (p.y<=Max.max s.a.y s.b.y)=fW s p)/\
     (¬Min.min s.a.y s.b.y<=p.y->false=fW s p))/\
    (¬p.x<=Max.max s.a.x s.b.x->false=fW s p))/\
   (¬Min.min s.a.x s.b.x<=p.x->false=fW s p))/\
  (∀y:Unit,(fW s p=true->bd 1000000000 s.a/\bd 1000000000 s.b/\bd 1000000000 p/\decide (turn s.a s.b p=0)=onS s p)/\
   (fW s p=false->false=onS s p)))) (by kernel_rfl) (by
  refine⟨λh=>by unfold onS;grind,λh=>⟨by unfold fW;grind,λ_=>⟨λh2=>⟨(m9 h).1,(m9 h).2,PW (m9 h) h2,by unfold onS;grind⟩,λh2=>by unfold onS;rw[h2];simp⟩⟩⟩)
noncomputable def Q9:=Rv.adk aCt
def so(l:List V)(k:Nat):List V:=lD (l.take k)
def qso(l:List V)(k j:Nat):Prop:=bg (aEv (so l k) j) (aEv l k)=true
def cm(s t:S)(k:Nat):List V:=([s.a,s.b,t.a,t.b].take k).filter λp=>onS s p&&onS t p
def Fh{l:List V}{k:Nat}(h:k<l.length):so l (k+1)=jf (so l k) (aEv l k):=by unfold so lD;rw[rW,fA h,List.foldl_append,nth_eq h];rfl
def EL{p:V}:∀{l:List V} {k:Nat},k<=l.length->(∀j,j<k->bg (aEv l j) p=true)->(k<l.length->¬bg (aEv l k) p=true)->
  jf l p=if k<l.length/\aEv l k=p then l else l.take k++p::l.drop k
 |[],k,h1,_,_=>by simp at h1;subst h1;rfl
 |q::r,0,_,_,h3=>by
  have h3:¬bg q p=true:=h3 (by simp);unfold jf;rw[if_neg h3];show(if q=p then q::r else p::q::r)=if 0<(q::r).length/\q=p then q::r else p::q::r;simp
 |q::r,k+1,h1,h2,h3=>by
  have h0:bg q p=true:=h2 0 (by omega);unfold jf;rw[if_pos h0,EL (l:=r) (k:=k) (by grind) (λj hj=>h2 (j+1) (by omega)) (λhk=>h3 (by grind))];show(q::if _ then _ else _)=if k+1<(q::r).length/\aEv r k=p then q::r else q::(r.take k++p::r.drop k);grind
def YG(l:List V)(p:V):(jf l p).length<=l.length+1:=by
 induction l with
 |nil=>simp[jf]
 |cons q r ih=>unfold jf;grind
def PE{l:List V}{k y:Nat}(hk:k<l.length)(h1:y<=(so l k).length)(h2:aM (qso l k) y)(h3:y<(so l k).length->¬qso l k y)(h4:¬(y<(so l k).length/\aEv (so l k) y=aEv l k)):
  ([] :List V)++bD y (iA 0 (so l k))++[aEv l k] ++bD ((so l k).length-y) (iA y (so l k))=so l (k+1):=by
 have e:bD ((so l k).length-y) (iA y (so l k))=iA y (so l k):=List.take_of_length_le (by simp);rw[Fh hk,EL h1 h2 h3,if_neg h4,e];simp
def Nm{l:List V}{k y:Nat}(hk:k<l.length)(h1:y<=(so l k).length)(h2:aM (qso l k) y)(h3:y<(so l k).length->¬qso l k y)(h4:y<(so l k).length)(h5:aEv (so l k) y=aEv l k):so l k=so l (k+1):=by rw[Fh hk,EL h1 h2 h3,if_pos ⟨h4,h5⟩]
def Z1(s t:S){k:Nat}(h:k<4):cm s t (k+1)=if(onS s (aEv [s.a,s.b,t.a,t.b] k)&&onS t (aEv [s.a,s.b,t.a,t.b] k))=true then cm s t k++[aEv [s.a,s.b,t.a,t.b] k]else cm s t k:=by unfold cm;rw[rW,fA (show k<[s.a,s.b,t.a,t.b].length from h),List.filter_append,nth_eq (show k<[s.a,s.b,t.a,t.b].length from h)];grind
def aA1(s t:S)(k:Nat):(cm s t k).length<=4:=cO (Iv _ _) (by simp;omega)
noncomputable def aDO:Con:=con (a1 (aL .V)) (λl=>[l.length<=1000]) (λl=> .lst .V (lD l))
def aCs:aDO.Okz 164:=bJ Q9 (λl=>[lp 3 4 l.length (λk=>[(so l k).length<=k]) [900] (λk=>[(3,.own 900 .V (so l k).length)]) (λk=>[(900,.row 44 .V (so l k))]) λk=>[cnt 6 5 (so l k).length (aM (qso l k)),jN 8 5 (λj=>[j<=(so l k).length,aM (qso l k) j,j<(so l k).length->¬qso l k j]) λj=>[jP 9 [¬(j<(so l k).length/\aEv (so l k) j=aEv l k)]]]]
  ) (λ_=>⟨_,rfl⟩) λl hp=>az (aC (so l 0).length λL=>aC ([] :List V) λN=>(0=(0:Int)/\L=0/\so l 0=N/\(0:Nat)<=l.length/\L<=0)/\
 (∀x:Nat,aC (x+1) λA=>aC (so l x) λB=>aC (so l A) λC=>aC (x:Int) λD=>aC (qso l x) λF=>aC (aEv l x) λH=>aC (iA 0 B) λJ=>aC ((x+1:Nat):Int) λP=>x<=l.length/\B.length<=x->(D<l.length->((0=(0:Int)/\(0:Nat)<=B.length/\aM F 0)/\
    (∀x_1:Nat,aC (x_1:Int) λG=>aC (aEv B x_1) λM=>x_1<=B.length/\aM F x_1->(G<B.length->ix G B.length/\x_1<B.length/\ix D l.length/\(bg M H=true->aJ (G+1)/\G+1=((x_1+1:Nat):Int)/\x_1+1<=B.length/\aM F (x_1+1)/\B.length-(x_1+1)<B.length-x_1)/\
      (bg M H=false->G=x_1/\x_1<=B.length/\aM F x_1/\(x_1<B.length->¬qso l x x_1)))/\
     (¬G<B.length->G=x_1/\x_1<=B.length/\aM F x_1/\(x_1<B.length->¬qso l x x_1))))/\
   (∀y:Nat,aC (y:Int) λE=>aC (B.length-y) λI=>aC (iA y B) λK=>aC (N++bD y J) λO=>aC (N++bD y J++[H]) λQ=>y<=B.length/\aM F y/\(y<B.length->¬qso l x y)->((E<B.length->ix E B.length/\y<B.length/\ix D l.length/\((aEv B y)=H->aJ (D+1)/\D+1=P/\B.length=C.length/\so l x=so l A/\x+1<=l.length/\C.length<=x+1/\l.length-A<l.length-x)/\
      (¬(aEv B y)=H->¬(y<B.length/\aEv B y=aEv l x)))/\
     (¬E<B.length->¬(y<B.length/\aEv B y=aEv l x)))/\
    (∀y_1:Unit,¬(y<B.length/\aEv B y=aEv l x)->(0<=E/\E<=B.length)/\0+y<=B.length/\N.length+(bD y J).length<=1000000/\ix D l.length/\O.length=O.length/\O.length+[H].length<=1000000/\(0<=E/\E<=B.length)/\Q.length=Q.length/\y+I<=B.length/\Q.length+(bD I K).length<=1000000/\aJ (D+1)/\D+1=P/\(N++bD y J++[H] ++bD I K).length=C.length/\N++bD y J++[H] ++bD I K=so l A/\x+1<=l.length/\C.length<=x+1/\l.length-A<l.length-x)))/\
  (¬D<l.length->B.length=B.length/\so l x=lD l))) (by kernel_rfl) (by
  change l.length<=1000 at hp;have e0:so l 0=[] :=rfl;have e1:so l l.length=lD l:=by unfold so;rw[List.take_length]
  have el:∀x,x<l.length->(so l x).length<=x->(so l (x+1)).length<=x+1:=by intro x h h2;rw[Fh h];exact cO (YG _ _) (by omega)
  have e2:(so l 0).length=0:=rfl
  with_reducible ((repeat' first|apply cM|intro);all_goals repeat cases‹_/\_›)
  all_goals first|assumption|rfl|exact trivial|exact nb ‹_› |exact nb' ‹_› |omega|exact i5 (by omega)|(unfold ix;omega)|(unfold aJ;omega)|exact ir _|exact cT ‹_› ‹_› |(refine cT ‹_› ?_;simp_all;done)|exact PE (by omega) ‹_› ‹_› ‹_› ‹_› |exact congrArg fh (PE (by omega) ‹_› ‹_› ‹_› ‹_›)|exact Nm (by omega) ‹_› ‹_› ‹_› (by omega) ‹_› |exact congrArg fh (Nm (by omega) ‹_› ‹_› ‹_› (by omega) ‹_›)|exact el _ (by omega) ‹_› |(unfold qso at*;simp_all;done)|grind)
noncomputable def Q8:=Q9.adk aCs
noncomputable def c99:Con:=con (ac aS (a1 aS)) (λ(_,_)=>[]) (λ(s,t)=> .lst .V (ju s t))
def k99:c99.Okz 99:=bJ Q8 (λ(s,t)=>[lp 4 7 4 bh [900,11] (λk=>[(6,.own 900 .V (cm s t k).length),(5,.own 11 .V 4)]) (λk=>[(900,.row 44 .V (cm s t k)),(11,.row 44 .V [s.a,s.b,t.a,t.b])]) λk=>[jb 7 34 (onS s (aEv [s.a,s.b,t.a,t.b] k)&&onS t (aEv [s.a,s.b,t.a,t.b] k))]]
  ) (λ(_,_)=>⟨_,rfl⟩) λ(s,t) _=>az (aC (4:Nat) λC=>(0=(0:Int)/\(cm s t 0).length=0/\C=4/\cm s t 0=([] :List V)/\[s.a,s.b,t.a,t.b] =[s.a,s.b,t.a,t.b]/\(0:Nat)<=4)/\
 (∀x:Nat,aC (x+1) λA=>aC (x:Int) λB=>aC (cm s t x) λD=>aC (cm s t A).length λE=>aC ((x+1:Nat):Int) λF=>aC (aEv [s.a,s.b,t.a,t.b] x) λG=>aC (onS s G&&onS t G) λH=>x<=4->(B<4->(ix B 4/\x<[s.a,s.b,t.a,t.b].length/\(onS s G=true->ix B 4/\x<[s.a,s.b,t.a,t.b].length/\onS t G=H)/\
    (onS s G=false->false=H))/\
   (∀y:Unit,(H=true->ix B 4/\x<[s.a,s.b,t.a,t.b].length/\D.length=D.length/\D.length+[G].length<=1000000/\aJ (B+1)/\B+1=F/\(cm s t x++[G]).length=E/\C=4/\cm s t x++[G] =cm s t A/\[s.a,s.b,t.a,t.b] =[s.a,s.b,t.a,t.b]/\x+1<=4/\4-A<4-x)/\
    (H=false->aJ (B+1)/\B+1=F/\D.length=E/\C=4/\cm s t x=cm s t A/\[s.a,s.b,t.a,t.b] =[s.a,s.b,t.a,t.b]/\x+1<=4/\4-A<4-x)))/\
  (¬B<4->D.length=D.length/\D.length<=1000/\lD D=ju s t))) (by kernel_rfl) (by
  have e0:cm s t 0=[] :=rfl;have e4:lD (cm s t 4)=ju s t:=rfl;have es:=λk=> @Z1 s t k;have el:=aA1 s t
  with_reducible ((repeat' first|apply cM|intro);all_goals repeat cases‹_/\_›)
  all_goals grind)
noncomputable def t99:=Q8.adk k99
noncomputable def c32:Con:=con (ac aS (a1 aS)) (λ(_,_)=>[]) (λ(s,t)=> .iqz (cZ s t)
 )
def k32:c32.Okz 32:=bJ t99 (λ(_,_)=>[]) (λ(_,_)=>⟨_,rfl⟩) λ(s,t) _=>az (aC (!bG s) λA=>aC (!bG t) λB=>aC ((ju s t).length:Int) λD=>(A=true->0=cZ s t)/\
 (A=false->(B=true->0=cZ s t)/\
  (B=false->(1<D->3=cZ s t)/\
   (¬1<D->(D=1->1=cZ s t)/\
    (¬D=1->aJ (gK s t.a*gK s t.b)/\(gK s t.a*gK s t.b<0->aJ (gK t s.a*gK t s.b)/\(gK t s.a*gK t s.b<0->2=cZ s t)/\
      (¬gK t s.a*gK t s.b<0->0=cZ s t))/\
     (¬gK s t.a*gK s t.b<0->0=cZ s t)))))) (by kernel_rfl) (by
  have d1:=AO s t.a;have d2:=AO s t.b;have d3:=AO t s.a;have d4:=AO t s.b;have m1:=gm d1 d2;have m2:=gm d3 d4;unfold cZ
  with_reducible ((repeat' first|apply cM|intro);all_goals repeat cases‹_/\_›)
  all_goals grind)
noncomputable def t32:=t99.adk k32
end Go.Proofs.YtdaeofhdgabhjaaGreat
