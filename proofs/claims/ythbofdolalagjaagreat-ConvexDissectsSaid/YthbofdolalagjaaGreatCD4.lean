/- Part 4 of what the statement stands on -/
import Derived.Test.YthbofdolalagjaaGreatCD3
import Derived.ChangeKeysEq
import Derived.Shelf.SlSortCmp.NoneTotal
import Derived.Shelf.SlicesE.DeleteFunc
import Derived.Ground.SlsfProg
import Derived.Ground.SlgfProg
import Derived.Lib.SliceRun
set_option linter.all false
set_option maxRecDepth 100000
set_option maxHeartbeats 8000000
open Option renaming some->aD,none->aM,some.inj->pi,map_some->fk
open Nat renaming beq->bZ,blt->jt,le_of_ble_eq_true->rh,ne_of_gt->qX,eq_of_beq_eq_true->eL,ne_of_beq_eq_false->oc,ble->ph,le_refl->bR,zero_add->ku,lt_or_ge->pV,zero_le->lh,le_trans->cZ,mod_lt->cG,gcd->bQ,gcd_comm->By,sub_self->FQ,mul_le_mul->rZ
open Bool renaming true->aE,false->aK,eq_iff_iff->gR,and_eq_true->cD
open List renaming isEmpty_iff->Lp,range->bT,length->aA,map_cons->dU,lookup_cons->eZ,mem_map->bn,mem_cons->bO,flatMap_cons->fw,flatMap->mL,mem_flatMap->dL,map_map->du,map_append->dV,all_eq_true->cC,length_set->Bv,mem_singleton->cI,getD_eq_getElem?_getD->fY,getElem?_eq_getElem->fQ,mem_cons_of_mem->cM,map_congr_left->lg,cons_append->k8,take_left->Fe,lookup->jS,mem_cons_self->cR,getElem?_eq_none->oZ,mem_append->bz,mem_filterMap->Lm,mem_append_left->iS,mem_append_right->iF,length_map->dq,map_nil->qV,replicate->dO,getElem?_map->ip,length_filter_le->Fj,take_add_one->nO,foldl_append->Bw,take->ak,drop->fE,take_of_length_le->jB,take_length->ri,range_succ->pW,sum_append->nM,getElem_of_mem->jQ,mem_range->cP,ext_getElem->wg,length_append->eR,all_eq_false->vF,any_eq_true->kX,any_eq_false->tW
open Go.Sem renaming run->iT,run_bind->dY,run_pure->fD
open Go.Proofs.Tryz renaming prog->bi,isAgg3->zC,underlying3->zA,sizeOf3->Bt,underlying4->Lq
open Go.Op renaming equalIn->wn
open Go.Value renaming int->dN
open Go.Result renaming andThen_ok->dr
open Go.Instr renaming checkKey->Bq
open Int renaming mul_nonneg->cF,natAbs->ce,tmod->dA,natAbs_tmod->Bx,tdiv->fe
open And renaming intro->cJ
open Decidable renaming of_not_not->vE
open Go.IntKind renaming i64->kJ
open Go.RowKit
open Go.Proofs.YthbofdolalagjaaGreat.Geo
open Go.Proofs.YthbofdolalagjaaGreat.Geo renaming sub->aJa,nth->aI7,V->aI8,Tab->aJd
noncomputable section
namespace Go.Proofs.YthbofdolalagjaaGreat
noncomputable section
def Cn{m:Rf}{l r:List AV}(h:iK m l r):iQ m (fg l) (fg r):=by
 unfold fg;cases hl:bm l with
 |some q=>
  have e:=kN hl;subst e;have:∀(q:List PV) (r:List AV),iK m (q.map .p) r->r=q.map .p:=by
   intro q;induction q with
   |nil=>intro r h;exact h
   |cons x q ih=>intro r h;obtain⟨y,r',rfl,h1,h2⟩:=h;unfold iQ at h1;grind
  rw[this q r h,eW];rfl
 |none=>
  unfold iQ;cases hr:bm r with
  |some q=>exact⟨r,.inr ⟨q,rfl,kN hr⟩,h⟩
  |none=>grind
def Gy{m:Rf}{l r:List AV}(h:iK m l r):iQ m (l7 l) (l7 r):=by
 unfold l7;cases hl:bm l with
 |some q=>
  have e:=kN hl;subst e;have:∀(q:List PV) (r:List AV),iK m (q.map .p) r->r=q.map .p:=by
   intro q;induction q with
   |nil=>intro r h;exact h
   |cons x q ih=>intro r h;obtain⟨y,r',rfl,h1,h2⟩:=h;unfold iQ at h1;grind
  rw[this q r h,eW];rfl
 |none=>
  unfold iQ;cases hr:bm r with
  |some q=>exact⟨r,.inr ⟨q,rfl,kN hr⟩,h⟩
  |none=>grind
def ff{m:Rf}{x:PV}{y:AV}(h:y= .p x):iQ m (.p x) y:=by exact h
def lm(m:Rf):∀q:List PV,iK m (q.map .p) (q.map .p)
 |[] =>by rfl
 |x::q=>by exact⟨_,_,rfl,ff rfl,lm m q⟩
def xY{m:Rf}{α:Type}(f g:α->AV):∀l:List α,(∀x∈l,iQ m (f x) (g x))->iK m (l.map f) (l.map g)
 |[],_=>by rfl
 |x::l,h=>by
  exact⟨_,_,rfl,aH,xY f g l aH⟩
mutual
def SV.ren(f:Nat->Nat):SV->SV
 | .agg l=> .agg (um f l)
 | .tup l=> .tup (um f l)
 | .fn g a b=> .fn g (um f a) (um f b)
 | .ptr s o=> .ptr (f s) o
 | .pte s t i o=> .pte (f s) t i o
 | .own s t n=> .own (f s) t n
 | .owns s t o n=> .owns (f s) t o n
 | .ownx s n=> .ownx (f s) n
 | .ownf s t a n=> .ownf (f s) t a n
 | .ptef s t a i o=> .ptef (f s) t a i o
 | .ptf s a=> .ptf (f s) a
 | .owF s n=> .owF (f s) n
 | .mp s=> .mp (f s)
 | .any=> .any
 | .undef=> .undef
 | .nil=> .nil
 | .int k n=> .int k n
 | .bool b=> .bool b
 | .lit b=> .lit b
 | .prop p d=> .prop p d
 | .str s=> .str s
 | .lst t l=> .lst t l
 | .sl n cs=> .sl n cs
 | .pe t l i o=> .pe t l i o
 | .pro cs o=> .pro cs o
 | .fnp g a b=> .fnp g a b
 | .clo1 pv t q dom=> .clo1 pv t q dom
 | .clo2 pv t q dom=> .clo2 pv t q dom
 | .ptb F n o=> .ptb F n o
 | .junk=> .junk
def um(f:Nat->Nat):List SV->List SV
 |[] =>[]
 |x::l=>x.ren f::um f l
end
def yZ(m:Rf)(f:Nat->Nat):Prop:=∀y a,m (inn (f y) a)=aD (aD (inn y a))
def yZ.n{m:Rf}{f:Nat->Nat}(h:yZ m f)(y:Nat):m (aa (f y))=aD (aD (aa y)):=h y 0
mutual
theorem RJ{m:Rf}{f:Nat->Nat}(hm:yZ m f):∀v:SV,iQ m (v.ren f).av v.av
 | .any=>by trivial
 | .undef=>by rfl
 | .nil=>by rfl
 | .int _ _=>ff rfl
 | .bool _=>ff rfl
 | .lit _=>ff rfl
 | .prop _ _=>ff rfl
 | .str _=>ff rfl
 | .lst _ _=>ff rfl
 | .pe _ _ _ _=>ff rfl
 | .clo1 _ _ _ _=>ff rfl
 | .clo2 _ _ _ _=>ff rfl
 | .ptb _ _ _=>ff rfl
 | .junk=>ff rfl
 | .sl n cs=>by
   simp only[SV.ren,SV.av];split
   .exact ff rfl
   .trivial
 | .pro cs off=>by
   simp only[SV.ren,SV.av];split
   .exact ff rfl
   .trivial
 | .fnp g a b=>by
   simp only[SV.ren,SV.av];split
   .exact ff rfl
   .trivial
 | .agg l=>by exact Cn (vX hm l)
 | .tup l=>by exact Gy (vX hm l)
 | .fn g a b=>by exact⟨_,_,rfl,vX hm a,vX hm b⟩
 | .ptr s off=>by exact⟨_,hm.n s,rfl⟩
 | .pte s t i off=>by exact⟨_,hm.n s,rfl⟩
 | .ptf s a=>by exact⟨_,hm.n s,rfl⟩
 | .ptef s t a i off=>by exact⟨_,hm s (a+1),rfl⟩
 | .own s t n=>by exact .inl ⟨_,hm.n s,rfl⟩
 | .owns s t o n=>by exact .inl ⟨_,hm.n s,rfl⟩
 | .ownx s n=>by exact .inl ⟨_,hm.n s,rfl⟩
 | .owF s n=>by exact .inl ⟨_,hm.n s,rfl⟩
 | .ownf s t a n=>by exact .inl ⟨_,hm s (a+1),rfl⟩
 | .mp s=>by exact⟨_,hm.n s,rfl⟩
theorem vX{m:Rf}{f:Nat->Nat}(hm:yZ m f):∀l:List SV,iK m (avs (um f l)) (avs l)
 |[] =>by rfl
 |x::l=>by exact⟨_,_,rfl,RJ hm x,vX hm l⟩
end
def SOb.ren(f:Nat->Nat):SOb->SOb
 | .box ty cs=> .box ty (um f cs)
 | .arr ty ez cs=> .arr ty ez (um f cs)
 | .row ty t l=> .row ty t l
 | .fam ty ity t L ov=> .fam ty ity t L (ov.map λq=>(q.1,q.2.ren f))
 | .mp ks=> .mp ks
def qF:SOb->Bool
 | .box ty _=> !(bZ ty 0)
 | .fam _ _ _ _ ov=>ov.isEmpty
 | .arr _ ez _=> !(bZ ez 0)
 |_=>aE
def Zt{m:Rf}{f:Nat->Nat}(hm:yZ m f)(k:Nat){o:SOb}(ho:qF o=aE):sm m ((o.ren f).ob (f k)) (o.ob k):=by
 cases o with
 |box ty cs=>exact⟨rfl,rfl,vX hm cs⟩
 |arr ty ez cs=>exact⟨rfl,rfl,vX hm cs⟩
 |row ty t l=>exact⟨rfl,rfl,lm m _⟩
 |mp ks=>refine⟨rfl,rfl,?_⟩;show iK m (ic (iz ks)) (ic (iz ks));rw[vR];exact lm m _
 |fam ty ity t L ov=>
  have:ov=[] :=Lp.1 ho;subst this;refine⟨rfl,rfl,xY _ _ _ λi _=> ?_⟩;exact .inl ⟨_,hm k (i+1),rfl⟩
def ul(x:Nat)(ob:SOb):List (Nat×Option Ob):=(aa x,aD (ob.ob x))::match ob with
 | .fam _ ity t L _=>(bT (aA L)).map λa=>(inn x (a+1),aD ⟨ity,t.w,(t.enc (L.getD a [])).map .p⟩)
 |_=>[]
def NP{α:Type}{g0:Nat->Nat}(hg:∀a b,g0 a=g0 b->a=b)(h0:Nat->α):∀(l:List Nat) (a:Nat),(l.map λi=>(g0 i,h0 i)).lookup (g0 a)=if a∈l then aD (h0 a)else aM
 |[],a=>rfl
 |i::l,a=>by
  rw[dU,eZ,NP hg h0 l a];grind
def GH{α:Type}{s:Nat}:∀{l:List (Nat×α)},(∀q∈l,q.1≠s)->l.lookup s=aM
 |[],_=>rfl
 |q::l,h=>aH
def GW{α:Type}{s:Nat}:∀{l r:List (Nat×α)},(l++r).lookup s=(match l.lookup s with|some x=>aD x|none=>r.lookup s)
 |[],r=>rfl
 |q::l,r=>aH
variable{ob:SOb}
def aCb(ho:qF ob=aE)(a:Nat):ob.inner a=(match ob with| .fam _ ity t L _=>if a<(aA L) then aD ⟨ity,t.w,(t.enc (L.getD a [])).map .p⟩else aM|_=>aM):=by
 cases ob<;>try rfl
 rename_i ty ity t L ov;have:ov=[] :=Lp.1 ho;subst this;show((L[a]?).map λl=>(⟨ity,t.w,(t.enc l).map .p⟩:Ob))=_;grind
def ZX(x y:Nat)(ob:SOb):(ul x ob).lookup (aa y)=if y=x then aD (aD (ob.ob x))else aM:=by
 unfold ul;rw[eZ];by_cases e:y=x
 .grind
 .rw[beq_eq_false_iff_ne.2 (λh=>e (nV h)),if_neg e];refine GH λq hq=> ?_;split at hq
  .obtain⟨a,_,rfl⟩:=bn.1 hq;exact λh=>by have:=(gZ h).2;omega
  .cases hq
def aBq(x y a:Nat)(ho:qF ob=aE):(ul x ob).lookup (inn y (a+1))=if y=x then(ob.inner a).map aD else aM:=by
 have e0:inn y (a+1)≠aa x:=λh=>by have:=(gZ h).2;omega
 rw[aCb ho a];unfold ul;rw[eZ,beq_eq_false_iff_ne.2 e0];cases ob with
 |fam ty ity t L ov=>
  by_cases e:y=x
  .subst e;rw[if_pos rfl,NP (g0:=λa=>inn y (a+1)) (λa b h=>by have:=(gZ h).2;omega)];grind
  .rw[if_neg e];refine GH λq hq=> ?_;obtain⟨b,_,rfl⟩:=bn.1 hq;exact λh=>e (gZ h).1.symm
 |_=>dsimp only;split<;>rfl
def aDb(x:Nat)(ob:SOb){s:Nat}(h:∀x a,s≠inn x a):(ul x ob).lookup s=aM:=by
 refine GH λq hq=> ?_;rcases bO.1 hq with rfl|hq
 .exact λe=>h x 0 e.symm
 grind
def sk(W:List (Nat×SOb)):List (Nat×Option Ob):=W.flatMap λq=>ul q.1 q.2
def zX(y:Nat):∀W:List (Nat×SOb),(sk W).lookup (aa y)=(W.lookup y).map λob=>aD (ob.ob y)
 |[] =>rfl
 |q::W=>by
  unfold sk;rw[fw,GW,ZX,eZ];by_cases e:y=q.1
  .grind
  .rw[if_neg e,beq_eq_false_iff_ne.2 e];exact zX y W
def zq(y a:Nat):∀{W:List (Nat×SOb)},(∀q∈W,qF q.2=aE)->(W.map (·.1)).Nodup->(sk W).lookup (inn y (a+1))=((W.lookup y).bind (SOb.inner a)).map aD
 |[],_,_=>rfl
 |q::W,h,hn=>by
  rw[dU,List.nodup_cons]at hn;have ih:=zq y a (W:=W) aH hn.2;unfold sk;rw[fw,GW,aBq _ _ _ aH,eZ];by_cases e:y=q.1
  .rw[if_pos e,beq_iff_eq.2 e];have hno:W.lookup y=aM:=aH;cases hi:q.2.inner a with
   |some ob=>simp[hi]
   |none=>
    have ih':(mL (λq=>ul q.1 q.2) W).lookup (inn y (a+1))=aM:=by have:=ih;unfold sk at this;rw[this,hno];rfl
    grind
  .rw[if_neg e,beq_eq_false_iff_ne.2 e];exact ih
def AD{s:Nat}(h:∀x a,s≠inn x a):∀W:List (Nat×SOb),(sk W).lookup s=aM
 |[] =>rfl
 |q::W=>by
  unfold sk;rw[fw,GW,aDb _ _ h];exact AD h W
def Ml(W:List (Nat×SOb))(y:Nat):((W.map λq=>(q.1,aD q.2)).lookup y:Option (Option SOb))=(W.lookup y).map aD:=by
 induction W with
 |nil=>rfl
 |cons q W ih=>
  grind
variable{σ:Sg}
def bw.news{W:List (Nat×SOb)}(hW:∀q∈W,qF q.2=aE)(hn:(W.map (·.1)).Nodup)(hσ:∀q∈W,σ q.1=aM):bw σ [] (W.map λq=>(q.1,aD q.2)) [] (sk W):=by
 refine⟨λs hs=>aH,λs hs=> ?_,?_⟩
 .obtain⟨⟨t,ob⟩,hq,rfl⟩:=bn.1 hs;obtain⟨q,hq1,hq2⟩:=dL.1 hq;have:cls t=ncl q.1:=by
   unfold ul at hq2;rcases bO.1 hq2 with e|hq2
   .cases e;exact gm _ 0
   .split at hq2
    .obtain⟨a,_,e⟩:=bn.1 hq2;cases e;exact gm _ _
    .cases hq2
  grind
 .funext s
  unfold bM;rcases mN s with⟨y,rfl⟩|⟨y,b,rfl⟩|hns
  .rw[Sg.ct,Sg.ct,zX];unfold ag.up;rw[Ml];cases hl:W.lookup y with
   |none=>rfl
   |some ob=>rfl
  .rw[Sg.iB,Sg.iB,zq y b hW hn];unfold ag.up;rw[Ml];cases hl:W.lookup y with
   |none=>rfl
   |some ob=>
    show(match((SOb.inner b ob).map aD:Option (Option Ob))with|some x=>x|none=>(σ y).bind (SOb.inner b))=SOb.inner b ob;cases hi:SOb.inner b ob with
    |some o=>rfl
    |none=>grind
  .rw[Sg.lZ _ hns,Sg.lZ _ hns,AD hns]
def mu(n y:Nat):Nat:=n+NM*(y+1)
def muR(n:Nat):Rf:=λs=>if inn (nm s) (sub s)=s then(if mu n (nm s/NM-1)=nm s then aD (aD (inn (nm s/NM-1) (sub s)))else aM)else aM
variable{n:Nat}
def Jp(hn:n<NM)(y:Nat):mu n y/NM-1=y:=by unfold mu;rw[Nat.add_mul_div_left _ _ aH,Nat.div_eq_of_lt hn];omega
def TZ(hn:n<NM)(y:Nat):ncl (mu n y)=n:=by unfold ncl mu;rw[Nat.add_mul_mod_self_left,Nat.mod_eq_of_lt hn]
def aEZ{y z:Nat}(hn:n<NM)(h:mu n y=mu n z):y=z:=by rw[<-Jp hn y,h,Jp hn z]
def Cr(hn:n<NM):yZ (muR n) (mu n):=by intro y a;unfold muR;rw[vo,vf,if_pos rfl,Jp hn,if_pos rfl]
def IC{s:Nat}{x:Option Nat}(h:muR n s=aD x):∃y a,s=inn (mu n y) a/\x=aD (inn y a):=by
 unfold muR at h;split at h
 .rename_i h1;split at h
  .rename_i h2;cases h;grind
  .cases h
 .cases h
def ye:List Nat->Nat->Bool
 |[],_=>aK
 |x::l,s=>match bZ s x with|true=>aE|false=>ye l s
def DF{s:Nat}:∀{l:List Nat},ye l s=aK->s∉l
 |[],_=>List.not_mem_nil
 |x::l,h=>by
  unfold ye at h;cases hb:bZ s x with
  |true=>grind
  |false=>
   rw[hb]at h;intro hm;rcases bO.1 hm with rfl|hm
   .simp_all
   .exact DF h hm
def EP(σ:Sg)(n:Nat):ag->Option (List (Nat×SOb))
 |[] =>aD []
 |(y,aD ob)::W=>(match qF ob,σ (mu n y),ye (W.map (·.1)) y,EP σ n W with
  |true,aM,aK,aD l=>aD ((mu n y,ob.ren (mu n))::l)
  |_,_,_,_=>aM)
 |_::_=>aM
def aBG{f:Nat->Nat}(h:qF ob=aE):qF (ob.ren f)=aE:=by
 cases ob<;>first|exact h|skip
 rename_i ty ity t L ov;have:ov=[] :=Lp.1 h;subst this;rfl
def Zs{f:Nat->Nat}(h:qF ob=aE)(a:Nat):(ob.ren f).inner a=ob.inner a:=by
 cases ob<;>first|rfl|skip
 rename_i ty ity t L ov;have:ov=[] :=Lp.1 h;subst this;rfl
def M2{σ:Sg}{n:Nat}(hn:n<NM):∀{W:ag} {l:List (Nat×SOb)},EP σ n W=aD l->
  (∀q∈l,qF q.2=aE/\σ q.1=aM)/\(l.map (·.1)).Nodup/\l.map (·.1)=W.map (λq=>mu n q.1)/\∀z obr,l.lookup z=aD obr->∃y ob,z=mu n y/\obr=ob.ren (mu n)/\qF ob=aE/\ag.at W y=aD ob
 |[],l,h=>by cases h;grind
 |(y,aM)::W,l,h=>by cases h
 |(y,aD ob)::W,l,h=>by
  unfold EP at h;split at h<;>cases h;rename_i l' h1 h2 h3 h4;obtain⟨g1,g2,g3,g4⟩:=M2 hn h4;have hy:=DF h3;have hnot:mu n y∉l'.map (·.1):=by rw[g3];intro hm;obtain⟨q,hq,e⟩:=bn.1 hm;exact hy (by rw[<-aEZ hn e];grind)
  refine⟨λq hq=> ?_,?_,?_,?_⟩
  .rcases bO.1 hq with rfl|hq
   .exact⟨aBG h1,h2⟩
   grind
  .grind
  .grind
  .intro z obr hz;rw[eZ]at hz;by_cases e:z=mu n y
   .rw[beq_iff_eq.2 e]at hz;cases hz;exact⟨y,ob,e,rfl,h1,by unfold ag.at;simp_all⟩
   .rw[beq_eq_false_iff_ne.2 e]at hz;obtain⟨y2,ob2,k1,k2,k3,k4⟩:=g4 z obr hz;unfold ag.at;have:bZ y2 y=aK:=by
     cases hb:bZ y2 y with
     |false=>rfl
     |true=>simp_all
    grind
def yh:SV->Option Nat
 | .fnp f [] [] =>aD f
 |_=>aM
def KB(X:Cx)(n:Nat)(σ:Sg)(fv:SV)(xs:List SV):SR:=match yh fv with
 |none=>aM
 |some f=>(match X.T f with
  |some ⟨_,dec,pre,.tree res obs⟩=>(match bm (avs xs),dec xs,jt n NM with
   |some _,aD x,aE=>(match EP σ n (obs x)with
    |some l=>aD (pre x,(res x).ren (mu n),[],l.map λq=>(q.1,aD q.2))
    |none=>aM)
   |_,_,_=>aM)
  |_=>aM)
def Di{fv:SV}{f:Nat}(h:yh fv=aD f):fv.av= .p (.fn (.func f) [] []):=by unfold yh at h;split at h<;>cases h;rfl
def pT(P:Program)(n:Nat)(o:Oper)(E:SE)(σ:Sg)(R:SR):Prop:=
 ∀ps r rd W,R=aD (ps,r,rd,W)->(∀p∈ps,p)->(∃R' W',bq P o E.a σ.a n r.av R' W'/\bw σ rd W R' W')/\r.ok
variable{X:Cx}{o:Oper}{E:SE}{c:Call}{f:Operand}
def aBj(hX:X.Ok)(ho:o.op= .call c)(hc:c.callee= .value f):pT X.P n o E σ (yS (KB X n σ (E f) (c.args.toList.map E))):=by
 intro ps r rd W h hp;obtain⟨h,hr⟩:=Gd h;refine⟨?_,hr⟩;unfold KB at h;split at h
 .cases h
 rename_i fid hf;split at h
 case h_2=>cases h
 rename_i Y dec pre res obs hT;split at h
 case h_2=>cases h
 rename_i A' x hA' hx hn;split at h<;>cases h;rename_i l hl;have hn:n<NM:=rh hn;obtain⟨A,h1,h2⟩:=hX.1 fid _ hT _ x hx hp;obtain⟨g1,g2,g3,g4⟩:=M2 hn hl;have avl:avs (c.args.toList.map E)=c.args.toList.map E.a:=by rw[kQ,du];rfl
 refine⟨[],sk l,?_,bw.news aH g2 aH⟩;have hinner:∀{ob:SOb} {a:Nat} {o':Ob},ob.inner a=aD o'->∃(ity:TypeId) (wd:Nat) (q:List PV),wd≠0/\o'=⟨ity,wd,q.map .p⟩:=by
  intro ob a o' hi;cases ob<;>try (cases hi;done)
  rename_i ty ity t L ov;unfold SOb.inner at hi;dsimp only at hi;split at hi
  .cases hi
  .cases hL:L[a]? with
   |none=>grind
   |some r=>rw[hL]at hi;cases hi;exact⟨ity,t.w,_,qX t.mS,rfl⟩
 have hcls:∀z∈l.map (·.1),ncl z=n:=by intro z hz;rw[g3]at hz;obtain⟨q,_,rfl⟩:=bn.1 hz;exact TZ hn _
 refine aAQ (A:=A) (m1:=muR n) ho hc (by exact Di hf) (by rw[<-avl,h1,eW]) h2 ?_ ?_ ⟨?_,?_⟩ ?_ (RJ (Cr hn) _)
 .intro s x hs;obtain⟨y,a,rfl,_⟩:=IC hs;rw[gm,TZ hn]
 .intro s hs;rcases mN s with⟨z,rfl⟩|⟨z,b,rfl⟩|hno
  .rw[zX]at hs|-;refine⟨by rw[show cls (aa z)=ncl z from gm z 0];grind,?_⟩;cases hl2:l.lookup z with
   |none=>grind
   |some ob=>simp
  .rw[zq z b aH g2]at hs|-;refine⟨by rw[gm];grind,?_⟩;cases(l.lookup z).bind (SOb.inner b)<;>simp
  .exact absurd (AD hno l) hs
 .intro s s' o1 e1 e2;obtain⟨y,a,rfl,k1⟩:=IC e1;obtain⟨y',a',rfl,k2⟩:=IC e2;rw[pi k1]at k2;obtain⟨rfl,rfl⟩:=gZ (pi k2);rfl
 .intro s ob' hs;dsimp only at hs;rcases mN s with⟨z,rfl⟩|⟨z,b,rfl⟩|hno
  .rw[zX]at hs;cases hl2:l.lookup z with
   |none=>grind
   |some obr=>
    rw[hl2]at hs;cases hs;obtain⟨y,ob,rfl,rfl,k3,k4⟩:=g4 z obr hl2;rw[(Cr hn).n y];exact⟨ob.ob y,by rw[Sg.ct,k4];rfl,Zt (Cr hn) y k3⟩
  .rw[zq z b aH g2]at hs;cases hl2:l.lookup z with
   |none=>grind
   |some obr=>
    rw[hl2]at hs;obtain⟨y,ob,rfl,rfl,k3,k4⟩:=g4 z obr hl2;have hs:((SOb.inner b (ob.ren (mu n))).map aD).join=aD ob':=hs;rw[Zs k3]at hs;cases hi:ob.inner b with
    |none=>grind
    |some o'=>
     rw[hi]at hs;cases hs;rw[Cr hn y (b+1)];refine⟨ob',by rw[Sg.iB,k4];exact hi,?_⟩;obtain⟨ity,wd,q,_,rfl⟩:=hinner hi;exact⟨rfl,rfl,lm _ q⟩
  .rw[AD hno]at hs;cases hs
 .intro s ob' hs;rcases mN s with⟨z,rfl⟩|⟨z,b,rfl⟩|hno
  .rw[zX]at hs;cases hl2:l.lookup z with
   |none=>grind
   |some obr=>
    rw[hl2]at hs;cases hs;obtain⟨y,ob,rfl,rfl,k3,k4⟩:=g4 z obr hl2;cases ob with
    |box ty cs=>
     intro⟨_,e⟩;subst e;cases k3
    |arr ty ez cs=>
     intro⟨e,_⟩;subst e;cases k3
    |row ty t l=>intro⟨e,_⟩;exact absurd e (qX t.mS)
    |fam ty ity t L ov=>intro⟨e,_⟩;cases e
    |mp ks=>intro⟨_,e⟩;cases e
  .rw[zq z b aH g2]at hs;cases hb:(l.lookup z).bind (SOb.inner b)with
   |none=>grind
   |some o'=>
    rw[hb]at hs;obtain⟨ob,_,hi⟩:=Option.bind_eq_some_iff.1 hb;grind
  .rw[AD hno]at hs;cases hs
def mV(f:SV->Option SV):List SV->Option (List SV)
 |[] =>aD []
 |x::l=>(match f x,mV f l with|some y,aD m=>aD (y::m)|_,_=>aM)
def mw:Nat->Sg->SV->Option SV
 |_,_,.nil=>aD (.sl 0 [])
 |_,_,.own .. =>aD .junk
 |_,_,.owns .. =>aD .junk
 |_,_,.ownx .. =>aD .junk
 |_,_,.owF .. =>aD .junk
 |_,_,.ownf .. =>aD .junk
 |_,_,.any=>aD .junk
 |0,_,.ptr .. =>aD .junk
 |d+1,σ,.ptr s off=>(match σ s with
  |some (.box _ cs)=>(match mV (mw d σ) cs with|some m=>aD (.pro m off)|none=>aM)
  |_=>aM)
 |d+1,σ,.agg l=>(match mV (mw d σ) l with|some m=>aD (.agg m)|none=>aM)
 |d+1,σ,.fn f a b=>(match mV (mw d σ) a,mV (mw d σ) b with|some x,aD y=>aD (.fnp f x y)|_,_=>aM)
 |_,_,x=>(match x.av with| .p _=>aD x|_=>aM)
def jX:Nat->Sg->SV->List Nat
 |0,_,_=>[]
 |d+1,σ,.ptr s _=>s::(match σ s with|some (.box _ cs)=>bl (jX d σ) cs|_=>[])
 |d+1,σ,.agg l=>bl (jX d σ) l
 |d+1,σ,.fn _ a b=>bl (jX d σ) a++bl (jX d σ) b
 |_,_,_=>[]
def Iv(d:Nat)(σ:Nat->Option Ob)(x:PV):jJ d σ (.p x)=aD x:=by cases d<;>rfl
def Si(d:Nat)(σ:Nat->Option Ob):∀l:List PV,fM (jJ d σ) (l.map .p)=aD l
 |[] =>rfl
 |x::l=>by simp only[dU,fM,Iv,Si d σ l]
def I1(d:Nat)(σ:Nat->Option Ob)(x:PV):iM d σ (.p x)=[] :=by cases d<;>rfl
def SB(d:Nat)(σ:Nat->Option Ob):∀l:List PV,bl (iM d σ) (l.map .p)=[]
 |[] =>rfl
 |x::l=>by simp only[dU,bl,I1,SB d σ l,List.append_nil]
def XR{d:Nat}{x:SV}{y:SV}(h:(match x.av with| .p _=>aD x|_=>aM)=aD y):(∃q,jJ d σ.a x.av=aD q/\y.av= .p q)/\iM d σ.a x.av=[] :=by split at h<;>cases h;rename_i q e;rw[e];exact⟨⟨q,Iv _ _ _,rfl⟩,I1 _ _ _⟩
def NA{d:Nat}{x:SV}{y:SV}(h:(match x.av with| .p _=>aD x|_=>aM)=aD y)(hr:jX d σ x=[]):(∃q,jJ d σ.a x.av=aD q/\y.av= .p q)/\iM d σ.a x.av=(jX d σ x).map aa:=by rw[hr];exact XR h
def JOk(d:Nat)(σ:Sg):Prop:=∀x y,mw d σ x=aD y->(∃q,jJ d σ.a x.av=aD q/\y.av= .p q)/\iM d σ.a x.av=(jX d σ x).map aa
def sH{d:Nat}{σ:Sg}(hf:JOk d σ):∀{l m:List SV},mV (mw d σ) l=aD m->(∃q,fM (jJ d σ.a) (avs l)=aD q/\avs m=q.map .p)/\bl (iM d σ.a) (avs l)=(bl (jX d σ) l).map aa
 |[],m,h=>by cases h;exact⟨⟨[],rfl,rfl⟩,rfl⟩
 |x::l,m,h=>by
  unfold mV at h;split at h<;>cases h;rename_i y m' h1 h2;obtain⟨⟨u,e1,e2⟩,e3⟩:=hf x y h1;obtain⟨⟨v,e4,e5⟩,e6⟩:=sH hf h2;refine⟨⟨u::v,?_,by rw[avs,e2,e5];rfl⟩,?_⟩
  .rw[avs,fM,e1,e4]
  .rw[avs,bl,bl,e3,e6,dV]
def Ch:∀d:Nat,JOk d σ:=by
 intro d;induction d with
 |zero=>
  intro x y h;cases x<;>first
   |(change aD (SV.sl 0 [])=aD y at h;cases h;exact⟨⟨.sl 0 [],rfl,rfl⟩,rfl⟩)
   |(change aD SV.junk=aD y at h;cases h;exact⟨⟨.junk,rfl,rfl⟩,rfl⟩)
   |exact NA h rfl
 |succ d ih=>
  intro x y h;cases x with
  |nil=>cases h;exact⟨⟨.sl 0 [],rfl,rfl⟩,rfl⟩
  |own s t n=>cases h;exact⟨⟨.junk,rfl,rfl⟩,rfl⟩
  |owns s t o n=>cases h;exact⟨⟨.junk,rfl,rfl⟩,rfl⟩
  |ownx s n=>cases h;exact⟨⟨.junk,rfl,rfl⟩,rfl⟩
  |owF s n=>cases h;exact⟨⟨.junk,rfl,rfl⟩,rfl⟩
  |ownf s t a n=>cases h;exact⟨⟨.junk,rfl,rfl⟩,rfl⟩
  |any=>cases h;exact⟨⟨.junk,rfl,rfl⟩,rfl⟩
  |ptr s off=>
   change (match σ s with|some (.box _ cs)=>(match mV (mw d σ) cs with|some m=>aD (SV.pro m off)|none=>aM)|_=>aM)=_ at h;split at h
   case h_2=>cases h
   rename_i ty cs hs;split at h<;>cases h;rename_i m hm;obtain⟨⟨q,e1,e2⟩,e3⟩:=sH ih hm;have e0:Sg.a σ (aa s)=aD ⟨ty,0,avs cs⟩:=by rw[Sg.ct,hs];rfl
   refine⟨⟨.pro q off,?_,by show(match bm (avs m)with|some q=>AV.p (.pro q off)|none=> .any)=_;rw[e2,eW]⟩,?_⟩
   .show jJ (d+1) (Sg.a σ) (.ptr (aa s) off)=_;unfold jJ;grind
   .show iM (d+1) (Sg.a σ) (.ptr (aa s) off)=_;unfold iM jX;grind
  |agg l=>
   change (match mV (mw d σ) l with|some m=>aD (SV.agg m)|none=>aM)=_ at h;split at h<;>cases h;rename_i m hm;obtain⟨⟨q,e1,e2⟩,e3⟩:=sH ih hm;refine⟨⟨.agg q,?_,by show fg (avs m)=_;rw[e2,vL]⟩,?_⟩
   .show jJ (d+1) (Sg.a σ) (fg (avs l))=_;unfold fg;cases hq:bm (avs l)with
    |some q'=>
     rw[kN hq,Si]at e1;cases e1;exact Iv _ _ _
    |none=>unfold jJ;rw[e1];rfl
   .show iM (d+1) (Sg.a σ) (fg (avs l))=(bl (jX d σ) l).map aa;rw[<-e3];unfold fg;cases hq:bm (avs l)with
    |some q'=>rw[kN hq,SB];exact I1 _ _ _
    |none=>rfl
  |fn f a b=>
   change (match mV (mw d σ) a,mV (mw d σ) b with|some x,aD y=>aD (SV.fnp f x y)|_,_=>aM)=_ at h;split at h<;>cases h;rename_i x y h1 h2;obtain⟨⟨u,e1,e2⟩,e3⟩:=sH ih h1;obtain⟨⟨v,e4,e5⟩,e6⟩:=sH ih h2;refine⟨⟨.fn (.func f) u v,?_,by show(match bm (avs x),bm (avs y)with|some x,aD y=>AV.p (.fn (.func f) x y)|_,_=> .any)=_;rw[e2,e5,eW,eW]⟩,?_⟩
   .show jJ (d+1) (Sg.a σ) (.fn (.func f) (avs a) (avs b))=_;unfold jJ;grind
   .show bl (iM d σ.a) (avs a)++bl (iM d σ.a) (avs b)=(bl (jX d σ) a++bl (jX d σ) b).map aa;grind
  |_=>exact NA h rfl
def Mk(l:List Nat):inC (l.map aa) (l.map ncl):=by intro s hs;obtain⟨x,hx,rfl⟩:=bn.1 hs;rw[show cls (aa x)=ncl x from gm x 0];grind
def ug:LT->Bool
 | .R| .Q=>aK
 |_=>aE
def HR{t:LT}(h:ug t=aE)(l:List t.ty):(t.enc l).all flat1=aE:=by
 refine cC.2 λx hx=> ?_;obtain⟨e,_,hx⟩:=dL.1 hx;cases t<;>first|(cases h;done)|skip
 all_goals (simp[LT.rowP]at hx;rcases hx with rfl|rfl|rfl|rfl<;>rfl)
def bw.rset{z a:Nat}{ty ity:TypeId}{lt:LT}{L:List (List lt.ty)}{ov:List (Nat×SV)}{l':List lt.ty}{rd R:List Nat}(hs:σ z=aD (.fam ty ity lt L ov))(ho:ov.lookup a=aM)(ha:a<aA L)(hl:aA l'=aA (L.getD a []))(hR:inC R (rd.map ncl)):
  bw σ rd [(z,aD (.fam ty ity lt (L.set a l') ov))] R [(inn z (a+1),aD ⟨ity,lt.w,(lt.enc l').map .p⟩)] :=by
 refine⟨hR,λs hm=> ?_,?_⟩
 .have hm:s=inn z (a+1):=by simpa using hm
  subst hm;rw[gm];grind
 .funext s
  unfold bM;rcases mN s with⟨y,rfl⟩|⟨y,b,rfl⟩|hno
  .rw[Sg.ct,Sg.ct,eZ,beq_eq_false_iff_ne.2 (show aa y≠inn z (a+1)from λh=>by have:=(gZ h).2;omega)];unfold ag.up;rw[eZ];by_cases e:y=z
   .subst e;rw[beq_iff_eq.2 rfl,hs];show aD (⟨ty,1,_⟩:Ob)=aD ⟨ty,1,_⟩
    congr 2
    rw[Bv];unfold kE;grind
   grind
  .rw[Sg.iB,Sg.iB,eZ];unfold ag.up;rw[eZ];by_cases e:y=z
   .subst e;rw[beq_iff_eq.2 rfl,hs];by_cases hb:b=a
    .subst hb;rw[beq_iff_eq.2 rfl];unfold SOb.inner;grind
    .rw[beq_eq_false_iff_ne.2 (show inn y (b+1)≠inn y (a+1)from λh=>hb (by have:=(gZ h).2;omega))];unfold SOb.inner;grind
   .rw[beq_eq_false_iff_ne.2 e,beq_eq_false_iff_ne.2 (show inn y (b+1)≠inn z (a+1)from λh=>e (gZ h).1)];rfl
  .rw[Sg.lZ _ hno,Sg.lZ _ hno,eZ,beq_eq_false_iff_ne.2 (hno z (a+1))];rfl
def KD(X:Cx)(n:Nat)(σ:Sg)(fv:SV)(xs:List SV):SR:=match yh fv with
 |none=>aM
 |some f=>(match X.T f with
  |some ⟨_,dec,pre,.rowB t ty l'⟩=>(match xs with
   | .own s _ m::rest=>(match σ s,mV (mw 3 σ) rest,frs σ n,ye (bl (jX 3 σ) rest) s with
     |some (.row ty' t' l),aD bs,aE,aK=>(match decEq t' t,bZ ty' ty with
      | .isTrue h,aE=>(match dec (.lst t (h▸l)::bs)with
        |some x=>aD ((m=aA l)::(0<m)::pre x,.own n t (aA (l' x)),s::bl (jX 3 σ) rest,[(s,aM),(n,aD (.row ty t (l' x)))])
        |none=>aM)
      |_,_=>aM)
     |_,_,_,_=>aM)
   | .ownf z _ a m::rest=>(match σ z,mV (mw 3 σ) rest,frs σ n with
     |some (.fam tyo ity t' L ov),aD bs,aE=>(match decEq t' t,bZ ity ty with
      | .isTrue h,aE=>(match dec (.lst t ((h▸L:List (List t.ty)).getD a [])::bs)with
        |some x=>aD ((a<aA L)::(m=aA (L.getD a []))::(0<m)::(pO ov a++pre x),.own n t (aA (l' x)),z::bl (jX 3 σ) rest,[(z,aD (.fam tyo ity t' L ((a,.ownf z t' a m)::ov))),(n,aD (.row ty t (l' x)))])
        |none=>aM)
      |_,_=>aM)
     |_,_,_=>aM)
   |_=>aM)
  |_=>aM)
def aCP(x:SV)(l:List SV):avs (x::l)=x.av::avs l:=rfl
def aBm(hX:X.Ok)(ho:o.op= .call c)(hc:c.callee= .value f):pT X.P n o E σ (KD X n σ (E f) (c.args.toList.map E)):=by
 intro ps r rd W h hp;unfold KD at h;split at h
 .cases h
 rename_i fid hf;split at h
 case h_2=>cases h
 rename_i Y dec pre t ty l' hT;have hfv:E.a f= .p (.fn (.func fid) [] []):=Di hf;have avl:c.args.toList.map E.a=avs (c.args.toList.map E):=by rw[kQ,du];rfl
 have hC:=hX.1 fid _ hT;split at h
 .rename_i s lt m rest hxs;split at h
  case h_2=>cases h
  rename_i ty' t' l bs hs hbs hfr hmem;split at h
  case h_2=>cases h
  rename_i ht hty hb;subst ht;split at h<;>cases h;rename_i x hx;have hb:=eL hb;subst hb;have e1:m=aA l:=hp _ aH;have e2:0<m:=hp _ aH;obtain⟨A,h1,h2⟩:=hC l bs x hx aH;obtain⟨⟨q,k1,k2⟩,k3⟩:=sH (Ch 3) hbs;have hqA:q=A:=by have:=congrArg bm (k2.symm.trans h1);rw[eW,eW]at this;cases this;rfl
  subst hqA;obtain⟨hn1,hn2⟩:=o6 hfr;subst e1;refine⟨⟨(s::bl (jX 3 σ) rest).map aa,ag.sto [(s,aM),(n,aD (.row ty' t' (l' x)))],?_,?_⟩,trivial⟩
  rotate_left
  .exact bw.flat (rd:=s::bl (jX 3 σ) rest) (W:=[(s,aM),(n,aD (.row ty' t' (l' x)))]) λq hq=>by
    rcases bO.1 hq with rfl|hq
    .rw[hs];exact⟨rfl,rfl⟩
    .rw[cI.1 hq,hn2];exact⟨rfl,rfl⟩
  have:=O9 (σ:=σ.a) (n:=n) (k:=aA l) (s:=aa s) (rest:=avs rest) (A:=q) ho hc hfv (by rw[avl,hxs];rfl) (by rw[Sg.ct,hs];rfl) (qX t'.mS) e2 k1 (by rw[k3];intro hm;obtain⟨y,hy,e⟩:=bn.1 hm;exact DF hmem (by rw[<-nV e];exact hy)) h2
  rw[k3]at this;show bq _ _ _ _ _ _ (aa s::_) [(aa s,aM),(aa n,aD _)];show bq _ _ _ _ _ (.own (aa n) 0 _) _ _;rw[hn1];exact this
 .rename_i z lt a m rest hxs;split at h
  case h_2=>cases h
  rename_i tyo ity t' L ov bs hs hbs hfr;split at h
  case h_2=>cases h
  rename_i ht hty hb;subst ht;split at h<;>cases h;rename_i x hx;have hb:=eL hb;subst hb;have e0:a<aA L:=hp _ aH;have e1:m=aA (L.getD a []):=hp _ aH;have e2:0<m:=hp _ aH;have hov:ov.lookup a=aM:=vQ λp hq=>hp p aH;obtain⟨A,h1,h2⟩:=hC _ bs x hx (λp hq=>hp p aH);obtain⟨⟨q,k1,k2⟩,k3⟩:=sH (Ch 3) hbs;have hqA:q=A:=by have:=congrArg bm (k2.symm.trans h1);rw[eW,eW]at this;cases this;rfl
  subst hqA;obtain⟨hn1,hn2⟩:=o6 hfr;have hob:Sg.a σ (inn z (a+1))=aD ⟨ity,t'.w,(t'.enc (L.getD a [])).map .p⟩:=by rw[Sg.iB,hs];show SOb.inner a (.fam tyo ity t' L ov)=_;unfold SOb.inner;dsimp only;rw[hov,fY,fQ e0];rfl
  refine⟨⟨inn z (a+1)::bl (iM 3 σ.a) (avs rest),_,?_,bw.take (n:=n) (ob:= .row ity t' (l' x)) hs hov e1 hn2 rfl ?_⟩,trivial⟩
  .have:=O9 (σ:=σ.a) (n:=n) (k:=m) (s:=inn z (a+1)) (rest:=avs rest) (A:=q) ho hc hfv (by rw[avl,hxs];rfl) hob (qX t'.mS) e2 k1 (by rw[k3];intro hm;obtain⟨y,hy,e⟩:=bn.1 hm;have:=(gZ e).2;omega) (by rw[e1];exact h2)
   show bq _ _ _ _ _ (.own (aa n) 0 _) _ [(inn z (a+1),aM),(aa n,aD _)];rw[hn1];exact this
  .intro t ht;rcases bO.1 ht with rfl|ht
   .rw[gm];grind
   .rw[k3]at ht;exact cM _ (Mk _ t ht)
 .cases h
def KC(X:Cx)(σ:Sg)(fv:SV)(xs:List SV):SR:=match yh fv with
 |none=>aM
 |some f=>(match X.T f with
  |some ⟨_,dec,pre,.mutR t ty l'⟩=>(match(match ug t with|true=>xs|false=>[])with
   | .own s _ m::rest=>(match σ s,mV (mw 3 σ) rest,ye (bl (jX 3 σ) rest) s with
     |some (.row ty' t' l),aD bs,aK=>(match decEq t' t,bZ ty' ty with
      | .isTrue h,aE=>(match dec (.lst t (h▸l)::bs)with
        |some x=>aD ((m=aA l)::(0<m)::pre x,.undef,s::bl (jX 3 σ) rest,[(s,aD (.row ty t (l' x)))])
        |none=>aM)
      |_,_=>aM)
     |_,_,_=>aM)
   | .ownf z _ a m::rest=>(match σ z,mV (mw 3 σ) rest with
     |some (.fam tyo ity t' L ov),aD bs=>(match decEq t' t,bZ ity ty with
      | .isTrue h,aE=>(match dec (.lst t ((h▸L:List (List t.ty)).getD a [])::bs)with
        |some x=>aD ((a<aA L)::(m=aA (L.getD a []))::(0<m)::(pO ov a++pre x),.undef,z::bl (jX 3 σ) rest,[(z,aD (.fam tyo ity t ((h▸L:List (List t.ty)).set a (l' x)) ov))])
        |none=>aM)
      |_,_=>aM)
     |_,_=>aM)
   |_=>aM)
  |_=>aM)
def aBl(hX:X.Ok)(ho:o.op= .call c)(hc:c.callee= .value f):pT X.P n o E σ (KC X σ (E f) (c.args.toList.map E)):=by
 intro ps r rd W h hp;unfold KC at h;split at h
 .cases h
 rename_i fid hf;split at h
 case h_2=>cases h
 rename_i Y dec pre t ty l' hT;have hfv:E.a f= .p (.fn (.func fid) [] []):=Di hf;have avl:c.args.toList.map E.a=avs (c.args.toList.map E):=by rw[kQ,du];rfl
 have hC:=hX.1 fid _ hT;have hfl:ug t=aE/\(match ug t with|true=>c.args.toList.map E|false=>[])=c.args.toList.map E\/(match ug t with|true=>c.args.toList.map E|false=>[])=[] :=by
  cases ug t
  .grind
  .grind
 generalize (match ug t with|true=>c.args.toList.map E|false=>[])=ys at h hfl;rcases hfl with⟨hfl,rfl⟩|rfl
 rotate_left
 .cases h
 split at h
 .rename_i s lt m rest hxs;split at h
  case h_2=>cases h
  rename_i ty' t' l bs hs hbs hmem;split at h
  case h_2=>cases h
  rename_i ht hty hb;subst ht;split at h<;>cases h;rename_i x hx;have hb:=eL hb;subst hb;have e1:m=aA l:=hp _ aH;have e2:0<m:=hp _ aH;obtain⟨A,h1,h2⟩:=hC l bs x hx aH;obtain⟨⟨q,k1,k2⟩,k3⟩:=sH (Ch 3) hbs;have hqA:q=A:=by have:=congrArg bm (k2.symm.trans h1);rw[eW,eW]at this;cases this;rfl
  subst hqA;subst e1;refine⟨⟨(s::bl (jX 3 σ) rest).map aa,ag.sto [(s,aD (.row ty' t' (l' x)))],?_,?_⟩,trivial⟩
  rotate_left
  .exact bw.flat (rd:=s::bl (jX 3 σ) rest) (W:=[(s,aD (.row ty' t' (l' x)))]) λq hq=>by rw[cI.1 hq,hs];exact⟨rfl,rfl⟩
  have:=O7 (σ:=σ.a) (n:=n) (k:=aA l) (s:=aa s) (rest:=avs rest) (A:=q) ho hc hfv (by rw[avl,hxs];rfl) (by rw[Sg.ct,hs];rfl) (qX t'.mS) e2 k1 (by rw[k3];intro hm;obtain⟨y,hy,e⟩:=bn.1 hm;exact DF hmem (by rw[<-nV e];exact hy)) (HR hfl _) h2
  rw[k3]at this;exact this
 .rename_i z lt a m rest hxs;split at h
  case h_2=>cases h
  rename_i tyo ity t' L ov bs hs hbs;split at h
  case h_2=>cases h
  rename_i ht hty hb;subst ht;split at h<;>cases h;rename_i x hx;have hb:=eL hb;have e0:a<aA L:=hp _ aH;have e1:m=aA (L.getD a []):=hp _ aH;have e2:0<m:=hp _ aH;have hov:ov.lookup a=aM:=vQ λp hq=>hp p aH;obtain⟨A,h1,h2⟩:=hC _ bs x hx (λp hq=>hp p aH);obtain⟨⟨q,k1,k2⟩,k3⟩:=sH (Ch 3) hbs;have hqA:q=A:=by have:=congrArg bm (k2.symm.trans h1);rw[eW,eW]at this;cases this;rfl
  have hob:Sg.a σ (inn z (a+1))=aD ⟨ity,t'.w,(t'.enc (L.getD a [])).map .p⟩:=by rw[Sg.iB,hs];show SOb.inner a (.fam tyo ity t' L ov)=_;unfold SOb.inner;dsimp only;rw[hov,fY,fQ e0];rfl
  have hlen:aA (l' x)=aA (L.getD a []):=by have:=h2.2.1;rw[t'.wide.length,t'.wide.length]at this;exact Nat.eq_of_mul_eq_mul_right t'.mS this
  refine⟨⟨inn z (a+1)::bl (iM 3 σ.a) (avs rest),_,?_,bw.rset (l':=l' x) hs hov e0 hlen ?_⟩,trivial⟩
  .exact O7 (σ:=σ.a) (n:=n) (k:=m) (s:=inn z (a+1)) (rest:=avs rest) (A:=q) ho hc hfv (by rw[avl,hxs];rfl) hob (qX t'.mS) e2 k1 (by rw[k3];intro hm;obtain⟨y,hy,e⟩:=bn.1 hm;have:=(gZ e).2;omega) (HR hfl _) aH
  .intro t ht;rcases bO.1 ht with rfl|ht
   .rw[gm];grind
   .rw[k3]at ht;exact cM _ (Mk _ t ht)
 .cases h
def EZ:SV->Option (Nat×Nat)
 | .agg l=>LT.P.dec l
 |_=>aM
def mC(k:Nat×Nat):List Int:=[(k.1:Int),(k.2:Int)]
def Pr{x:SV}{k:Nat×Nat}(h:EZ x=aD k):x.av= .p (.agg (nF (mC k))):=by
 unfold EZ at h;split at h
 .have:=LT.A9 h;show fg (avs _)=_;rw[this,vL];rfl
 .cases h
def mW(ks:List (Nat×Nat))(k:Nat×Nat):List (Nat×Nat):=if k∈ks then ks else ks++[k]
def QB{k l:Nat×Nat}(h:mC k=mC l):k=l:=by unfold mC at h;grind
def N6(k:Nat×Nat):∀ks:List (Nat×Nat),rA (iz ks) (mC k) (.p (.bool aK))= .p (.bool (decide (k∈ks)))
 |[] =>rfl
 |l::ks=>by
  show(if mC l=mC k then AV.p (.bool aE)else rA (iz ks) (mC k) (.p (.bool aK)))=_;by_cases e:l=k
  .grind
  .rw[if_neg (λh=>e (QB h)),N6 k ks];grind
def PP(k:Nat×Nat):∀ks:List (Nat×Nat),mA (iz ks) (mC k) (.p (.bool aE))=iz (mW ks k)
 |[] =>rfl
 |l::ks=>by
  show(if mC l=mC k then(mC k,AV.p (.bool aE))::iz ks else(mC l,AV.p (.bool aE))::mA (iz ks) (mC k) (.p (.bool aE)))=_;by_cases e:l=k
  .subst e;rw[if_pos rfl];unfold mW;rw[if_pos aH];rfl
  .rw[if_neg (λh=>e (QB h)),PP k ks];have:k≠l:=λh=>e h.symm;unfold mW;by_cases h2:k∈ks
   .rw[if_pos h2,if_pos aH];rfl
   .rw[if_neg h2,if_neg aH];rfl
def N7{ks:List (Nat×Nat)}(h:ks.Nodup):uw (iz ks):=by unfold uw iz;grind
def PR{ks:List (Nat×Nat)}:∀q∈iz ks,aA q.1=2:=by intro q hq;obtain⟨k,_,rfl⟩:=bn.1 hq;rfl
def smk(X:Cx)(n:Nat)(σ:Sg)(t:TypeId):SR:=match X.mt t,frs σ n with
 |true,aE=>aD ([],.mp n,[],[(n,aD (.mp []))])
 |_,_=>aM
def aEI{t:TypeId}(ho:o.op= .makeMap t aM):pT X.P n o E σ (smk X n σ t):=by intro ps r rd W h hp;unfold smk at h;split at h<;>cases h;rename_i h1 h2;obtain⟨hn1,hn2⟩:=o6 h2;refine⟨⟨[],ag.sto [(n,aD (.mp []))],?_,bw.flat (rd:=[]) (W:=[(n,aD (.mp []))]) λq hq=>by rw[cI.1 hq,hn2];exact⟨rfl,rfl⟩⟩,trivial⟩;have:=Xa (P:=X.P) (E:=E.a) (σ:=σ.a) (n:=n) ho;show bq _ _ _ _ _ (.mp (aa n)) _ [(aa n,aD ⟨1,0,[]⟩)];grind
def KI(X:Cx)(σ:Sg)(t:TypeId)(x i:SV):SR:=match X.mt t,x,EZ i with
 |true,.mp s,aD k=>(match σ s with
  |some (.mp ks)=>aD ([ks.Nodup],.prop (k∈ks) inferInstance,[s],[])
  |_=>aM)
 |_,_,_=>aM
def aBt(hX:X.Ok){t:TypeId}{x i:Operand}(ho:o.op= .lookup t x i aK):pT X.P n o E σ (KI X σ t (E x) (E i)):=by
 intro ps r rd W h hp;unfold KI at h;split at h
 case h_2=>cases h
 rename_i s k hmt hx hi;split at h<;>cases h;rename_i ks hs;obtain⟨kt,et,g1,g2,g3⟩:=hX.2.2 t hmt;have hnd:ks.Nodup:=hp _ aH;refine⟨⟨[s].map aa,[],?_,bw.read σ [s]⟩,trivial⟩;have:=Yb (E:=E.a) (σ:=σ.a) (n:=n) (m:=2) (s:=aa s) (ks:=iz ks) (xs:=mC k) (z:= .p (.bool aK)) (zv:= .bool aK) ho g1 g2 g3 (λρ C=>by rfl) (by show(E x).av=_;rw[hx];rfl) (by exact Pr hi) rfl (by rw[Sg.ct,hs];rfl) PR (N7 hnd);rw[N6]at this;exact this
def Kl(X:Cx)(σ:Sg)(t:TypeId)(x i y:SV):SR:=match X.mt t,x,EZ i,y with
 |true,.mp s,aD k,.lit aE=>(match σ s with
  |some (.mp ks)=>aD ([ks.Nodup],.undef,[s],[(s,aD (.mp (mW ks k)))])
  |_=>aM)
 |_,_,_,_=>aM
def aC7(hX:X.Ok){t:TypeId}{x i y:Operand}(ho:o.op= .mapUpdate t x i y):pT X.P n o E σ (Kl X σ t (E x) (E i) (E y)):=by
 intro ps r rd W h hp;unfold Kl at h;split at h
 case h_2=>cases h
 rename_i s k hmt hx hi hy;split at h<;>cases h;rename_i ks hs;obtain⟨kt,et,g1,g2,g3⟩:=hX.2.2 t hmt;have hnd:ks.Nodup:=hp _ aH;refine⟨⟨[s].map aa,ag.sto [(s,aD (.mp (mW ks k)))],?_,bw.flat (rd:=[s]) (W:=[(s,aD (.mp (mW ks k)))]) λq hq=>by rw[cI.1 hq,hs];exact⟨rfl,rfl⟩⟩,trivial⟩;have:=Wt (E:=E.a) (σ:=σ.a) (n:=n) (m:=2) (s:=aa s) (ks:=iz ks) (xs:=mC k) ho g1 g2 (by show(E x).av=_;rw[hx];rfl) (by exact Pr hi) rfl (by rw[Sg.ct,hs];rfl) PR (N7 hnd);rw[show E.a y= .p (.bool aE)from by show(E y).av=_;rw[hy];rfl,PP]at this;exact this
def orS(a b:SR):SR:=match a with
 |some x=>aD x
 |none=>b
def D9{P:Program}{a b:SR}(ha:pT P n o E σ a)(hb:pT P n o E σ b):pT P n o E σ (orS a b):=by
 intro ps r rd W h hp;cases a with
 |some x=>exact ha ps r rd W h hp
 |none=>exact hb ps r rd W h hp
def KG(X:Cx)(n:Nat)(σ:Sg)(fv:SV)(xs:List SV):SR:=match yh fv with
 |none=>aM
 |some f=>(match X.T f with
  |some ⟨_,dec,pre,.own ty t l ys⟩=>(match mB (mU 3 σ) xs with
   |some (qs,bs)=>(match dec bs,frs σ n,ug t with
    |some x,aE,aE=>(match ys x with
     |[] =>aD (qs++pre x,.own n t (aA (l x)),bl (eQ 3 σ) xs,[(n,aD (.row ty t (l x)))])
     |_=>aM)
    |_,_,_=>aM)
   |none=>aM)
  |_=>aM)
def aBo(hX:X.Ok)(ho:o.op= .call c)(hc:c.callee= .value f):pT X.P n o E σ (KG X n σ (E f) (c.args.toList.map E)):=by
 intro ps r rd W h hp;unfold KG at h;split at h
 .cases h
 rename_i fid hf;split at h
 case h_2=>cases h
 rename_i Y dec pre ty t l ys hT;split at h
 case h_2=>cases h
 rename_i qs bs hbs;split at h
 case h_2=>cases h
 rename_i x hx hfr hfl;split at h<;>cases h;rename_i hys;have avl:c.args.toList.map E.a=avs (c.args.toList.map E):=by rw[kQ,du];rfl
 obtain⟨A,Y2,h1,h2,h3⟩:=hX.1 fid _ hT bs x hx (λp hq=>hp p aH);obtain⟨q,k1,k2⟩:=AZ (λx ps y=>Hw) hbs (λp hq=>hp p aH);have hqA:q=A:=by have:=congrArg bm (k2.symm.trans h1);rw[eW,eW]at this;cases this;rfl
 subst hqA;have hY:Y2=[] :=by
  rw[hys]at h2;cases Y2 with
  |nil=>rfl
  |cons y Y2=>cases h2
 subst hY;obtain⟨hn1,hn2⟩:=o6 hfr;have:=aAT (σ:=σ.a) (n:=n) ho hc (Di hf) (by rw[avl];exact k1) (HR hfl _) h3;rw[avl]at this;refine⟨⟨_,ag.sto [(n,aD (.row ty t (l x)))],?_,⟨uC (RL 3) _,(bw.flat (rd:=[]) (W:=[(n,aD (.row ty t (l x)))]) λq hq=>by rw[cI.1 hq,hn2];exact⟨rfl,rfl⟩).2⟩⟩,trivial⟩;show bq _ _ _ _ _ (.own (aa n) 0 _) _ [(aa n,aD _)];rw[hn1];exact this
def Km(X:Cx)(n:Nat)(o:Op)(E:SE)(σ:Sg):SR:=match o with
 | .call {callee:= .value f,args, .. }=>orS (yS (KB X n σ (E f) (args.toList.map E))) (orS (KD X n σ (E f) (args.toList.map E)) (orS (KC X σ (E f) (args.toList.map E)) (KG X n σ (E f) (args.toList.map E))))
 | .makeMap t aM=>smk X n σ t
 | .lookup t x i aK=>KI X σ t (E x) (E i)
 | .mapUpdate t x i y=>Kl X σ t (E x) (E i) (E y)
 |_=>aM
def aDa(hX:X.Ok):pT X.P n o E σ (Km X n o.op E σ):=by
 generalize ho:o.op=op;unfold Km;split
 .exact D9 (aBj hX ho rfl) (D9 (aBm hX ho rfl) (D9 (aBl hX ho rfl) (aBo hX ho rfl)))
 .exact aEI ho
 .exact aBt hX ho
 .exact aC7 hX ho
 .intro ps r rd W h hp;cases h
def VU(X:Cx)(raw:Bool)(n:Nat)(o:Op)(E:SE)(σ:Sg):SR:=orS (sop X raw n o E σ) (Km X n o E σ)
def aC9(hX:X.Ok){raw:Bool}(hE:∀x,(E x).ok):pT X.P n o E σ (VU X raw n o.op E σ):=by refine D9 ?_ (aDa hX);intro ps r rd W h hp;obtain⟨h1,h2⟩:=aEH hX hE h hp;obtain⟨r',R',W',h3,rfl,h4⟩:=aA0 h1;grind
end
noncomputable section
def kg{P:Program}{N:Nat}{ds:List (Option Nat)}{K K':List AV->Sto->kU->Prop}(hK:∀F L log,K F L log->K' F L log):∀{l:List Oper} {i:Nat} {F:List AV} {L:Sto} {log:kU},fu P N ds l i F L log K->fu P N ds l i F L log K'
 |[],i,F,L,log,h=>by unfold fu at*;grind
 |o::rest,i,F,L,log,h=>by
  unfold fu at*;split at h
  .obtain⟨r,R,W,Rc,Wc,h1,i1,i2,h2⟩:=h;exact⟨r,R,W,Rc,Wc,h1,i1,i2,kg hK h2⟩
  .split at h
   .split at h
    .rename_i e;rw[if_pos e];obtain⟨r,R,W,Rc,Wc,h1,i1,i2,h2⟩:=h;exact⟨r,R,W,Rc,Wc,h1,i1,i2,kg hK h2⟩
    .rename_i e;rw[if_neg e];exact kg hK h
   .exact kg hK h
   .exact h
def wR.mono{P:Program}{o:Oper}{F:List AV}{L:Sto}{N:Nat}{K K':List AV->Sto->Nat->Prop}(hK:∀F L N,K F L N->K' F L N)(h:wR P o F L N K):wR P o F L N K':=
 λC0 B wI a w hS=>CV (h C0 B wI a w hS) aH
def p7{P:Program}:∀(c:Code) {Q Q':rF} (_:∀e F L N,Q e F L N->Q' e F L N) {F:List AV} {L:Sto} {N:Nat},awp P c Q F L N->awp P c Q' F L N:=by
 intro c;induction c with
 |skip=>intro Q Q' hQ F L N h;exact hQ _ _ _ _ h
 |region id ops draw=>
  intro Q Q' hQ F L N h;rcases h with h|⟨hd,pre,o,h1,h2,h3⟩
  rotate_left
  .exact .inr ⟨hd,pre,o,h1,h2,kg (λF L log a=>a.mono aH) h3⟩
  cases draw with
  |true=>obtain⟨anc,h1,h2,h3,h4⟩:=h;exact .inl ⟨anc,h1,h2,h3,kg aH h4⟩
  |false=>obtain⟨h1,h2⟩:=h;exact .inl ⟨h1,kg aH h2⟩
 |seq a b iha ihb=>
  intro Q Q' hQ F L N h;obtain⟨M,h1,h2⟩:=h;refine⟨M,iha ?_ h1,λF L N hm=> ?_⟩
  .grind
  grind
 |cond c t e iht ihe=>
  intro Q Q' hQ F L N h;obtain⟨b,hb,h1,h2⟩:=h;exact⟨b,hb,aH,aH⟩
 |block id c ih=>
  intro Q Q' hQ F L N h;refine ih ?_ h;grind
 |loop c ih=>
  intro Q Q' hQ F L N h;obtain⟨Inv,μ,h1,h2⟩:=h;refine⟨Inv,μ,h1,λF L N hi=>ih ?_ (h2 F L N hi)⟩;grind
 |exit id=>intro Q Q' hQ F L N h;exact hQ _ _ _ _ h
 |ret=>intro Q Q' hQ F L N h;exact hQ _ _ _ _ h
 |rangeFunc f params x y _ _=>intro Q Q' hQ F L N h;exact h.elim
 |scope c ih=>
  intro Q Q' hQ F L N h;refine ih ?_ h;grind
 |label l=>intro Q Q' hQ F L N h;exact hQ _ _ _ _ h
 |goto l=>intro Q Q' hQ F L N h;exact h.elim
 |refuse s=>intro Q Q' hQ F L N h;exact h.elim
def Frm.ok(F:Frm):Prop:=∀t,(F.at t).ok
def aEC(v:Value):(svC v).ok:=by
 unfold svC;split
 .split<;>trivial
 .split<;>trivial
 .unfold svK;split<;>trivial
variable{n:Nat}{F:Frm}
def aCv(h:F.ok)(x:Operand):(wG n F x).ok:=by
 cases x with
 |tmp t=>
  show(match jt t n with|true=>F.at t|false=>SV.any).ok;split
  .exact h t
  .trivial
 |const v=>exact aEC v
 |func f=>trivial
 |global g=>trivial
def Frm.Ra(h:F.ok){d:Nat}{v:SV}(hv:v.ok):Frm.ok ((d,v)::F):=by
 intro t;rw[Frm.n9];split
 .exact hv
 .exact h t
def rH(n:Nat)(F:Frm)(d:Option Nat)(r:SV):Frm:=match d with
 |none=>F
 |some d=>(match jt d n with|true=>(d,r)::F|false=>F)
def lz(a b:Nat):jt a b=aE↔a<b:=jc
def aAV{a b:Nat}(h:jt a b=aK):¬a<b:=λhh=>by rw[(lz a b).2 hh]at h;cases h
variable{d:Option Nat}
def I3{r:SV}:fh (F.av n) d r.av=(rH n F d r).av n:=by
 cases d with
 |none=>rfl
 |some d=>
  unfold rH;dsimp only;split
  .rename_i h;exact Frm.aFl ((lz _ _).1 h)
  .rename_i h;unfold fh;dsimp only;rw[List.set_eq_of_length_le (by rw[Frm.ke];exact Nat.le_of_not_lt (aAV h))]
def Pre(S:Nat->Prop)(F F':Frm):Prop:=∃pre:Frm,F'=pre++F/\∀q∈pre,S q.1
def i8(L L':ag):Prop:=∃pre:ag,L'=pre++L
variable{S:Nat->Prop}
def Pre.rfl:Pre S F F:=⟨[],af,aH⟩
def Pre.trans{G H:Frm}(h1:Pre S F G)(h2:Pre S G H):Pre S F H:=by obtain⟨p,rfl,hp⟩:=h1;obtain⟨q,rfl,hq⟩:=h2;exact⟨q++p,af,aH⟩
def Pre.mono{T:Nat->Prop}{G:Frm}(h1:Pre S F G)(h:∀d,S d->T d):Pre T F G:=by obtain⟨p,e,hp⟩:=h1;exact⟨p,e,aH⟩
def i8.rfl{L:ag}:i8 L L:=⟨[],af⟩
def i8.trans{L M O:ag}(h1:i8 L M)(h2:i8 M O):i8 L O:=by obtain⟨p,rfl⟩:=h1;obtain⟨q,rfl⟩:=h2;exact⟨q++p,af⟩
def H5{r:SV}(h:∀t,d=aD t->S t):Pre S F (rH n F d r):=by
 cases d with
 |none=>exact Pre.rfl
 |some d=>
  unfold rH;dsimp only;split
  .exact⟨[(d,r)],af,aH⟩
  .exact Pre.rfl
def I2{r:SV}(h:F.ok)(hr:r.ok):(rH n F d r).ok:=by
 cases d with
 |none=>exact h
 |some d=>
  unfold rH;dsimp only;split
  .exact Frm.Ra h hr
  .exact h
def rL(X:Cx)(n:Nat)(raw:Bool)(N i:Nat)(o:Oper)(F:Frm)(L:ag)(log:kU)(k:Frm->ag->kU->Fm):Fm:=match VU X raw (N+i) o.op (wG n F) L.at with
 |some (ps,r,R,W)=>uZ ps (k (rH n F o.dst r) (W++L) (log++[(R.map ncl,W.map λ(q:Nat×Option SOb)=>ncl q.1)]))
 |none=> .stuck i
def qS(n:Nat)(o:Oper)(F:Frm)(L:ag)(log:kU)(k:Frm->ag->kU->Fm):Fm:=k (rH n F o.dst .undef) L (log++[([],[])])
def iy(X:Cx)(n:Nat)(raw:Nat->Bool)(N:Nat)(ds:List (Option Nat)):List Oper->Nat->Frm->ag->kU->(Frm->ag->kU->Fm)->Fm
 |[],_,F,L,log,K=>K F L log
 |o::rest,i,F,L,log,K=>match o.guard with
  |none=>rL X n (raw i) N i o F L log λF L log=>iy X n raw N ds rest (i+1) F L log K
  |some (j,want)=>(match(ds[j]?).join with
   |some d=>(match jt d n,F.at d with
    |true,.lit b=>(match b,want with
     |true,aK=>qS n o F L log λF L log=>iy X n raw N ds rest (i+1) F L log K
     |false,aE=>qS n o F L log λF L log=>iy X n raw N ds rest (i+1) F L log K
     |_,_=>rL X n (raw i) N i o F L log λF L log=>iy X n raw N ds rest (i+1) F L log K)
    |true,.undef=>qS n o F L log λF L log=>iy X n raw N ds rest (i+1) F L log K
    |true,.prop p _=> .both
     (.imp p (match want with
       |true=>rL X n (raw i) N i o ((d,.lit aE)::F) L log λF L log=>iy X n raw N ds rest (i+1) F L log K
       |false=>qS n o ((d,.lit aE)::F) L log λF L log=>iy X n raw N ds rest (i+1) F L log K))
     (.imp (¬p) (match want with
       |false=>rL X n (raw i) N i o ((d,.lit aK)::F) L log λF L log=>iy X n raw N ds rest (i+1) F L log K
       |true=>qS n o ((d,.lit aK)::F) L log λF L log=>iy X n raw N ds rest (i+1) F L log K))
    |true,.bool c=> .both
     (.imp (c=aE) (match want with
       |true=>rL X n (raw i) N i o ((d,.lit aE)::F) L log λF L log=>iy X n raw N ds rest (i+1) F L log K
       |false=>qS n o ((d,.lit aE)::F) L log λF L log=>iy X n raw N ds rest (i+1) F L log K))
     (.imp (c=aK) (match want with
       |false=>rL X n (raw i) N i o ((d,.lit aK)::F) L log λF L log=>iy X n raw N ds rest (i+1) F L log K
       |true=>qS n o ((d,.lit aK)::F) L log λF L log=>iy X n raw N ds rest (i+1) F L log K))
    |_,_=> .stuck i)
   |none=> .stuck i)
def Frm.aEo{d:Nat}{v:SV}(h:v.av=(F.at d).av):Frm.av n ((d,v)::F)=F.av n:=by apply lg;intro t _;rw[Frm.n9];grind
def ag.fn(L:ag):Sto:=Sg.a L.at
def jM(n:Nat)(S:Nat->Prop)(F:Frm)(L:ag)(FA:List AV)(LA:Sto)(G:Frm->ag->Prop):Prop:=∃F' L',FA=F'.av n/\LA=L'.fn/\F'.ok/\Pre S F F'/\i8 L L'/\G F' L'
def jM.step{F1:Frm}{L L1:ag}{FA:List AV}{LA:Sto}{G:Frm->ag->Prop}(h1:Pre S F F1)(h2:i8 L L1)(h:jM n S F1 L1 FA LA G):jM n S F L FA LA G:=by obtain⟨F',L',a,b,c,d,e,f⟩:=h;exact⟨F',L',a,b,c,h1.trans d,h2.trans e,f⟩
def AS{X:Cx}(hX:X.Ok){n:Nat}{raw:Nat->Bool}{N:Nat}{ds:List (Option Nat)}{K:Frm->ag->kU->Fm}:
  ∀(l:List Oper) (i:Nat) (F:Frm) (L:ag) (log:kU),(∀o∈l,o.dst∈ds)->F.ok->(iy X n raw N ds l i F L log K).holds->
   fu X.P N ds l i (F.av n) L.fn log λFA LA log'=>jM n (λd=>aD d∈ds) F L FA LA λF' L'=>(K F' L' log').holds
 |[],i,F,L,log,_,hF,h=>by
  unfold fu;exact⟨F,L,rfl,rfl,hF,Pre.rfl,i8.rfl,h⟩
 |o::rest,i,F,L,log,hd,hF,h=>by
  have hd':∀o∈rest,o.dst∈ds:=aH;have hod:∀t,o.dst=aD t->aD t∈ds:=aH;have run:∀F:Frm,F.ok->(rL X n (raw i) N i o F L log λF L log=>iy X n raw N ds rest (i+1) F L log K).holds->
    ∃r R W Rc Wc,bq X.P o (l9 (F.av n)) L.fn (N+i) r R W/\inC R Rc/\inC (W.map (·.1)) Wc/\fu X.P N ds rest (i+1) (fh (F.av n) o.dst r) (bM L.fn W) (log++[(Rc,Wc)]) λFA LA log'=>jM n (λd=>aD d∈ds) F L FA LA λF' L'=>(K F' L' log').holds:=by
   intro F hF h;unfold rL at h;split at h
   .rename_i ps r R W hs;obtain⟨h1,h2⟩:=vH h;obtain⟨⟨R',W',h5,f1,f2,f3⟩,h4⟩:=aC9 hX (aCv hF) _ _ _ _ hs h1;have e1:SE.a (wG n F)=l9 (F.av n):=funext λx=>IU x;rw[e1]at h5;refine⟨r.av,R',W',_,_,h5,f1,f2,?_⟩;have e3:bM L.fn W'=ag.fn (W++L):=by unfold ag.fn;rw[f3,ag.EO]
    rw[I3,e3];exact kg (λ_ _ _=>jM.step (H5 hod) ⟨W,rfl⟩) (AS hX rest (i+1) _ _ _ hd' (I2 hF h4) h2)
   .exact h.elim
  have skip:∀F:Frm,F.ok->(qS n o F L log λF L log=>iy X n raw N ds rest (i+1) F L log K).holds->
    fu X.P N ds rest (i+1) (fh (F.av n) o.dst .undef) L.fn (log++[([],[])]) λFA LA log'=>jM n (λd=>aD d∈ds) F L FA LA λF' L'=>(K F' L' log').holds:=by
   intro F hF h;unfold qS at h;have:=AS hX rest (i+1) _ _ _ hd' (I2 (n:=n) (d:=o.dst) hF (show SV.ok .undef from trivial)) h;rw[<-I3]at this;exact kg (λ_ _ _=>jM.step (H5 hod) i8.rfl) this
  unfold iy at h;unfold fu;split at h
  .grind
  .rename_i j want hg;rw[hg];dsimp only;split at h
   case h_2=>exact h.elim
   rename_i d hdj;have gd:∀F:Frm,d<n->gdA ds (F.av n) j=(match(F.at d).av with| .p (.bool b)=>aD (aD b)| .undef=>aD aM|_=>aM):=by intro F hlt;unfold gdA;rw[hdj];dsimp only;rw[Frm.o8 hlt];rfl
   have split1:∀(b:Bool),d<n->(F.at d).av= .p (.bool b)->(match want with
      |true=>(match b with
       |true=>rL X n (raw i) N i o ((d,.lit aE)::F) L log λF L log=>iy X n raw N ds rest (i+1) F L log K
       |false=>qS n o ((d,.lit aK)::F) L log λF L log=>iy X n raw N ds rest (i+1) F L log K)
      |false=>(match b with
       |true=>qS n o ((d,.lit aE)::F) L log λF L log=>iy X n raw N ds rest (i+1) F L log K
       |false=>rL X n (raw i) N i o ((d,.lit aK)::F) L log λF L log=>iy X n raw N ds rest (i+1) F L log K)).holds->
     (match(gdA ds (F.av n) j:Option (Option Bool))with
       |some (aD b)=>if b=want then∃r R W Rc Wc,bq X.P o (l9 (F.av n)) L.fn (N+i) r R W/\inC R Rc/\inC (W.map (·.1)) Wc/\fu X.P N ds rest (i+1) (fh (F.av n) o.dst r) (bM L.fn W) (log++[(Rc,Wc)]) (λFA LA log'=>jM n (λd=>aD d∈ds) F L FA LA λF' L'=>(K F' L' log').holds)
        else fu X.P N ds rest (i+1) (fh (F.av n) o.dst .undef) L.fn (log++[([],[])]) (λFA LA log'=>jM n (λd=>aD d∈ds) F L FA LA λF' L'=>(K F' L' log').holds)
       |some aM=>fu X.P N ds rest (i+1) (fh (F.av n) o.dst .undef) L.fn (log++[([],[])]) (λFA LA log'=>jM n (λd=>aD d∈ds) F L FA LA λF' L'=>(K F' L' log').holds)
       |none=>False):=by
    intro b hlt hb h;rw[gd F hlt,hb];dsimp only;have e0:∀c,c=b->Frm.av n ((d,.lit c)::F)=F.av n:=λc hc=>Frm.aEo (by rw[hb,hc];rfl);have hpre:∀c,Pre (λd=>aD d∈ds) F ((d,SV.lit c)::F):=λc=>⟨[(d,.lit c)],rfl,aH⟩;have up:∀c FA LA (G:Frm->ag->Prop),jM n (λd=>aD d∈ds) ((d,SV.lit c)::F) L FA LA G->jM n (λd=>aD d∈ds) F L FA LA G:=λc FA LA G=>jM.step (hpre c) i8.rfl;have hok:∀c,Frm.ok ((d,SV.lit c)::F):=λc=>Frm.Ra hF (show SV.ok (.lit c)from trivial);cases want<;>cases b<;>dsimp only at h
    .have:=run _ (hok aK) h;rw[e0 aK rfl]at this;obtain⟨r,R,W,Rc,Wc,h1,i1,i2,h2⟩:=this;exact⟨r,R,W,Rc,Wc,h1,i1,i2,kg aH h2⟩
    .have:=skip _ (hok aE) h;rw[e0 aE rfl]at this;exact kg aH this
    .have:=skip _ (hok aK) h;rw[e0 aK rfl]at this;exact kg aH this
    .have:=run _ (hok aE) h;rw[e0 aE rfl]at this;obtain⟨r,R,W,Rc,Wc,h1,i1,i2,h2⟩:=this;exact⟨r,R,W,Rc,Wc,h1,i1,i2,kg aH h2⟩
   split at h
   .rename_i b hlt hb;have hlt:=(lz _ _).1 hlt;rw[gd F hlt,hb];show(if b=want then _ else _);cases b<;>cases want<;>dsimp only at h
    .grind
    .grind
    .grind
    grind
   .rename_i hlt hb;have hlt:=(lz _ _).1 hlt;rw[gd F hlt,hb];exact skip F hF h
   .rename_i p dec hlt hb;obtain⟨h1,h2⟩:=Fm.xK h;have hlt:=(lz _ _).1 hlt;have hav:(F.at d).av= .p (.bool (@decide p dec)):=by rw[hb];rfl
    by_cases hp:p
    .refine split1 aE hlt aH ?_;have h1:=(h1:p->_) hp;omega
    .have h2:=(h2:¬p->_) hp;grind
   .rename_i c hlt hb;obtain⟨h1,h2⟩:=Fm.xK h;have hlt:=(lz _ _).1 hlt;have hav:(F.at d).av= .p (.bool c):=by rw[hb];rfl
    cases c with
    |true=>
     refine split1 aE hlt hav ?_;have h1:=(h1:(aE=aE)->_) rfl;omega
    |false=>
     have h2:=(h2:(aK=aK)->_) rfl;grind
   .exact h.elim
end
noncomputable section
abbrev Rm:=List (Nat×Option Nat)
def pF:Rm->Nat->Option (Option Nat)
 |[],_=>aM
 |(k,x)::m,s=>match bZ s k with|true=>aD x|false=>pF m s
def rK(f:SV->SV->Option (List Prop×Rm)):List SV->List SV->Option (List Prop×Rm)
 |[],[] =>aD ([],[])
 |x::l,y::r=>(match f x y,rK f l r with
  |some (p,m),aD (q,k)=>aD (p++q,m++k)
  |_,_=>aM)
 |_,_=>aM
def K6:SV->SV->Option (List Prop×Rm)
 | .any,_=>aD ([],[])
 | .undef,.undef=>aD ([],[])
 | .nil,.nil=>aD ([],[])
 | .int k a,.int k' b=>(match decEq k k' with| .isTrue _=>aD ([b=a],[])| .isFalse _=>aM)
 | .bool a,.bool b=>aD ([b=a],[])
 | .bool a,.lit b=>aD ([b=a],[])
 | .bool a,.prop p d=>aD ([@decide p d=a],[])
 | .lit a,.lit b=>aD ([b=a],[])
 | .lit a,.bool b=>aD ([b=a],[])
 | .lit a,.prop p d=>aD ([@decide p d=a],[])
 | .prop p _,.prop q _=>aD ([q↔p],[])
 | .prop p d,.bool b=>aD ([b= @decide p d],[])
 | .prop p d,.lit b=>aD ([b= @decide p d],[])
 | .str a,.str b=>aD ([b=a],[])
 | .lst t l,.lst t' l'=>(match decEq t' t with| .isTrue h=>aD ([(h▸l':List t.ty)=l],[])| .isFalse _=>aM)
 | .lst _ l,.sl 0 [] =>aD ([l=[]],[])
 | .lst t l,.sl n cs=>(match t.decs n cs with|some l'=>aD ([l'=l],[])|none=>aM)
 | .ptr s off,.ptr s' off'=>(match bZ off off' with|true=>aD ([],[(s,aD s')])|false=>aM)
 | .own s t n,.own s' t' n'=>(match decEq t' t with| .isTrue _=>aD ([n'=n],[(s,aD s')])| .isFalse _=>aM)
 | .own s _ n,.ownx s' n'=>aD ([n'=n],[(s,aD s')])
 | .own s _ n,.nil=>aD ([n=0],[(s,aM)])
 | .ownx s n,.ownx s' n'=>(match bZ n n' with|true=>aD ([],[(s,aD s')])|false=>aM)
 | .owF s n,.owF s' n'=>aD ([n'=n],[(s,aD s')])
 | .mp s,.mp s'=>aD ([],[(s,aD s')])
 | .junk,.junk=>aD ([],[])
 |_,_=>aM
def eqv:Nat->SV->SV->Option (List Prop×Rm)
 |d+1,.agg l,.agg r=>rK (eqv d) l r
 |d+1,.tup l,.tup r=>rK (eqv d) l r
 |d+1,.fn f a b,.fn f' a' b'=>(match bZ f f',rK (eqv d) a a',rK (eqv d) b b' with
  |true,aD (p,m),aD (q,k)=>aD (p++q,m++k)
  |_,_,_=>aM)
 |_,x,y=>K6 x y
def l5(m:Rf)(r:Rm):Prop:=∀q∈r,m (aa q.1)=aD (q.2.map aa)
variable{m:Rf}
def l5.left{r k:Rm}(h:l5 m (r++k)):l5 m r:=λq hq=>h q aH
def l5.right{r k:Rm}(h:l5 m (r++k)):l5 m k:=λq hq=>h q aH
def uF{f:SV->SV->Option (List Prop×Rm)}{m:Rf}(hf:∀x y ps r,f x y=aD (ps,r)->(∀p∈ps,p)->l5 m r->iQ m x.av y.av):
  ∀{l k:List SV} {ps:List Prop} {r:Rm},rK f l k=aD (ps,r)->(∀p∈ps,p)->l5 m r->iK m (avs l) (avs k)
 |[],[],ps,r,_,_,_=>by rfl
 |[],_::_,ps,r,h,_,_=>by cases h
 |_::_,[],ps,r,h,_,_=>by cases h
 |x::l,y::k,ps,r,h,hp,hm=>by
  unfold rK at h;split at h<;>cases h;rename_i p m1 q m2 h1 h2;exact⟨_,_,rfl,hf x y p m1 h1 (λa ha=>hp a aH) hm.left,uF hf h2 (λa ha=>hp a aH) hm.right⟩
def QT{x y:SV}{ps:List Prop}{r:Rm}(h:K6 x y=aD (ps,r))(hp:∀p∈ps,p)(hm:l5 m r):iQ m x.av y.av:=by
 unfold K6 at h;split at h
 .trivial
 .rfl
 .rfl
 .split at h<;>cases h;rename_i e _;subst e;rw[<-hp _ (cI.2 rfl)];rfl
 .cases h;rw[<-hp _ (cI.2 rfl)];rfl
 .cases h;rw[<-hp _ (cI.2 rfl)];rfl
 .cases h;rw[<-hp _ (cI.2 rfl)];rfl
 .cases h;rw[<-hp _ (cI.2 rfl)];rfl
 .cases h;rw[<-hp _ (cI.2 rfl)];rfl
 .cases h;rw[<-hp _ (cI.2 rfl)];rfl
 .rename_i p d q e;cases h;have hh:q↔p:=hp _ aH;show AV.p (.bool (decide q))=AV.p (.bool (decide p));grind
 .cases h;refine ff ?_;rw[<-hp _ (cI.2 rfl)];rfl
 .cases h;refine ff ?_;rw[<-hp _ (cI.2 rfl)];rfl
 .cases h;rw[<-hp _ (cI.2 rfl)];rfl
 .rename_i t l t' l';split at h<;>cases h;rename_i e _;subst e;have:l'=l:=hp _ aH;subst this;exact ff rfl
 .cases h;rename_i t l;have:l=[] :=hp _ aH;subst this;exact ff rfl
 .rename_i t l n cs _;split at h<;>cases h;rename_i l' hl;have:l'=l:=hp _ aH;subst this;obtain⟨e1,e2⟩:=LT.xw hl;show(match bm (avs cs)with|some q=>AV.p (.sl n q)|none=> .any)=_;rw[e2,eW,e1]
 .rename_i s off s' off';split at h<;>cases h;simp only[SV.av];exact⟨aa s',hm _ (cI.2 rfl),jc⟩
 .rename_i s t n s' t' n';split at h<;>cases h;have:n'=n:=hp _ aH;simp only[SV.av];exact .inl ⟨aa s',hm _ (cI.2 rfl),by rw[this]⟩
 .cases h;rename_i s t n s' n';have:n'=n:=hp _ aH;simp only[SV.av];exact .inl ⟨aa s',hm _ (cI.2 rfl),by rw[this]⟩
 .cases h;rename_i s t n;have:n=0:=hp _ aH;exact .inr ⟨hm _ (cI.2 rfl),rfl,rfl,this⟩
 .rename_i s n s' n';split at h<;>cases h;simp only[SV.av];exact .inl ⟨aa s',hm _ (cI.2 rfl),jc⟩
 .cases h;rename_i s n s' n';have:n'=n:=hp _ aH;simp only[SV.av];exact .inl ⟨aa s',hm _ (cI.2 rfl),by rw[this]⟩
 .cases h;rename_i s s';exact⟨aa s',hm _ (cI.2 rfl),rfl⟩
 .exact ff rfl
 .cases h
def xu:∀(d:Nat) (x y:SV) (ps:List Prop) (r:Rm),eqv d x y=aD (ps,r)->(∀p∈ps,p)->l5 m r->iQ m x.av y.av:=by
 intro d;induction d with
 |zero=>
  intro x y ps r h hp hm;refine QT (ps:=ps) (r:=r) ?_ hp hm;exact h
 |succ d ih=>
  intro x y ps r h hp hm;unfold eqv at h;split at h
  .rename_i d' l k e;cases e;exact Cn (uF ih h hp hm)
  .rename_i d' l k e;cases e;exact Gy (uF ih h hp hm)
  .rename_i d' f a b f' a' b' e;cases e;split at h<;>cases h;rename_i p m1 q m2 e h1 h2;show iQ m (.fn (.func f) (avs a) (avs b)) (.fn (.func f') (avs a') (avs b'));exact⟨_,_,jc,uF ih h1 (λa ha=>hp a aH) hm.left,uF ih h2 (λa ha=>hp a aH) hm.right⟩
  .exact QT h hp hm
mutual
def SV.sites:SV->List Nat
 | .agg l=>qw l
 | .tup l=>qw l
 | .fn _ a b=>qw a++qw b
 | .ptr s _=>[s]
 | .pte s _ _ _=>[s]
 | .own s _ _=>[s]
 | .owns s _ _ _=>[s]
 | .ownx s _=>[s]
 | .ownf s _ _ _=>[s]
 | .ptef s _ _ _ _=>[s]
 | .ptf s _=>[s]
 | .owF s _=>[s]
 | .mp s=>[s]
 |_=>[]
def qw:List SV->List Nat
 |[] =>[]
 |x::l=>x.sites++qw l
end
def yn(m:Rf)(s:Nat):Prop:=∀a,m (inn s a)=aD (aD (inn s a))
mutual
theorem Ci{m:Rf}:∀(v:SV),(∀s∈v.sites,yn m s)->iQ m v.av v.av
 | .any,_=>by trivial
 | .undef,_=>by rfl
 | .nil,_=>by rfl
 | .int _ _,_=>ff rfl
 | .bool _,_=>ff rfl
 | .lit _,_=>ff rfl
 | .prop _ _,_=>ff rfl
 | .str _,_=>ff rfl
 | .lst _ _,_=>ff rfl
 | .pe _ _ _ _,_=>ff rfl
 | .clo1 _ _ _ _,_=>ff rfl
 | .clo2 _ _ _ _,_=>ff rfl
 | .ptb _ _ _,_=>ff rfl
 | .junk,_=>ff rfl
 | .mp s,h=>by exact⟨aa s,h s (by simp[SV.sites]) 0,rfl⟩
 | .sl n cs,_=>by
   simp only[SV.av];split
   .exact ff rfl
   .trivial
 | .pro cs off,_=>by
   simp only[SV.av];split
   .exact ff rfl
   .trivial
 | .fnp f a b,_=>by
   simp only[SV.av];split
   .exact ff rfl
   .trivial
 | .agg l,h=>by exact Cn (vK l h)
 | .tup l,h=>by exact Gy (vK l h)
 | .fn f a b,h=>by
   exact⟨_,_,rfl,vK a (λs hs=>h s (by simp only[SV.sites];grind)),vK b (λs hs=>h s (by simp only[SV.sites];grind))⟩
 | .ptr s off,h=>by exact⟨aa s,h s (by simp[SV.sites]) 0,rfl⟩
 | .pte s t i off,h=>by exact⟨aa s,h s (by simp[SV.sites]) 0,rfl⟩
 | .own s t n,h=>by exact .inl ⟨aa s,h s (by simp[SV.sites]) 0,rfl⟩
 | .owns s t o n,h=>by exact .inl ⟨aa s,h s (by simp[SV.sites]) 0,rfl⟩
 | .ownx s n,h=>by exact .inl ⟨aa s,h s (by simp[SV.sites]) 0,rfl⟩
 | .owF s n,h=>by exact .inl ⟨aa s,h s (by simp[SV.sites]) 0,rfl⟩
 | .ownf s t a n,h=>by exact .inl ⟨inn s (a+1),h s (by simp[SV.sites]) (a+1),rfl⟩
 | .ptf s a,h=>by exact⟨aa s,h s (by simp[SV.sites]) 0,rfl⟩
 | .ptef s t a i off,h=>by exact⟨inn s (a+1),h s (by simp[SV.sites]) (a+1),rfl⟩
theorem vK{m:Rf}:∀(l:List SV),(∀s∈qw l,yn m s)->iK m (avs l) (avs l)
 |[],_=>by rfl
 |x::l,h=>by
  exact⟨_,_,rfl,Ci x (λs hs=>h s (by simp only[qw];grind)),vK l (λs hs=>h s (by simp only[qw];grind))⟩
end
def SOb.sites:SOb->List Nat
 | .box _ cs=>qw cs
 | .arr _ _ cs=>qw cs
 | .row .. =>[]
 | .fam _ _ _ _ ov=>ov.flatMap λq=>q.2.sites
 | .mp _=>[]
def G6{ov:List (Nat×SV)}{i:Nat}{v:SV}(h:ov.lookup i=aD v):(i,v)∈ov:=by
 induction ov with
 |nil=>cases h
 |cons q ov ih=>
  grind
def Mi(o:SOb)(x:Nat)(hx:yn m x)(h:∀s∈o.sites,yn m s):sm m (o.ob x) (o.ob x):=by
 cases o with
 |box ty cs=>exact⟨rfl,rfl,vK cs h⟩
 |arr ty ez cs=>exact⟨rfl,rfl,vK cs h⟩
 |row ty t l=>exact⟨rfl,rfl,lm m _⟩
 |mp ks=>refine⟨rfl,rfl,?_⟩;show iK m (ic (iz ks)) (ic (iz ks));rw[vR];exact lm m _
 |fam ty ity t L ov=>
  refine⟨rfl,rfl,xY _ _ _ λi _=> ?_⟩;unfold kE;split
  .rename_i v hv;exact Ci v λs hs=>h s (dL.2 ⟨(i,v),G6 hv,hs⟩)
  .exact .inl ⟨_,hx (i+1),rfl⟩
def yV:SOb->SOb->Option (List Prop×Rm)
 | .box ty cs,.box ty' cs'=>(match bZ ty ty' with|true=>rK (eqv 3) cs cs'|false=>aM)
 | .arr ty ez cs,.arr ty' ez' cs'=>(match bZ ty ty',bZ ez ez' with|true,aE=>rK (eqv 3) cs cs'|_,_=>aM)
 | .row ty t l,.row ty' t' l'=>(match bZ ty ty',decEq t' t with|true,.isTrue h=>aD ([(h▸l':List t.ty)=l],[])|_,_=>aM)
 | .mp ks,.mp ks'=>aD ([ks'=ks],[])
 | .row ty t l,.arr ty' ez cs=>(match bZ ty ty',bZ ez t.w,t.decs ((aA cs)/t.w) cs with|true,aE,aD l'=>aD ([l'=l],[])|_,_,_=>aM)
 |_,_=>aM
def Ou{x y:SOb}{ps:List Prop}{r:Rm}(h:yV x y=aD (ps,r))(hp:∀p∈ps,p)(hm:l5 m r)(k k':Nat):sm m (x.ob k) (y.ob k'):=by
 unfold yV at h;split at h
 .split at h
  .rename_i e;exact⟨eL e,rfl,uF (xu 3) h hp hm⟩
  .cases h
 .split at h
  .rename_i e1 e2;exact⟨eL e1,eL e2,uF (xu 3) h hp hm⟩
  .cases h
 .split at h<;>cases h;rename_i e2 e1 _;subst e2;have:=hp _ (cI.2 rfl);subst this;exact⟨eL e1,rfl,lm m _⟩
 .cases h;have:=hp _ (cI.2 rfl);subst this;refine⟨rfl,rfl,?_⟩;show iK m (ic (iz _)) (ic (iz _));rw[vR];exact lm m _
 .split at h<;>cases h;rename_i l' e1 e2 e3;have:=hp _ (cI.2 rfl);subst this;obtain⟨_,e4⟩:=LT.xw e3;refine⟨eL e1,(eL e2).symm,?_⟩;show iK m ((LT.enc _ l').map .p) (avs _);rw[e4];exact lm m _
 .cases h
end
noncomputable section
def mem(l:List Nat)(s:Nat):Bool:=match l with
 |[] =>aK
 |x::l=>(match bZ s x with|true=>aE|false=>mem l s)
def mem_iff(s:Nat):∀l:List Nat,mem l s=aE↔s∈l
 |[] =>by simp[mem]
 |x::l=>by
  unfold mem;cases h:bZ s x with
  |true=>simp_all
  |false=>simp[oc h,mem_iff s l]
def gH{α:Type}(p:α->Bool):List α->Bool
 |[] =>aE
 |x::l=>(match p x with|true=>gH p l|false=>aK)
def jD{α:Type}{p:α->Bool}:∀{l:List α},gH p l=aE->∀x∈l,p x=aE
 |[],_,x,hx=>by cases hx
 |y::l,h,x,hx=>by
  unfold gH at h;cases hy:p y with
  |false=>grind
  |true=>
   rw[hy]at h;rcases bO.1 hx with rfl|hx
   .exact hy
   .exact jD h x hx
def jI(rk:List Nat)(N0:Nat)(s:Nat):Bool:=match jt (ncl s) N0,mem rk s with
 |true,aK=>aE
 |_,_=>aK
def lW(F:Frm)(rk:List Nat)(N0:Nat):Frm->List Nat
 |[] =>[]
 |(d,v)::r=>(match gH (jI rk N0) v.sites with
  |true=>lW F rk N0 r
  |false=>(match gH (jI rk N0) (F.at d).sites with
   |true=>lW F rk N0 r
   |false=>d::lW F rk N0 r))
def nB(F:Frm)(upd:Frm)(hav:List Nat):Frm:=upd++(hav.map λd=>(d,SV.any))++F
def kT(L:ag)(obs:List (Nat×SOb)):ag:=(obs.map λq=>(q.1,aD q.2))++L
def BG(obs:List (Nat×SOb)):List Nat:=obs.map λq=>q.1
def aFB(L:ag)(keys rk:List Nat)(N0:Nat):Bool:=gH (λ(q:Nat×Option SOb)=>match mem keys q.1 with
 |true=>aE
 |false=>(match L.at q.1 with
  |none=>aE
  |some ob=>(match jI rk N0 q.1 with|true=>gH (jI rk N0) ob.sites|false=>aK))) L
def yg(n:Nat)(F':Frm):Frm->Option (List Prop×Rm)
 |[] =>aD ([],[])
 |(d,v)::r=>(match jt d n,v.ape,eqv 3 v (F'.at d),yg n F' r with
  |true,aK,aD (p,m),aD (q,k)=>aD (p++q,m++k)
  |_,_,_,_=>aM)
def BL(rk:List Nat)(s o:Nat):SOb->SOb->Option (List Prop)
 | .fam ty ity t M [],.fam ty' ity' t' M' [] =>(match bZ s o,mem rk s,bZ ty ty',bZ ity ity',decEq t' t with
   |true,aK,aE,aE,.isTrue h=>aD [(h▸M':List (List t.ty))=M]
   |_,_,_,_,_=>aM)
 |_,_=>aM
variable{rk:List Nat}
def QQ{s o:Nat}{x y:SOb}{ps:List Prop}(h:BL rk s o x y=aD ps)(hp:∀p∈ps,p):s=o/\mem rk s=aK/\x=y/\x.sites=[] :=by
 unfold BL at h;split at h
 .split at h<;>cases h;rename_i e h1 h2 h3 h4 _;subst e;have:=hp _ (cI.2 rfl);subst this;rw[eL h3,eL h4];exact⟨eL h1,h2,rfl,rfl⟩
 .cases h
def wP(L':ag)(rk:List Nat):List (Nat×SOb)->Rm->Option (List Prop×Rm)
 |[],mm=>aD ([],mm)
 |(s,ob)::r,mm=>(match(match mem rk s with|true=>pF mm s|false=>aD (aD s))with
  |none=>aM
  |some aM=>(match ob with
   | .row _ _ l=>(match wP L' rk r (mm++[(s,aM)])with|some (q,k)=>aD ((l=[])::q,k)|none=>aM)
   |_=>aM)
  |some (aD o)=>(match L'.at o with
   |none=>aM
   |some ob'=>(match yV ob ob' with
    |none=>(match BL rk s o ob ob' with
     |none=>aM
     |some p=>(match wP L' rk r (mm++[(s,aD o)])with|some (q,k)=>aD (p++q,k)|none=>aM))
    |some (p,m2)=>(match wP L' rk r (mm++(s,aD o)::m2)with|some (q,k)=>aD (p++q,k)|none=>aM))))
def eqO:Option Nat->Option Nat->Bool
 |none,aM=>aE
 |some a,aD b=>bZ a b
 |_,_=>aK
def Jy{a b:Option Nat}(h:eqO a b=aE):a=b:=by cases a<;>cases b<;>first|rfl|(cases h;done)|(rw[eL h])
def isO:Option (Option Nat)->Option Nat->Bool
 |some a,b=>eqO a b
 |none,_=>aK
def okM(rk:List Nat)(N0 N1:Nat)(mm:Rm):Bool:=gH (λ(q:Nat×Option Nat)=>match isO (pF mm q.1) q.2,mem rk q.1 with
 |true,aE=>(match jt (ncl q.1) N1,q.2 with
  |true,aM=>aE
  |true,aD o=>(match(match jt (ncl o) N0 with|false=>aE|true=>mem rk o)with
   |true=>gH (λ(q2:Nat×Option Nat)=>match eqO q2.2 (aD o)with|true=>bZ q2.1 q.1|false=>aE) mm
   |false=>aK)
  |_,_=>aK)
 |true,aK=>(match jI rk N0 q.1 with|true=>eqO q.2 (aD q.1)|false=>aK)
 |_,_=>aK) mm
def aFy(N0:Nat)(keys:List Nat)(pre:ag):Bool:=gH (λ(q:Nat×Option SOb)=>match mem keys q.1 with
 |true=>aE
 |false=>(match jt (ncl q.1) N0 with|true=>aK|false=>aE)) pre
def aF3(rk:List Nat)(N0:Nat)(mm:Rm):Nat->Option (Option Nat):=λs=>match pF mm s with
 |some x=>aD x
 |none=>(match jI rk N0 s with|true=>aD (aD s)|false=>aM)
open Classical in
def oK(mn:Nat->Option (Option Nat))(st:Nat->Bool):Rf:=λs=>if inn (nm s) (sub s)=s then(match sub s with
 |0=>(mn (nm s)).map (Option.map aa)
 |_+1=>(match st (nm s)with|true=>aD (aD s)|false=>aM))else aM
def GX(mn:Nat->Option (Option Nat))(st:Nat->Bool)(x:Nat):oK mn st (aa x)=(mn x).map (Option.map aa):=by unfold oK aa;rw[vf,vo,if_pos rfl]
def Oa(mn:Nat->Option (Option Nat))(st:Nat->Bool)(x a:Nat):oK mn st (inn x (a+1))=(match st x with|true=>aD (aD (inn x (a+1)))|false=>aM):=by unfold oK;rw[vf,vo,if_pos rfl]
def aB6(mn:Nat->Option (Option Nat))(st:Nat->Bool){s:Nat}(h:∀x a,s≠inn x a):oK mn st s=aM:=by unfold oK;grind
def Ed(n:Nat)(L:ag)(N0 N1:Nat)(rk:List Nat)(upd:Frm)(obs:List (Nat×SOb))(F':Frm)(L':ag):Option (List Prop):=
 match yg n F' upd with
 |none=>aM
 |some (p,m1)=>(match wP L' rk obs m1 with
  |none=>aM
  |some (q,m2)=>(match okM rk N0 N1 m2,aFy N0 (BG obs) (L'.take (aA L'-aA L)),aFB L (BG obs) rk N0,ph N0 N1 with
   |true,aE,aE,aE=>aD (p++q)
   |_,_,_,_=>aM))
def OW{m:Rm}{s:Nat}{x:Option Nat}(h:pF m s=aD x):(s,x)∈m:=by
 induction m with
 |nil=>cases h
 |cons q m ih=>
  obtain⟨a,b⟩:=q;unfold pF at h;split at h
  .simp_all
  grind
def QS{n:Nat}{F':Frm}{m:Rf}:∀{upd:Frm} {ps:List Prop} {r:Rm},yg n F' upd=aD (ps,r)->(∀p∈ps,p)->l5 m r->∀q∈upd,iQ m q.2.av (F'.at q.1).av/\q.2.ok
 |[],ps,r,_,_,_,q,hq=>by cases hq
 |(d,v)::upd,ps,r,h,hp,hm,q,hq=>by
  unfold yg at h;split at h<;>cases h;rename_i p1 m1 p2 m2 h1 h2 h3 h4;rcases bO.1 hq with rfl|hq
  .exact⟨xu 3 _ _ _ _ h3 (λa ha=>hp a aH) hm.left,SV.qJ h2⟩
  .exact QS h4 (λa ha=>hp a aH) hm.right q hq
def Nk{x y:SOb}{q:List Prop×Rm}(h:yV x y=aD q):x.flat=aE:=by unfold yV at h;cases x<;>first|rfl|grind
def DI{L':ag}{rk:List Nat}{m:Rf}:∀{obs:List (Nat×SOb)} {mm:Rm} {ps:List Prop} {r:Rm},wP L' rk obs mm=aD (ps,r)->(∀p∈ps,p)->l5 m r->
  (∃k,r=mm++k)/\∀q∈obs,(q.2.flat=aE/\((∃y ob,m (aa q.1)=aD (aD (aa y))/\L'.at y=aD ob/\sm m (q.2.ob q.1) (ob.ob y))\/(m (aa q.1)=aD aM/\(q.2.ob q.1).esz≠0/\(q.2.ob q.1).cells=[])))\/((q.1,aD q.1)∈r/\mem rk q.1=aK/\L'.at q.1=aD q.2/\q.2.sites=[])
 |[],mm,ps,r,h,_,_=>by unfold wP at h;simp_all
 |(s,ob)::obs,mm,ps,r,h,hp,hm=>by
  unfold wP at h;split at h
  .cases h
  .split at h
   .rename_i ty t l;split at h<;>cases h;rename_i q k hk;obtain⟨⟨k',e⟩,h2⟩:=DI hk aH hm;refine⟨aH,λq hq=> ?_⟩;rcases bO.1 hq with rfl|hq
    .have:m (aa s)=aD aM:=hm (s,aM) (by rw[e];simp);have hl:l=[] :=hp _ aH;subst hl;exact .inl ⟨rfl,.inr ⟨this,qX t.mS,rfl⟩⟩
    grind
   .cases h
  .rename_i o hi;split at h
   .cases h
   .rename_i ob' hob;split at h
    .split at h
     .cases h
     .rename_i p hfe;split at h<;>cases h;rename_i q k hk;obtain⟨⟨k',e⟩,h2⟩:=DI hk (λa ha=>hp a aH) hm;refine⟨aH,λq hq=> ?_⟩;rcases bO.1 hq with rfl|hq
      .obtain⟨f1,f2,f3,f4⟩:=QQ hfe λa ha=>hp a aH;grind
      grind
    .rename_i p m2 he;split at h<;>cases h;rename_i q k hk;obtain⟨⟨k',e⟩,h2⟩:=DI hk (λa ha=>hp a aH) hm;refine⟨aH,λq hq=> ?_⟩;rcases bO.1 hq with rfl|hq
     .have:m (aa s)=aD (aD (aa o)):=hm (s,aD o) (by rw[e];simp);refine .inl ⟨Nk he,.inl ⟨o,ob',this,hob,Ou he (λa ha=>hp a aH) ?_ _ _⟩⟩;intro q hq;exact hm q aH
     grind
def DT{F:Frm}{rk:List Nat}{N0:Nat}{d:Nat}:∀{G:Frm},(∃v,(d,v)∈G/\gH (jI rk N0) v.sites=aK)->d∉lW F rk N0 G->gH (jI rk N0) (F.at d).sites=aE
 |[],⟨v,h,_⟩,_=>by cases h
 |(e,u)::G,⟨v,h,hv⟩,hn=>by
  unfold lW at hn;rcases bO.1 h with h|h
  .grind
  .split at hn
   .exact DT ⟨v,h,hv⟩ hn
   .split at hn
    .exact DT ⟨v,h,hv⟩ hn
    .exact DT ⟨v,h,hv⟩ aH
def aFm(F:Frm)(d:Nat):(F.at d)= .undef\/(d,F.at d)∈F:=by
 induction F with
 |nil=>exact .inl rfl
 |cons q F ih=>
  rw[Frm.n9];grind
def aDZ{F:Frm}{N0 d:Nat}(h:d∉lW F rk N0 F):gH (jI rk N0) (F.at d).sites=aE:=by
 rcases aFm F d with e|e
 .rw[e];rfl
 .cases hb:gH (jI rk N0) (F.at d).sites with
  |true=>rfl
  |false=>rw[<-hb];exact DT ⟨_,e,hb⟩ h
def Frm.rq(A B:Frm)(d:Nat):(Frm.at (A++B) d)=if d∈A.map (·.1)then A.at d else B.at d:=by
 induction A with
 |nil=>simp
 |cons q A ih=>
  rw[k8,Frm.n9,Frm.n9,ih];grind
def TE(l:List Nat)(d:Nat):(Frm.at (l.map λd=>(d,SV.any)) d)=if d∈l then .any else .undef:=by
 induction l with
 |nil=>rfl
 |cons e l ih=>
  rw[dU,Frm.n9,ih];grind
def yY{F:Frm}{d:Nat}(h:d∈F.map (·.1)):(d,F.at d)∈F:=by
 induction F with
 |nil=>cases h
 |cons q F ih=>
  rw[Frm.n9];grind
def ag.rq(A B:ag)(s:Nat):(ag.at (A++B) s)=if s∈A.map (·.1)then A.at s else B.at s:=by
 induction A with
 |nil=>simp
 |cons q A ih=>
  obtain⟨e,v⟩:=q;show(match bZ s e with|true=>v|false=>ag.at (A++B) s)=if _ then(match bZ s e with|true=>v|false=>ag.at A s)else _;cases h:bZ s e with
  |true=>simp_all
  |false=>
   have:=oc h;grind
def ag.yY{L:ag}{s:Nat}{ob:SOb}(h:L.at s=aD ob):(s,aD ob)∈L:=by
 induction L with
 |nil=>cases h
 |cons q L ih=>
  obtain⟨e,v⟩:=q;change (match bZ s e with|true=>v|false=>ag.at L s)=aD ob at h;cases hb:bZ s e with
  |true=>simp_all
  |false=>grind
def Qt{x:Nat}:∀{obs:List (Nat×SOb)},x∈obs.map (·.1)->∃q∈obs,q.1=x/\ag.at (obs.map λq=>(q.1,aD q.2)) x=aD q.2
 |[],h=>aH
 |q::obs,h=>by
  show∃q'∈q::obs,q'.1=x/\(match bZ x q.1 with|true=>aD q.2|false=>ag.at (obs.map λq=>(q.1,aD q.2)) x)=aD q'.2;cases hb:bZ x q.1 with
  |true=>simp_all
  |false=>
   rcases bO.1 h with h|h
   .simp_all
   .obtain⟨q',h1,h2,h3⟩:=Qt h;grind
def NW{m:Rf}{o':SOb}{a:Nat}{ob':Ob}(hs:o'.inner a=aD ob'):sm m ob' ob':=by
 cases o' with
 |fam ty ity t LL ov=>
  change (match ov.lookup a with|some _=>aM|none=>(LL[a]?).map λl=>(⟨ity,t.w,(t.enc l).map .p⟩:Ob))=aD ob' at hs;split at hs
  .cases hs
  .cases hL2:LL[a]? with
   |none=>grind
   |some l=>rw[hL2]at hs;cases hs;exact⟨rfl,rfl,lm _ _⟩
 |_=>cases hs
def OU{n:Nat}{F F' upd:Frm}{L L':ag}{N0 N1 N':Nat}{obs:List (Nat×SOb)}{hav:List Nat}{ps:List Prop}(h:Ed n L N0 N1 rk upd obs F' L'=aD ps)(hp:∀p∈ps,p)
  (hF:Pre (λd=>d∈hav) F F') (hbad:∀d∈lW F rk N0 F,d∈hav) (hL:i8 L L'):
  iD (F'.av n) L'.fn N' ((nB F upd hav).av n) (kT L obs).fn N1:=by
 unfold Ed at h;split at h
 .cases h
 rename_i p1 m1 h1;split at h
 .cases h
 rename_i p2 mm h2;split at h<;>cases h;rename_i h3 h4 h5 h6
 let mn:Nat->Option (Option Nat):=aF3 rk N0 mm
 let m:Rf:=oK mn (jI rk N0)
 have hokM:∀s x,(s,x)∈mm->pF mm s=aD x/\((mem rk s=aE/\ncl s<N1/\∀o,x=aD o->(ncl o<N0->mem rk o=aE)/\∀s',(s',aD o)∈mm->s'=s)\/(mem rk s=aK/\ncl s<N0/\x=aD s)):=by
  intro s x hs;have:=jD h3 (s,x) hs;dsimp only at this;split at this
  .rename_i e1 e2;refine⟨?_,.inl ⟨e2,?_⟩⟩
   .unfold isO at e1;split at e1
    .rename_i heq;rw[heq,Jy e1]
    .cases e1
   .split at this
    .simp_all
    .rename_i o e3;refine⟨(lz _ _).1 e3,λo' ho=> ?_⟩;cases ho;split at this
     .rename_i e4;refine⟨λhlt=> ?_,λs' hs'=> ?_⟩
      .rw[(lz _ _).2 hlt]at e4;exact e4
      .have:=jD this (s',aD o) hs';rw[show eqO (aD o) (aD o)=aE from Nat.beq_refl o]at this;simp_all
     .cases this
    .cases this
  .rename_i e1 e2;split at this
   .rename_i e3;refine⟨?_,.inr ⟨e2,?_,Jy this⟩⟩
    .unfold isO at e1;split at e1
     .rename_i heq;rw[heq,Jy e1]
     .cases e1
    .unfold jI at e3;split at e3
     .simp_all
     .cases e3
   .cases this
  .cases this
 have hstay:∀s,jI rk N0 s=aE->mn s=aD (aD s)/\ncl s<N0/\mem rk s=aK:=by
  intro s hs;have:ncl s<N0/\mem rk s=aK:=by
   unfold jI at hs;split at hs
   .rename_i e1 e2;exact⟨(lz _ _).1 e1,e2⟩
   .cases hs
  refine⟨?_,this⟩;show(match pF mm s with|some x=>aD x|none=>_)=_;cases hl:pF mm s with
  |some x=>
   rcases(hokM s x (OW hl)).2 with⟨e,_⟩|⟨_,_,e⟩
   .grind
   .rw[e]
  |none=>grind
 have hm:∀s x,mn s=aD x->(s,x)∈mm\/(jI rk N0 s=aE/\x=aD s):=by
  intro s x hs;change (match pF mm s with|some x=>aD x|none=>(match jI rk N0 s with|true=>aD (aD s)|false=>aM))=aD x at hs;cases hl:pF mm s with
  |some y=>rw[hl]at hs;cases hs;exact .inl (OW hl)
  |none=>
   grind
 have hag:l5 m mm:=by
  intro q hq;have:=(hokM q.1 q.2 hq).1;have e:mn q.1=aD q.2:=by show(match pF mm q.1 with|some x=>aD x|none=>_)=_;rw[this]
  show oK mn (jI rk N0) (aa q.1)=_;rw[GX,e];rfl
 have hst:∀s,jI rk N0 s=aE->yn m s:=by
  intro s hs a;cases a with
  |zero=>show oK mn _ (aa s)=_;rw[GX,(hstay s hs).1];rfl
  |succ a=>show oK mn _ (inn s (a+1))=_;rw[Oa,hs]
 have hcase:∀s x,m s=aD x->(∃y z,s=aa y/\mn y=aD z/\x=z.map aa)\/(∃y a,s=inn y (a+1)/\jI rk N0 y=aE/\x=aD s):=by
  intro s x hs;rcases mN s with⟨y,rfl⟩|⟨y,a,rfl⟩|hno
  .change oK mn _ (aa y)=aD x at hs;rw[GX]at hs;cases hy:mn y with
   |none=>grind
   |some z=>grind
  .change oK mn _ (inn y (a+1))=aD x at hs;rw[Oa]at hs;grind
  .change oK mn _ s=aD x at hs;rw[aB6 _ _ hno]at hs;cases hs
 have hlt:∀s x,mn s=aD x->ncl s<N1:=by
  intro s x hs;rcases hm s x hs with h|⟨h,_⟩
  .rcases(hokM s x h).2 with⟨_,e,_⟩|⟨_,e,_⟩
   .exact e
   .have:=rh h6;omega
  .have:=(hstay s h).2.1;have:=rh h6;omega
 obtain⟨⟨k,hk⟩,hobs⟩:=DI h2 (λa ha=>hp a aH) hag;have hfst:∀y,(y,aD y)∈mm->mem rk y=aK->jI rk N0 y=aE:=by
  intro y hy hr;rcases(hokM y _ hy).2 with⟨e,_⟩|⟨_,e,_⟩
  .grind
  .unfold jI;rw[(lz _ _).2 e,hr]
 have hag1:l5 m m1:=λq hq=>hag q aH;have hupd:=QS h1 (λa ha=>hp a aH) hag1;have h6':=rh h6;refine Qi m ?_ ?_ (by rw[Frm.ke,Frm.ke]) ?_ ?_
 .intro s x hs;rcases hcase s x hs with⟨y,z,rfl,h,_⟩|⟨y,a,rfl,h,_⟩
  .rw[show cls (aa y)=ncl y from gm y 0];grind
  .rw[gm];grind
 .intro s s' o hs hs';have inj:∀s s' o,mn s=aD (aD o)->mn s'=aD (aD o)->s=s':=by
   intro s s' o hs hs';rcases hm s (aD o) hs with h|⟨h,e⟩
   .rcases(hokM s _ h).2 with⟨e1,e2,e3⟩|⟨e1,e2,e3⟩
    .grind
    .rcases hm s' (aD o) hs' with h'|⟨h',e'⟩
     .grind
     grind
   .rcases hm s' (aD o) hs' with h'|⟨h',e'⟩
    .grind
    grind
  rcases hcase s _ hs with⟨y,z,rfl,h,e⟩|⟨y,a,rfl,h,e⟩
  .rcases hcase s' _ hs' with⟨y',z',rfl,h',e'⟩|⟨y',a',rfl,h',e'⟩
   .cases z with
    |none=>cases e
    |some z=>
     cases z' with
     |none=>cases e'
     |some z'=>
      have e:=pi e;have e':=pi e';have:z=z':=nV (e.symm.trans e');grind
   .cases z with
    |none=>cases e
    |some z=>
     have e:=pi e;have e':=pi e';have:=(gZ (e.symm.trans e')).2;omega
  .rcases hcase s' _ hs' with⟨y',z',rfl,h',e'⟩|⟨y',a',rfl,h',e'⟩
   .cases z' with
    |none=>cases e'
    |some z'=>
     have e:=pi e;have e':=pi e';have:=(gZ (e'.symm.trans e)).2;omega
   grind
 .intro t ht;rw[Frm.ke]at ht;rw[Frm.o8 ht,Frm.o8 ht];unfold nB;rw[Frm.rq,Frm.rq];split
  .split
   .rename_i hu;exact(hupd _ (yY hu)).1
   .rw[TE];split
    .trivial
    grind
  .rename_i hin;have hh:t∉hav:=aH;have hgood:=aDZ (λhb=>hh (hbad t hb));obtain⟨pre,e,hpre⟩:=hF;have:Frm.at F' t=Frm.at F t:=by rw[e,Frm.rq,if_neg];intro h;simp only[bn]at h;obtain⟨q,hq,e⟩:=h;grind
   rw[this];exact Ci _ λs hs=>hst s (jD hgood s hs)
 .intro s ob' hs;have kept:∀x o',x∉(obs.map λq=>(q.1,aD q.2)).map (·.1)->(kT L obs).at x=aD o'->jI rk N0 x=aE/\gH (jI rk N0) o'.sites=aE/\L'.at x=aD o':=by
   intro x o' hnk ho;unfold kT at ho;rw[ag.rq,if_neg hnk]at ho;have hnk':mem (BG obs) x=aK:=by
    cases hb:mem (BG obs) x with
    |false=>rfl
    |true=>
     exfalso;have:=(mem_iff _ _).1 hb;unfold BG at this;grind
   have:=jD h5 _ (ag.yY ho);dsimp only at this;rw[hnk',ho]at this;dsimp only at this;split at this
   .rename_i hst;refine⟨hst,this,?_⟩;obtain⟨pre,e⟩:=hL;rw[e,ag.rq,if_neg,ho];intro hin;have h4':=h4;rw[e]at h4';rw[(af:aA (pre++L)-aA L=aA pre),Fe]at h4';simp only[bn]at hin;obtain⟨q,hq,e2⟩:=hin;have:=jD h4' q hq;rw[e2,hnk']at this;rw[(lz _ _).2 (hstay x hst).2.1]at this;cases this
   .cases this
  have told:∀x,x∈(obs.map λq=>(q.1,aD q.2)).map (·.1)->∃q∈obs,q.1=x/\(kT L obs).at x=aD q.2:=by
   intro x hk;have e:(kT L obs).at x=ag.at (obs.map λq=>(q.1,aD q.2)) x:=by unfold kT;rw[ag.rq,if_pos hk]
   rw[e];exact Qt aH
  rcases mN s with⟨x,rfl⟩|⟨x,a,rfl⟩|hno
  .change Sg.a (kT L obs).at (aa x)=aD ob' at hs;rw[Sg.ct]at hs;by_cases hk:x∈(obs.map λq=>(q.1,aD q.2)).map (·.1)
   .obtain⟨q,hq,rfl,ho⟩:=told x hk;rw[ho]at hs;cases hs;rcases hobs q hq with⟨_,⟨y,ob,g1,g2,g3⟩|⟨g1,g2,g3⟩⟩|⟨g1,g2,g3,g4⟩
    .rw[g1];exact⟨ob.ob y,by show Sg.a L'.at (aa y)=_;rw[Sg.ct,g2];rfl,g3⟩
    .grind
    .have hq':=hfst q.1 g1 g2;rw[show m (aa q.1)=aD (aD (aa q.1))from hst q.1 hq' 0];exact⟨q.2.ob q.1,by show Sg.a L'.at (aa q.1)=_;rw[Sg.ct,g3];rfl,Mi _ q.1 (hst q.1 hq') aH⟩
   .cases ho:(kT L obs).at x with
    |none=>grind
    |some o'=>
     rw[ho]at hs;cases hs;obtain⟨k1,k2,k3⟩:=kept x o' hk ho;rw[show m (aa x)=aD (aD (aa x))from hst x k1 0];exact⟨o'.ob x,by show Sg.a L'.at (aa x)=_;rw[Sg.ct,k3];rfl,Mi _ x (hst x k1) λs hs=>hst s (jD k2 s hs)⟩
  .change Sg.a (kT L obs).at (inn x (a+1))=aD ob' at hs;rw[Sg.iB]at hs;by_cases hk:x∈(obs.map λq=>(q.1,aD q.2)).map (·.1)
   .obtain⟨q,hq,rfl,ho⟩:=told x hk;rw[ho]at hs;rcases hobs q hq with⟨hfl,_⟩|⟨g1,g2,g3,g4⟩
    .have:=SOb.Ca hfl a;grind
    .have hq':=hfst q.1 g1 g2;rw[show m (inn q.1 (a+1))=aD (aD (inn q.1 (a+1)))from hst q.1 hq' (a+1)];exact⟨ob',by show Sg.a L'.at (inn q.1 (a+1))=_;rw[Sg.iB,g3];exact hs,NW hs⟩
   .cases ho:(kT L obs).at x with
    |none=>grind
    |some o'=>
     rw[ho]at hs;obtain⟨k1,k2,k3⟩:=kept x o' hk ho;rw[show m (inn x (a+1))=aD (aD (inn x (a+1)))from hst x k1 (a+1)];exact⟨ob',by show Sg.a L'.at (inn x (a+1))=_;rw[Sg.iB,k3];exact hs,NW hs⟩
  .change Sg.a (kT L obs).at s=aD ob' at hs;rw[Sg.lZ _ hno]at hs;cases hs
end
noncomputable section
def BH(N x s z:Nat):Bool:=match jt (ncl z) N,bZ z s,bZ z x with
 |true,aK,aK=>aE
 |_,_,_=>aK
def Ay(N x s:Nat)(v:SV):Bool:=match v with
 | .owF y _=>(match jt (ncl y) N,bZ y s with|true,aK=>aE|_,_=>aK)
 |v=>gH (BH N x s) v.sites
def pH(N x s:Nat)(v:SV):Bool:=match v with
 | .agg l=>gH (Ay N x s) l
 |v=>Ay N x s v
def EE(N x s y:Nat)(ob:SOb):Bool:=match BH N x s y with
 |true=>(match ob with
  | .box _ cs=>gH (pH N x s) cs
  | .arr _ _ cs=>gH (pH N x s) cs
  | .row .. =>aE
  | .mp _=>aE
  | .fam _ _ _ _ ov=>gH (λq:Nat×SV=>pH N x s q.2) ov)
 |false=>aK
open Classical in
def mT(N x a s:Nat):Rf:=λt=>if cls t<N then(if t=inn x (a+1)then aD (aD (aa s))else if t=aa s then aM else aD (aD t))else aM
variable{N x:Nat}
def Cw{s z:Nat}(h:BH N x s z=aE):ncl z<N/\z≠s/\z≠x:=by
 unfold BH at h;split at h
 .rename_i h1 h2 h3;exact⟨(lz _ _).1 h1,oc h2,oc h3⟩
 .cases h
def PI{a s t:Nat}(h1:cls t<N)(h2:t≠inn x (a+1))(h3:t≠aa s):mT N x a s t=aD (aD t):=by unfold mT;grind
def CO{a s z:Nat}(h1:ncl z<N)(h2:z≠s):mT N x a s (aa z)=aD (aD (aa z)):=
 PI (by rw[show cls (aa z)=ncl z from gm z 0];exact h1) (λe=>by have:=(gZ e).2;omega) (λe=>h2 (nV e))
def zm{a s z b:Nat}(h1:ncl z<N)(h2:z=x->b≠a):mT N x a s (inn z (b+1))=aD (aD (inn z (b+1))):=
 PI (by rw[gm];exact h1) (λe=>h2 (gZ e).1 (by have:=(gZ e).2;omega)) (λe=>by have:=(gZ e).2;omega)
def Ye{a s z:Nat}(h:BH N x s z=aE):yn (mT N x a s) z:=by
 obtain⟨h1,h2,h3⟩:=Cw h;intro b;cases b with
 |zero=>exact CO h1 h2
 |succ b=>exact zm h1 aH
def NV{a s:Nat}{v:SV}(h:Ay N x s v=aE):iQ (mT N x a s) v.av v.av:=by
 unfold Ay at h;split at h
 .rename_i y n;split at h
  .rename_i h1 h2;exact .inl ⟨_,CO ((lz _ _).1 h1) (oc h2),rfl⟩
  .cases h
 .exact Ci v λz hz=>Ye (jD h z hz)
def Mm{N x a s:Nat}:∀{cs:List SV},(∀v∈cs,Ay N x s v=aE)->iK (mT N x a s) (avs cs) (avs cs)
 |[],_=>by rfl
 |v::cs,h=>by
  exact⟨_,_,rfl,NV aH,Mm aH⟩
def Cy{a s:Nat}{v:SV}(h:pH N x s v=aE):iQ (mT N x a s) v.av v.av:=by
 unfold pH at h;split at h
 .exact Cn (Mm (jD h))
 .exact NV h
def GZ{N x a s:Nat}:∀{cs:List SV},(∀v∈cs,pH N x s v=aE)->iK (mT N x a s) (avs cs) (avs cs)
 |[],_=>by rfl
 |v::cs,h=>by
  exact⟨_,_,rfl,Cy aH,GZ aH⟩
def SO(F:Frm)(t:Nat):∀hav:List Nat,Frm.at ((hav.map λd=>(d,SV.any))++F) t=SV.any\/(t∉hav/\Frm.at ((hav.map λd=>(d,SV.any))++F) t=F.at t)
 |[] =>aH
 |d::hav=>by
  rw[dU,k8,Frm.n9];by_cases h:t=d
  .grind
  .rw[if_neg h];rcases SO F t hav with h1|⟨h1,h2⟩
   .exact .inl h1
   grind
def B8{a i:Nat}(h:i≠a):∀ov:List (Nat×SV),(ov.filter λq=> !(bZ q.1 a)).lookup i=ov.lookup i
 |[] =>rfl
 |q::ov=>by
  rw[List.filter_cons,eZ];cases hq:bZ q.1 a with
  |true=>
   have:=eL hq;rw[if_neg af,B8 h ov,beq_eq_false_iff_ne.2 aC]
  |false=>
   rw[if_pos af,eZ,B8 h ov]
def B7{a:Nat}:∀ov:List (Nat×SV),(ov.filter λq=> !(bZ q.1 a)).lookup a=aM
 |[] =>rfl
 |q::ov=>by
  rw[List.filter_cons];cases hq:bZ q.1 a with
  |true=>exact B7 ov
  |false=>rw[if_pos af,eZ,beq_eq_false_iff_ne.2 (λe=>oc hq e.symm)];exact B7 ov
def ZR{n N0 a s k:Nat}{F:Frm}{L:ag}{ty ity:TypeId}{lt:LT}{M:List (List lt.ty)}{l:List lt.ty}{ov:List (Nat×SV)}{hav:List Nat}
  (hx:L.at x=aD (.fam ty ity lt M ((a,.own s lt k)::ov))) (hs:L.at s=aD (.row ity lt l)) (ha:a<aA M) (hk:k=aA l) (hxN:ncl x<N)
  (hov:∀q∈ov,q.1≠a->pH N x s q.2=aE) (hF:∀t,t<n->t∈hav\/pH N x s (F.at t)=aE) (hL:∀y ob,L.at y=aD ob->y=x\/y=s\/EE N x s y ob=aE):
  iD (F.av n) L.fn N0 (Frm.av n ((hav.map λd=>(d,SV.any))++F)) (ag.fn ((x,aD (.fam ty ity lt (M.set a l) (ov.filter λq=> !(bZ q.1 a))))::(s,aM)::L)) N:=by
 have hxs:x≠s:=λe=>aH;refine Qi (mT N x a s) ?_ ?_ (by rw[Frm.ke,Frm.ke]) ?_ ?_
 .intro t y ht;unfold mT at ht;grind
 .intro t t' o ht ht';unfold mT at ht ht';grind
 .intro t ht;rw[Frm.ke]at ht;rw[Frm.o8 ht,Frm.o8 ht];rcases SO F t hav with h|⟨h1,h2⟩
  .rw[h];trivial
  .rw[h2];exact Cy aH
 .intro t ob' ht;have hat:∀y,ag.at ((x,aD (.fam ty ity lt (M.set a l) (ov.filter λq=> !(bZ q.1 a))))::(s,aM)::L) y=if y=x then aD (.fam ty ity lt (M.set a l) (ov.filter λq=> !(bZ q.1 a)))else if y=s then aM else L.at y:=by
   intro y;show(match bZ y x with|true=>_|false=>(match bZ y s with|true=>_|false=>_))=_;cases h1:bZ y x with
   |true=>simp_all
   |false=>
    rw[if_neg (oc h1)];cases h2:bZ y s with
    |true=>simp_all
    |false=>rw[if_neg (oc h2)]
  have hset:∀i,i≠a->(M.set a l).getD i [] =M.getD i [] :=aH;have hseta:(M.set a l).getD a [] =l:=by rw[fY,List.getElem?_set_self ha];rfl
  have hcons:∀i,i≠a->jS i ((a,SV.own s lt k)::ov)=ov.lookup i:=aH;rcases mN t with⟨y,rfl⟩|⟨y,b,rfl⟩|hno
  .change Sg.a _ (aa y)=aD ob' at ht;rw[Sg.ct,hat y]at ht;by_cases hyx:y=x
   .subst hyx;rw[if_pos rfl]at ht;have ht:=pi ht;rw[CO hxN hxs];refine⟨_,by show Sg.a L.at (aa y)=_;rw[Sg.ct,hx];rfl,?_⟩;rw[<-ht];refine⟨rfl,rfl,?_⟩;show iK _ ((bT (aA (M.set a l))).map (kE y (M.set a l) (ov.filter λq=> !(bZ q.1 a)))) ((bT (aA M)).map (kE y M ((a,.own s lt k)::ov)));rw[Bv];refine xY _ _ _ λi _=> ?_;unfold kE;by_cases hi:i=a
    .subst hi;rw[B7,eZ,beq_iff_eq.2 rfl,hseta];show iQ _ (.own (inn y (i+1)) 0 (aA l)) (.own (aa s) 0 k);refine .inl ⟨aa s,?_,by rw[hk]⟩;unfold mT;rw[if_pos (by rw[gm];exact hxN),if_pos rfl]
    .rw[B8 hi,hcons i hi,hset i hi];cases ho:ov.lookup i with
     |some v=>exact Cy (hov (i,v) (G6 ho) hi)
     |none=>
      exact .inl ⟨_,zm hxN λ_=>hi,rfl⟩
   .rw[if_neg hyx]at ht;by_cases hys:y=s
    .grind
    .rw[if_neg hys]at ht;cases ho:L.at y with
     |none=>grind
     |some ob=>
      rw[ho]at ht;have ht:=pi ht;have hk':=((hL y ob ho).resolve_left hyx).resolve_left hys;unfold EE at hk';split at hk'
      case h_2=>cases hk'
      rename_i hz;rw[CO (Cw hz).1 hys];refine⟨_,by show Sg.a L.at (aa y)=_;rw[Sg.ct,ho];rfl,?_⟩;rw[<-ht];split at hk'
      .exact⟨rfl,rfl,GZ (jD hk')⟩
      .exact⟨rfl,rfl,GZ (jD hk')⟩
      .exact⟨rfl,rfl,lm _ _⟩
      .refine⟨rfl,rfl,?_⟩;show iK _ (ic (iz _)) (ic (iz _));rw[vR];exact lm _ _
      .refine⟨rfl,rfl,xY _ _ _ λi _=> ?_⟩;unfold kE;split
       .rename_i v hv;exact Cy (jD hk' (i,v) (G6 hv))
       .exact .inl ⟨_,zm (Cw hz).1 aH,rfl⟩
  .change Sg.a _ (inn y (b+1))=aD ob' at ht;rw[Sg.iB,hat y]at ht;by_cases hyx:y=x
   .subst hyx;rw[if_pos rfl]at ht;change (match jS b (ov.filter λq=> !(bZ q.1 a))with|some _=>aM|none=>((M.set a l)[b]?).map λl=>(⟨ity,lt.w,(lt.enc l).map .p⟩:Ob))=aD ob' at ht;by_cases hb:b=a
    .subst hb;rw[B7,List.getElem?_set_self ha]at ht;have ht:=pi ht;have hm:mT N y b s (inn y (b+1))=aD (aD (aa s)):=by unfold mT;rw[if_pos (by rw[gm];exact hxN),if_pos rfl]
     rw[hm];refine⟨_,by show Sg.a L.at (aa s)=_;rw[Sg.ct,hs];rfl,?_⟩;rw[<-ht];exact⟨rfl,rfl,lm _ _⟩
    .rw[B8 hb,List.getElem?_set_ne (Ne.symm hb)]at ht;rw[zm hxN λ_=>hb];refine⟨ob',?_,?_⟩
     .show Sg.a L.at (inn y (b+1))=_;rw[Sg.iB,hx];show(match jS b ((a,SV.own s lt k)::ov)with|some _=>aM|none=>(M[b]?).map λl=>(⟨ity,lt.w,(lt.enc l).map .p⟩:Ob))=_;grind
     .split at ht
      .cases ht
      .cases hM:M[b]? with
       |none=>grind
       |some l'=>
        rw[hM]at ht;rw[<-pi ht];exact⟨rfl,rfl,lm _ _⟩
   .rw[if_neg hyx]at ht;by_cases hys:y=s
    .grind
    .rw[if_neg hys]at ht;cases ho:L.at y with
     |none=>grind
     |some ob=>
      have hk':=((hL y ob ho).resolve_left hyx).resolve_left hys;unfold EE at hk';split at hk'
      case h_2=>cases hk'
      rename_i hz;rw[zm (Cw hz).1 aH];rw[ho]at ht;refine⟨ob',by show Sg.a L.at (inn y (b+1))=_;rw[Sg.iB,ho];exact ht,?_⟩;change SOb.inner b ob=aD ob' at ht;unfold SOb.inner at ht;split at ht
      .split at ht
       .cases ht
       .rename_i M' _ _ _;cases hM:M'[b]? with
        |none=>grind
        |some l'=>
         rw[hM]at ht;rw[<-pi ht];exact⟨rfl,rfl,lm _ _⟩
      .cases ht
  .change Sg.a _ t=aD ob' at ht;rw[Sg.lZ _ hno]at ht;cases ht
def Mp{a:Nat}:∀{ov:List (Nat×SV)},(∀p∈pO ov a,p)->(ov.filter λq=> !(bZ q.1 a))=ov
 |[],_=>rfl
 |q::ov,h=>by
  have h1:a≠q.1:=h _ cR;have h2:bZ q.1 a=aK:=by
   cases hb:bZ q.1 a with
   |true=>simp_all
   |false=>rfl
  rw[List.filter_cons,if_pos (by rw[h2];rfl),Mp λp hp=>h p (cM _ hp)]
def ym(N x s:Nat)(F:Frm):Frm->List Nat
 |[] =>[]
 |(d,_)::r=>match pH N x s (F.at d)with
  |true=>ym N x s F r
  |false=>d::ym N x s F r
def IZ{N x s t:Nat}{F:Frm}:∀{G:Frm},t∈G.map (·.1)->t∈ym N x s F G\/pH N x s (F.at t)=aE
 |[],h=>aH
 |(d,v)::G,h=>by
  unfold ym;cases hk:pH N x s (F.at d)with
  |true=>
   rcases bO.1 h with h|h
   .grind
   .exact IZ h
  |false=>
   rcases bO.1 h with h|h
   .grind
   .rcases IZ (G:=G) h with h|h
    .exact .inl (cM _ h)
    grind
def TA{t:Nat}:∀{G:Frm},t∉G.map (·.1)->G.at t=Frm.at [] t
 |[],_=>rfl
 |(d,v)::G,h=>by
  rw[Frm.n9,if_neg aH,TA aH]
def AR(N x:Nat)(F:Frm)(L:ag):Option (List Prop×Frm×ag):=match L.at x with
 |some (.fam ty ity lt M ((a,.own s lt' k)::ov))=>(match L.at s with
  |some (.row ity' lt2 l)=>(match decEq lt' lt,decEq lt2 lt,bZ ity' ity,jt (ncl x) N,gH (λq:Nat×SV=>pH N x s q.2) ov,gH (λq:Nat×Option SOb=>match bZ q.1 x,bZ q.1 s,L.at q.1 with|false,aK,aD ob=>EE N x s q.1 ob|_,_,_=>aE) L with
   | .isTrue _,.isTrue h,aE,aE,aE,aE=>aD ((a<aA M)::(k=aA l)::pO ov a,((ym N x s F F).map λd=>(d,SV.any))++F,(x,aD (.fam ty ity lt (M.set a (h▸l:List lt.ty)) ov))::(s,aM)::L)
   |_,_,_,_,_,_=>aM)
  |_=>aM)
 |_=>aM
def TB{y:Nat}{ob:SOb}:∀{L:ag},L.at y=aD ob->∃q∈L,q.1=y
 |[],h=>by cases h
 |(k,o)::L,h=>by
  cases hb:bZ y k with
  |true=>simp_all
  |false=>
   have:ag.at L y=aD ob:=by change (match bZ y k with|true=>o|false=>ag.at L y)=aD ob at h;rw[hb]at h;exact h
   obtain⟨q,h1,h2⟩:=TB this;grind
def Wz{n N0:Nat}{F F':Frm}{L L':ag}{ps:List Prop}(h:AR N x F L=aD (ps,F',L'))(hp:∀p∈ps,p):iD (F.av n) L.fn N0 (F'.av n) L'.fn N:=by
 unfold AR at h;split at h
 case h_2=>cases h
 rename_i ty ity lt M a s lt' k ov hx;split at h
 case h_2=>cases h
 rename_i ity' lt2 l hs;split at h
 case h_2=>cases h
 rename_i e1 e2 _ _ hi hN hov hL;subst e1;subst e2;cases h;have hi:=eL hi;subst hi;have hne:∀p∈pO ov a,p:=aH;have:=ZR (n:=n) (N0:=N0) (N:=N) (F:=F) (hav:=ym N x s F F) hx hs (hp _ aH) (hp _ aH) ((lz _ _).1 hN) (λq hq _=>jD hov q hq) (λt _=> ?_) (λy ob ho=> ?_)
 .rw[Mp hne]at this;exact this
 .by_cases hm:t∈F.map (·.1)
  .exact IZ hm
  .right;rw[TA hm];rfl
 .obtain⟨q,hq,rfl⟩:=TB ho;have:=jD hL q hq;split at this
  .grind
  .by_cases hx':q.1=x
   .omega
   .by_cases hs':q.1=s
    .omega
    .have b1:bZ q.1 x=aK:=by
      cases hb:bZ q.1 x with
      |true=>exact absurd (eL hb) hx'
      |false=>rfl
     have b2:bZ q.1 s=aK:=by
      cases hb:bZ q.1 s with
      |true=>exact absurd (eL hb) hs'
      |false=>rfl
     grind
def v7(N:Nat):Nat->List Nat->Frm->ag->List Prop×Frm×ag
 |0,_,F,L=>([],F,L)
 |_+1,[],F,L=>([],F,L)
 |f+1,x::xs,F,L=>match AR N x F L with
  |some (ps,F',L')=>(match v7 N f (x::xs) F' L' with|(qs,r)=>(ps++qs,r))
  |none=>v7 N f xs F L
def GT{n N:Nat}:∀{f:Nat} {xs:List Nat} {F F':Frm} {L L':ag} {ps:List Prop},v7 N f xs F L=(ps,F',L')->(∀p∈ps,p)->∀N0,(ps=[]/\F'=F/\L'=L)\/iD (F.av n) L.fn N0 (F'.av n) L'.fn N
 |0,xs,F,F',L,L',ps,h,_,_=>by cases h;grind
 |f+1,[],F,F',L,L',ps,h,_,_=>by cases h;grind
 |f+1,x::xs,F,F',L,L',ps,h,hp,N0=>by
  unfold v7 at h;split at h
  .rename_i p1 F1 L1 h1;split at h;rename_i qs r h2;cases h;have w1:=Wz (n:=n) (N0:=N0) h1 λp hq=>hp p aH;rcases GT (n:=n) h2 (λp hq=>hp p aH) N with⟨_,rfl,rfl⟩|w2
   .exact .inr w1
   .exact .inr λC0 B wI a w hst=>w2 C0 B wI a w (w1 C0 B wI a w hst)
  .exact GT h hp N0
def XQ{F F':Frm}{L L':ag}{ps:List Prop}(h:AR N x F L=aD (ps,F',L')):(∃p,F'=p++F)/\∃q,L'=q++L:=by
 unfold AR at h;split at h
 case h_2=>cases h
 split at h
 case h_2=>cases h
 split at h
 case h_2=>cases h
 cases h;exact⟨⟨_,rfl⟩,⟨[(_,_),(_,_)],rfl⟩⟩
def Gp{N:Nat}:∀{f:Nat} {xs:List Nat} {F F':Frm} {L L':ag} {ps:List Prop},v7 N f xs F L=(ps,F',L')->(∃p,F'=p++F)/\∃q,L'=q++L
 |0,xs,F,F',L,L',ps,h=>by cases h;simp_all
 |f+1,[],F,F',L,L',ps,h=>by cases h;simp_all
 |f+1,x::xs,F,F',L,L',ps,h=>by
  unfold v7 at h;split at h
  .rename_i p1 F1 L1 h1;split at h;rename_i qs r h2;obtain⟨⟨p,e1⟩,⟨q,e2⟩⟩:=XQ h1;obtain⟨⟨p',e3⟩,⟨q',e4⟩⟩:=Gp h2;grind
  .exact Gp h
def Jv:ag->List Nat
 |[] =>[]
 |(k,aD (.fam ..))::L=>k::Jv L
 |_::L=>Jv L
end
def frS(s:Nat)(cells:List PV)(x' y:AV):Prop:=x'= .any\/x'=y\/∃n,y= .own s 0 n/\x'= .p (.sl n cells)
def frO(s:Nat)(cells:List PV)(o:Option Ob)(ob:Ob):Prop:=o=aD ob\/∃ob0,o=aD ob0/\ob.ty=ob0.ty/\ob.esz=ob0.esz/\¬(ob.esz=0/\(ob.ty=0\/ob.ty=1))/\(aA ob.cells)=(aA ob0.cells)/\
 ∀(i:Nat) x,ob.cells[i]? =aD x->∃y,ob0.cells[i]? =aD y/\frS s cells x y
def frO.get{s:Nat}{cells:List PV}{o:Option Ob}{ob:Ob}(h:frO s cells o ob):∃ob0,o=aD ob0/\ob.ty=ob0.ty/\ob.esz=ob0.esz:=by
 rcases h with h|⟨ob0,h1,h2,h3,_⟩
 .grind
 grind
def F8{F F':List AV}{L L':Sto}{N:Nat}{ty esz:Nat}(s:Nat)(cells:List PV)(hs:L s=aD ⟨ty,esz,cells.map .p⟩)(hz:esz≠0)(hl:aA F'=aA F)
  (hF:∀t,t<aA F->frS s cells (F'.getD t .any) (F.getD t .any)) (hL:∀k ob,L' k=aD ob->k≠s/\frO s cells (L k) ob):iD F L N F' L' N:=by
 intro C0 B wI a w ⟨⟨ρ,s1,s2,s3⟩,s4,s5,s6,s7⟩;have hdead:∀k,L k=aM->L' k=aM:=by
  intro k hk;cases h:L' k with
  |none=>rfl
  |some ob=>obtain⟨ob0,h0,_⟩:=(hL k ob h).2.get;grind
 have hmono:∀b o v,bV C0 B w ρ L b o v->bV C0 B w ρ L' b o v:=λb o v ⟨e1,e2,e3⟩=>⟨e1,λk c h=>hdead k (e2 k c h),e3⟩;have hone:∀x' y v,frS s cells x' y->ai ρ (bV C0 B w ρ L) y v->ai ρ (bV C0 B w ρ L') x' v:=by
  rintro x' y v (rfl|rfl|⟨n,rfl,rfl⟩) hv
  .unfold ai;trivial
  .exact ai.mono (λ_ _ h=>h) hmono _ v hv
  .unfold ai at hv|-;obtain⟨q,c,hρ,hcase⟩:=hv;obtain⟨q2,c2,hρ2,hob⟩:=s1.ob s _ hs;rw[hρ]at hρ2;cases hρ2;unfold bE;rcases hcase with⟨h1,h4,h5,_⟩|⟨b,o',c',h1,h4,h5,h6,h7⟩
   .subst h5;rcases hob with⟨_,⟨_,h8,_⟩|⟨h8,_⟩⟩|⟨b,arr,h8,_⟩
    .exact⟨aM,0,h4,bR _,λ_=>⟨rfl,jc⟩,λad e=>by cases e⟩
    .grind
    grind
   .obtain⟨rfl,rfl⟩:=h7 rfl;rcases hob with⟨h8,_⟩|⟨b2,arr,h8,h9,h10⟩
    .grind
    .rw[h1]at h8;cases h8;refine⟨_,c',h4,h5,(λe=>by cases e),λad e=> ?_⟩;cases e;refine⟨λ_=>rfl,dp.of _ _ _ λi x hi=> ?_⟩;obtain⟨u,k1,k2,k3⟩:=h10.cells i (.p x) aH;unfold ai at k3;refine⟨u,⟨by rw[ku,h10.cell];exact k1,λk c2 hk=> ?_,.inl h9⟩,k2,bE.mono hmono x u k3⟩;cases h:L' k with
     |none=>rfl
     |some ob=>
      obtain⟨hne,h2⟩:=hL k ob h;obtain⟨ob0,h2,_⟩:=h2.get;exact absurd (s1.inj k s ob0 _ b c2 c' h2 hs hk (by rw[hρ,h1])) hne
 refine⟨⟨ρ,⟨?_,?_,?_⟩,s2,?_⟩,s4,s5,by rw[s6,hl],s7⟩
 .intro k ob hk;obtain⟨hne,h2|⟨ob0,h2,g1,g2,g3,g4,g5⟩⟩:=hL k ob hk
  .obtain⟨q,c,hρ,hcase⟩:=s1.ob k ob h2;refine⟨q,c,hρ,?_⟩;rcases hcase with⟨g1,g2⟩|⟨b,arr,g1,g2,g3⟩
   .refine .inl ⟨g1,?_⟩;rcases g2 with g2|⟨g2,g3⟩
    .exact .inl g2
    .exact .inr ⟨g2,g3.mono (λ_ _ h=>h) hmono λ_ _ _ _=>rfl⟩
   .refine .inr ⟨b,arr,g1,g2,⟨g3.blk,g3.box,g3.row,λi x hi=> ?_⟩⟩;obtain⟨v,m1,m2,m3⟩:=g3.cells i x hi;exact⟨v,m1,m2,ai.mono (λ_ _ h=>h) hmono _ v m3⟩
  .obtain⟨q,c,hρ,hcase⟩:=s1.ob k ob0 h2;refine⟨q,c,hρ,?_⟩;rcases hcase with⟨k1,⟨k2,k3,k4⟩|⟨k2,k3⟩⟩|⟨b,arr,k1,k2,k3⟩
   .grind
   .exfalso;refine g3 ⟨aC,?_⟩;rw[g1];rcases k3 with⟨k3,_⟩|⟨k3,_⟩
    .exact .inl k3
    grind
   .refine .inr ⟨b,arr,k1,k2,⟨by rw[g1];exact k3.blk,λh=>by rw[g4];exact k3.box aC,λh=>by rw[g4,g2];exact k3.row aC,λi x hi=> ?_⟩⟩;obtain⟨y,y1,y2⟩:=g5 i x hi;obtain⟨v,m1,m2,m3⟩:=k3.cells i y y1;grind
 .intro k k' o o' b c c' h1 h2 h3 h4;obtain⟨o1,e1,_⟩:=(hL k o h1).2.get;obtain⟨o2,e2,_⟩:=(hL k' o' h2).2.get;exact s1.inj k k' o1 o2 b c c' e1 e2 h3 h4
 .intro k k' o o' c c' h1 h2 h3 h4 h5 h6 h7;obtain⟨o1,e1,a1,a2⟩:=(hL k o h1).2.get;obtain⟨o2,e2,b1,b2⟩:=(hL k' o' h2).2.get;refine s1.mpi k k' o1 o2 c c' e1 e2 aC aC h5 h6 ?_;unfold ut at h7|-;grind
 .intro t;rcases pV t (aA F) with h|h
  .grind
  .rw[fY,oZ aC];show ai _ _ .any _;unfold ai;trivial
noncomputable section
def A6(d:Nat)(F:Frm)(L:ag):Option (List Prop×Frm×ag):=match F.at d with
 | .ownx s n=>(match L.at s with
   |some (.arr _ ez cs)=>(match bm (avs cs),bZ ez 0 with
    |some _,aK=>aD ([],(d,.sl n cs)::F,(s,aM)::L)
    |_,_=>aM)
   |_=>aM)
 | .own s _ n=>(match L.at s with
   |some (.row _ lt l)=>aD ([n=aA l],(d,.lst lt l)::F,(s,aM)::L)
   |_=>aM)
 |_=>aM
variable{L:ag}
def Df{s:Nat}{ob:SOb}(hs:L.at s=aD ob)(hf:ob.flat=aE){k:Nat}{o:Ob}(h:ag.fn ((s,aM)::L) k=aD o):k≠aa s/\L.fn k=aD o:=by have h1:=(bw.flat (σ:=L.at) (rd:=[]) (W:=[(s,aM)]) λq hq=>by rw[cI.1 hq,hs];exact⟨hf,rfl⟩).2.2;rw[ag.EO]at h1;have h2:ag.fn ((s,aM)::L)=bM L.fn [(aa s,aM)] :=h1.symm;rw[h2]at h;unfold bM at h;grind
def RN{n d t:Nat}{v:SV}{F:Frm}(ht:t<n):(Frm.av n ((d,v)::F)).getD t .any=if t=d then v.av else(F.av n).getD t .any:=by rw[Frm.o8 ht,Frm.o8 ht,Frm.n9];split<;>rfl
variable{ps:List Prop}
def Xi{n N d:Nat}{F F':Frm}{L':ag}(h:A6 d F L=aD (ps,F',L'))(hp:∀p∈ps,p):iD (F.av n) L.fn N (F'.av n) L'.fn N:=by
 unfold A6 at h;split at h
 .rename_i s m hd;split at h
  case h_2=>cases h
  rename_i ty ez cs hs;split at h<;>cases h;rename_i q hq hz;refine F8 (aa s) q (ty:=ty) (esz:=ez) ?_ (oc hz) (by rw[Frm.ke,Frm.ke]) ?_ λk ob hk=>⟨(Df hs rfl hk).1,.inl (Df hs rfl hk).2⟩
  .show Sg.a L.at (aa s)=_;rw[Sg.ct,hs,<-kN hq];rfl
  .intro t ht;rw[Frm.ke]at ht;rw[RN ht];by_cases e:t=d
   .subst e;rw[if_pos rfl,Frm.o8 ht,hd];exact .inr (.inr ⟨m,rfl,by show(match bm (avs cs)with|some q=>AV.p (.sl m q)|none=> .any)=_;rw[hq]⟩)
   .rw[if_neg e];exact .inr (.inl rfl)
 .rename_i s t0 m hd;split at h<;>cases h;rename_i ty lt l hs;have hm:m=aA l:=hp _ aH;refine F8 (aa s) (lt.enc l) (ty:=ty) (esz:=lt.w) ?_ (qX lt.mS) (by rw[Frm.ke,Frm.ke]) ?_ λk ob hk=>⟨(Df hs rfl hk).1,.inl (Df hs rfl hk).2⟩
  .show Sg.a L.at (aa s)=_;rw[Sg.ct,hs];rfl
  .intro t ht;rw[Frm.ke]at ht;rw[RN ht];by_cases e:t=d
   .subst e;rw[if_pos rfl,Frm.o8 ht,hd];exact .inr (.inr ⟨m,rfl,by rw[hm];rfl⟩)
   .rw[if_neg e];exact .inr (.inl rfl)
 .cases h
def K3(L:ag):SV->Option (List Prop×SV×Nat)
 | .ownx s n=>(match L.at s with
   |some (.arr _ ez cs)=>(match bm (avs cs),bZ ez 0 with
    |some _,aK=>aD ([],.sl n cs,s)
    |_,_=>aM)
   |_=>aM)
 | .own s _ n=>(match L.at s with
   |some (.row _ lt l)=>aD ([n=aA l],.lst lt l,s)
   |_=>aM)
 |_=>aM
def aAp{v w:SV}{s:Nat}(h:K3 L v=aD (ps,w,s))(hp:∀p∈ps,p):∃ob,L.at s=aD ob/\ob.flat=aE/\∃ty esz cells n,ob.ob s=⟨ty,esz,cells.map .p⟩/\esz≠0/\v.av= .own (aa s) 0 n/\w.av= .p (.sl n cells)/\(∀ty cs,ob≠ .box ty cs):=by
 unfold K3 at h;split at h
 .rename_i s m;split at h
  case h_2=>cases h
  rename_i ty ez cs hs;split at h<;>cases h;rename_i q hq hz;exact⟨_,hs,rfl,ty,ez,q,m,by rw[<-kN hq];rfl,oc hz,rfl,by show(match bm (avs cs)with|some q=>AV.p (.sl m q)|none=> .any)=_;rw[hq],λ_ _=>nofun⟩
 .rename_i s t0 m;split at h<;>cases h;rename_i ty lt l hs;have hm:m=aA l:=hp _ aH;exact⟨_,hs,rfl,ty,lt.w,lt.enc l,m,rfl,qX lt.mS,rfl,by rw[hm];rfl,λ_ _=>nofun⟩
 .cases h
def A7(k i:Nat)(L:ag):Option (List Prop×ag):=match L.at k with
 |some (.box ty cs)=>(match cs[i]?,ph ty 1 with
  |some v,aK=>(match K3 L v with
   |some (ps,w,s)=>aD (ps,(k,aD (.box ty (cs.set i w)))::(s,aM)::L)
   |none=>aM)
  |_,_=>aM)
 |_=>aM
def Xj{n N k i:Nat}{F:Frm}{L':ag}(h:A7 k i L=aD (ps,L'))(hp:∀p∈ps,p):iD (F.av n) L.fn N (F.av n) L'.fn N:=by
 unfold A7 at h;split at h
 case h_2=>cases h
 rename_i ty cs hk;split at h
 case h_2=>cases h
 rename_i v hv hty;split at h<;>cases h;rename_i w s hf;obtain⟨ob,e1,e2,tys,esz,cells,m,e3,e4,e5,e6,e7⟩:=aAp hf hp;have hks:k≠s:=λe=>aH;have hty:¬ty<=1:=λhh=>by rw[Nat.ble_eq_true_of_le hh]at hty;cases hty
 have up:ag.fn ((k,aD (.box ty (cs.set i w)))::(s,aM)::L)=bM L.fn [(aa k,aD ((SOb.box ty (cs.set i w)).ob k)),(aa s,aM)] :=by
  have h1:=(bw.flat (σ:=L.at) (rd:=[]) (W:=[(k,aD (.box ty (cs.set i w))),(s,aM)]) λq hq=>by
   rcases bO.1 hq with rfl|hq
   .rw[hk];exact⟨rfl,rfl⟩
   .rw[cI.1 hq,e1];exact⟨e2,rfl⟩).2.2
  rw[ag.EO]at h1;exact h1.symm
 refine F8 (aa s) cells (ty:=tys) (esz:=esz) ?_ e4 rfl (λt ht=> .inr (.inl rfl)) λj ob' hj=> ?_
 .show Sg.a L.at (aa s)=_;rw[Sg.ct,e1,fk,e3]
 .rw[up]at hj;unfold bM at hj;rw[eZ,eZ]at hj;by_cases h1:j=aa k
  .subst h1;rw[beq_iff_eq.2 rfl]at hj;cases hj;refine⟨λe=>hks (nV e),.inr ⟨(SOb.box ty cs).ob k,by show Sg.a L.at (aa k)=_;rw[Sg.ct,hk];rfl,rfl,rfl,?_,?_,?_⟩⟩
   .rintro⟨_,hh|hh⟩
    .have hh:ty=0:=hh;grind
    .have hh:ty=1:=hh;grind
   .show(avs (cs.set i w)).length=aA (avs cs);rw[lD,lD,Bv]
   .intro a x hx;have hx:(avs (cs.set i w))[a]? =aD x:=hx;rw[SN,List.getElem?_set]at hx;by_cases ha:i=a
    .subst ha;rw[if_pos rfl,if_pos aH]at hx;cases hx;exact⟨v.av,by show(avs cs)[i]? =_;rw[Ah,hv];rfl,.inr aH⟩
    .rw[if_neg ha]at hx;exact⟨x,hx,.inr (.inl rfl)⟩
  .rw[beq_eq_false_iff_ne.2 h1]at hj;by_cases h2:j=aa s
   .grind
   .rw[beq_eq_false_iff_ne.2 h2]at hj;exact⟨h2,.inl hj⟩
def Yr{k i:Nat}{L':ag}(h:A7 k i L=aD (ps,L')):∃q,L'=q++L:=by
 unfold A7 at h;split at h
 case h_2=>cases h
 split at h
 case h_2=>cases h
 split at h<;>cases h;exact⟨[(_,_),(_,_)],rfl⟩
def KU(k:Nat):Nat->List SV->List (Nat×Nat)
 |_,[] =>[]
 |i,.lst _ _::r=>(k,i)::KU k (i+1) r
 |i,_::r=>KU k (i+1) r
def K5:List (Nat×SOb)->List (Nat×Nat)
 |[] =>[]
 |(k,.box _ cs)::r=>KU k 0 cs++K5 r
 |_::r=>K5 r
def wF:List (Nat×Nat)->ag->List Prop×ag
 |[],L=>([],L)
 |d::ds,L=>match A7 d.1 d.2 L with
  |some (ps,L')=>(match wF ds L' with|(qs,r)=>(ps++qs,r))
  |none=>wF ds L
def Ge{n N:Nat}{F:Frm}:∀{ds:List (Nat×Nat)} {L L':ag} {ps:List Prop},wF ds L=(ps,L')->(∀p∈ps,p)->iD (F.av n) L.fn N (F.av n) L'.fn N
 |[],L,L',ps,h,_=>by cases h;exact iD.rfl
 |d::ds,L,L',ps,h,hp=>by
  unfold wF at h;split at h
  .rename_i p1 L1 h1;split at h;rename_i qs r h2;cases h;have w1:=Xj (n:=n) (N:=N) (F:=F) h1 λp hq=>hp p aH;have w2:=Ge (n:=n) (N:=N) (F:=F) h2 λp hq=>hp p aH;exact λC0 B wI a w hst=>w2 C0 B wI a w (w1 C0 B wI a w hst)
  .exact Ge h hp
def HN:∀{ds:List (Nat×Nat)} {L L':ag} {ps:List Prop},wF ds L=(ps,L')->∃q,L'=q++L
 |[],L,L',ps,h=>by cases h;simp_all
 |d::ds,L,L',ps,h=>by
  unfold wF at h;split at h
  .rename_i p1 L1 h1;split at h;rename_i qs r h2;obtain⟨q,e2⟩:=Yr h1;obtain⟨q',e4⟩:=HN h2;grind
  .exact HN h
def K4:Frm->List Nat
 |[] =>[]
 |(d,.lst _ _)::r=>d::K4 r
 |_::r=>K4 r
def wM:List Nat->Frm->ag->List Prop×Frm×ag
 |[],F,L=>([],F,L)
 |d::ds,F,L=>match A6 d F L with
  |some (ps,F',L')=>(match wM ds F' L' with|(qs,r)=>(ps++qs,r))
  |none=>wM ds F L
def HJ{n N:Nat}:∀{ds:List Nat} {F F':Frm} {L L':ag} {ps:List Prop},wM ds F L=(ps,F',L')->(∀p∈ps,p)->iD (F.av n) L.fn N (F'.av n) L'.fn N
 |[],F,F',L,L',ps,h,_=>by cases h;exact iD.rfl
 |d::ds,F,F',L,L',ps,h,hp=>by
  unfold wM at h;split at h
  .rename_i p1 F1 L1 h1;split at h;rename_i qs r h2;cases h;have w1:=Xi (n:=n) (N:=N) h1 λp hq=>hp p aH;have w2:=HJ (n:=n) (N:=N) h2 λp hq=>hp p aH;exact λC0 B wI a w hst=>w2 C0 B wI a w (w1 C0 B wI a w hst)
  .exact HJ h hp
def Yq{d:Nat}{F F':Frm}{L':ag}(h:A6 d F L=aD (ps,F',L')):(∃p,F'=p++F)/\∃q,L'=q++L:=by
 unfold A6 at h;split at h
 .split at h
  case h_2=>cases h
  split at h<;>cases h;exact⟨⟨[_],rfl⟩,⟨[_],rfl⟩⟩
 .split at h<;>cases h;exact⟨⟨[_],rfl⟩,⟨[_],rfl⟩⟩
 .cases h
def IQ:∀{ds:List Nat} {F F':Frm} {L L':ag} {ps:List Prop},wM ds F L=(ps,F',L')->(∃p,F'=p++F)/\∃q,L'=q++L
 |[],F,F',L,L',ps,h=>by cases h;simp_all
 |d::ds,F,F',L,L',ps,h=>by
  unfold wM at h;split at h
  .rename_i p1 F1 L1 h1;split at h;rename_i qs r h2;obtain⟨⟨p,e1⟩,⟨q,e2⟩⟩:=Yq h1;obtain⟨⟨p',e3⟩,⟨q',e4⟩⟩:=IQ h2;grind
  .exact IQ h
end
noncomputable section
inductive Ann:Type 1
 |mk (Y:Type) (wit:Frm->ag->Option Y) (rk:List Nat) (inv:Y->List Prop) (upd:Y->Frm) (obs:Y->List (Nat×SOb)) (mu:Y->Nat) (inner:Y->List (Nat×Ann))
def Tj:List (Nat×Ann)->Nat->Option Ann
 |[],_=>aM
 |(k,a)::l,x=>match bZ x k with|true=>aD a|false=>Tj l x
def asg:Code->List Nat
 | .region _ ops _=>ops.toList.filterMap (·.dst)
 | .seq a b=>asg a++asg b
 | .cond _ t e=>asg t++asg e
 | .block _ c=>asg c
 | .loop c=>asg c
 | .scope c=>asg c
 |_=>[]
def ue:Code->Option Nat
 | .region id _ _=>aD id
 | .seq a b=>(match ue a with|some k=>aD k|none=>ue b)
 | .cond _ t e=>(match ue t with|some k=>aD k|none=>ue e)
 | .block _ c=>ue c
 | .loop c=>ue c
 | .scope c=>ue c
 |_=>aM
def Kg(A:List (Nat×Ann))(c:Code)(j:Nat):Option Ann:=match ue c with
 |some k=>Tj A (k+j)
 |none=>aM
def uj(N:Nat):List Nat->Nat
 |[] =>N
 |s::l=>(match jt (ncl s) (uj N l)with|true=>uj N l|false=>ncl s+1)
abbrev rE:=Exit->Frm->ag->Nat->Fm
def Ki(X:Cx)(n:Nat)(raw:Nat->Nat->Bool)(id:Nat)(ops:List Oper)(draw:Bool)(F:Frm)(L:ag)(N:Nat)(K:Frm->ag->Fm):Fm:=match draw with
 |true=>(match X.P.follows .mixedOrders,Eb ops (J6 ops),dOk ops n with
  |true,aE,aE=>iy X n (raw id) N (ops.map (·.dst)) ops 0 F L [] λF L log=>(match Aq (J6 ops) log with|true=>K F L|false=> .stuck (id+100000))
  |_,_,_=> .stuck (id+200000))
 |false=>(match gOk ops with
  |true=>iy X n (raw id) N (ops.map (·.dst)) ops 0 F L [] λF L _=>K F L
  |false=> .stuck (id+300000))
def BT(n:Nat)(F:Frm)(L:ag)(N:Nat)(rk:List Nat)(upd:Frm)(obs:List (Nat×SOb))(qs:List Prop)(F':Frm)(L':ag):Fm:=match wM (K4 upd) F' L' with
 |(pz,F0,La)=>match wF (K5 obs) La with
  |(pb,L0)=>match v7 NM 100 (Jv L0) F0 L0 with
   |(p0,F1,L1)=>(match gH (λq:Nat×SV=>mem ((F'.take (aA F'-aA F)).map (·.1)) q.1) (F1.take (aA F1-aA F')),Ed n L N (uj N rk) rk upd obs F1 L1 with
    |true,aD ps=>uZ (pz++(pb++(p0++(ps++qs)))) .tt
    |_,_=> .stuck 400000)
def exq{Y:Type}(w:Option Y)(f:Y->Fm):Fm:=match w with
 |some y=>f y
 |none=> .ex Y f
def HZ{Y:Type}{w:Option Y}{f:Y->Fm}(h:(exq w f).holds):∃y,(f y).holds:=by
 cases w with
 |some y=>exact⟨y,h⟩
 |none=>exact h
def Sv(A:List (Nat×Ann))(c:Code):Nat->Option Nat
 |0=>aM
 |k+1=>(match Kg A c (30001+k)with|some _=>aD (k+1)|none=>Sv A c k)
def unr(body:rE->Frm->ag->Nat->Fm)(Q:rE):Nat->Frm->ag->Nat->Fm
 |0,_,_,_=> .stuck 810000
 |k+1,F,L,N=>body (λe F' L' N'=>match e with| .normal=>unr body Q k F' L' N'|e=>Q e F' L' N') F L N
abbrev Inl:=Nat->List SV->Frm->Nat->ag->Nat->(SV->ag->Nat->Fm)->Fm
def KS:Inl:=λ_ _ _ _ _ _ _=> .stuck 990000
def Ax:List Oper->Option (List Oper×Oper)
 |[] =>aM
 |o::l=>(match Ax l with|some (p,q)=>aD (o::p,q)|none=>aD ([],o))
def Od:∀{l pre:List Oper} {o:Oper},Ax l=aD (pre,o)->l=pre++[o]
 |[],pre,o,h=>by cases h
 |x::l,pre,o,h=>by
  unfold Ax at h;split at h
  .rename_i p q hp;cases h;rw[Od hp];rfl
  .rename_i hp;cases h;cases l with
   |nil=>rfl
   |cons y l=>
    unfold Ax at hp;grind
def KX(X:Cx)(ops:List Oper):Option (List Oper×Oper×Nat×List Operand):=match Ax ops with
 |some (pre,o)=>(match o.guard,o.op with
  |none,.call {callee:= .value (.func f),args, .. }=>(match X.inl f with|true=>aD (pre,o,f,args.toList)|false=>aM)
  |_,_=>aM)
 |none=>aM
def Yh{X:Cx}{ops pre:List Oper}{o:Oper}{f:Nat}{args:List Operand}(h:KX X ops=aD (pre,o,f,args)):ops=pre++[o]/\o.guard=aM/\∃c:Call,o.op= .call c/\c.callee= .value (.func f)/\c.args.toList=args:=by
 unfold KX at h;split at h
 case h_2=>cases h
 rename_i p q hl;split at h
 case h_2=>cases h
 rename_i hg ho;split at h<;>cases h;exact⟨Od hl,hg,_,ho,rfl,rfl⟩
def Kh(X:Cx)(I:Inl):Prop:=∀(f:Nat) (xs:List SV) (F:Frm) (n:Nat) (L:ag) (N:Nat) (K:SV->ag->Nat->Fm) (o:Oper) (c:Call),o.op= .call c->c.callee= .value (.func f)->c.args.toList.map (l9 (F.av n))=avs xs->(I f xs F n L N K).holds->
 wR X.P o (F.av n) L.fn N λFA LA N'=>∃r L',r.ok/\FA=fh (F.av n) o.dst r.av/\LA=L'.fn/\i8 L L'/\(K r L' N').holds
def Py(X:Cx):Kh X KS:=λ_ _ _ _ _ _ _ _ _ _ _ _ h=>h.elim
def vc(X:Cx)(I:Inl)(n:Nat)(raw:Nat->Nat->Bool):Code->(Nat->Bool)->List (Nat×Ann)->rE->Frm->ag->Nat->Fm
 | .skip,_,_,Q,F,L,N=>Q .normal F L N
 | .region id ops draw,_,_,Q,F,L,N=>(match draw,KX X ops.toList with
   |false,aD (pre,o,f,args)=>iy X n (raw id) N (ops.toList.map (·.dst)) pre 0 F L [] λF L _=>I f (args.map (wG n F)) F n L (N+aA pre) λr L' N'=>Q .normal (rH n F o.dst r) L' N'
   |_,_=>Ki X n raw id ops.toList draw F L N λF L=>Q .normal F L (N+ops.size))
 | .seq a b,al,A,Q,F,L,N=>(match Kg A b 10000 with
   |none=>vc X I n raw a al A (λe F L N=>match e with| .normal=>vc X I n raw b al A Q F L N|e=>Q e F L N) F L N
   |some (.mk Y wit rk inv upd obs _ inner)=>(match gH al (lW F rk N F)with
    |true=> .both
     (vc X I n raw a (mem (asg a)) A (λe F1 L1 N1=>match e with| .normal=>exq (wit F1 L1) λy=>BT n F L N rk (upd y) (obs y) (inv y) F1 L1|e=>Q e F1 L1 N1) F L N)
     (.all Y λy=>Kx (inv y) (match gH (λq=>mem (asg a++lW F rk N F) q.1) (upd y)with
       |true=>vc X I n raw b al (inner y++A) Q (nB F (upd y) (asg a++lW F rk N F)) (kT L (obs y)) (uj N rk)
       |false=> .stuck 500000))
    |false=> .stuck 600000))
 | .cond c t e,al,A,Q,F,L,N=>(match wG n F c with
   | .lit aE=>vc X I n raw t al A Q F L N
   | .lit aK=>vc X I n raw e al A Q F L N
   | .prop p _=> .both (.imp p (vc X I n raw t al A Q F L N)) (.imp (¬p) (vc X I n raw e al A Q F L N))
   | .bool b=> .both (.imp (b=aE) (vc X I n raw t al A Q F L N)) (.imp (b=aK) (vc X I n raw e al A Q F L N))
   |_=> .stuck 700000)
 | .block id c,al,A,Q,F,L,N=>vc X I n raw c al A (λe F L N=>match e with| .exit id'=>(match bZ id' id with|true=>Q .normal F L N|false=>Q (.exit id') F L N)|e=>Q e F L N) F L N
 | .loop c,al,A,Q,F,L,N=>(match Kg A c 0 with
   |none=>(match Sv A c 6 with
    |some k=>unr (λQ F L N=>vc X I n raw c al A Q F L N) Q k F L N
    |none=> .stuck 800000)
   |some (.mk Y wit rk inv upd obs mu inner)=>(match gH al (lW F rk N F)with
    |true=> .both
     (exq (wit F L) λy=>BT n F L N rk (upd y) (obs y) (inv y) F L)
     (.all Y λx=>Kx (inv x) (match gH (λq=>mem (asg c++lW F rk N F) q.1) (upd x)with
       |true=>vc X I n raw c (mem (asg c)) (inner x++A) (λe F1 L1 N1=>match e with| .normal=>exq (wit F1 L1) λy=>BT n F L N rk (upd y) (obs y) (inv y++[mu y<mu x]) F1 L1|e=>Q e F1 L1 N1) (nB F (upd x) (asg c++lW F rk N F)) (kT L (obs x)) (uj N rk)
       |false=> .stuck 500000))
    |false=> .stuck 600000))
 | .exit id,_,_,Q,F,L,N=>Q (.exit id) F L N
 | .ret,_,_,Q,F,L,N=>Q .ret F L N
 | .scope c,al,A,Q,F,L,N=>vc X I n raw c al A (λe F L N=>match e with| .goto _=> .stuck 910001|e=>Q e F L N) F L N
 | .label _,_,_,Q,F,L,N=>Q .normal F L N
 |_,_,_,_,_,_,_=> .stuck 900000
def jM.mono{n:Nat}{S T:Nat->Prop}{F:Frm}{L:ag}{FA:List AV}{LA:Sto}{G H:Frm->ag->Prop}(hS:∀d,S d->T d)(hG:∀F L,F.ok->G F L->H F L)(h:jM n S F L FA LA G):jM n T F L FA LA H:=by obtain⟨F',L',a,b,c,d,e,f⟩:=h;exact⟨F',L',a,b,c,d.mono hS,e,hG F' L' c f⟩
def least{p:Nat->Prop}(h:∃k,p k):∃k,p k/\∀j,p j->k<=j:=by
 obtain⟨k,hk⟩:=h;induction k using Nat.strongRecOn with
 |ind k ih=>
  grind
variable{hav:List Nat}
def Om{F upd:Frm}:Pre (λd=>d∈upd.map (·.1)\/d∈hav) F (nB F upd hav):=by refine⟨upd++(hav.map λd=>(d,SV.any)),by unfold nB;simp,λq hq=> ?_⟩;grind
def HI{L:ag}{obs:List (Nat×SOb)}:i8 L (kT L obs):=⟨_,rfl⟩
def QI{F upd:Frm}(hF:F.ok)(hu:∀q∈upd,q.2.ok):(nB F upd hav).ok:=by
 intro t;unfold nB;rw[Frm.rq,Frm.rq];split
 .split
  .rename_i h;exact hu _ (yY h)
  .rw[TE];split<;>trivial
 .exact hF t
def SC{n:Nat}{F':Frm}:∀{upd:Frm} {ps:List Prop} {r:Rm},yg n F' upd=aD (ps,r)->∀q∈upd,q.2.ok
 |[],ps,r,_,q,hq=>by cases hq
 |(d,v)::upd,ps,r,h,q,hq=>by
  unfold yg at h;split at h<;>cases h;rename_i p1 m1 p2 m2 h1 h2 h3 h4;rcases bO.1 hq with rfl|hq
  .exact SV.qJ h2
  .exact SC h4 q hq
def JL{n:Nat}{F F' upd:Frm}{L L':ag}{N N':Nat}{rk:List Nat}{obs:List (Nat×SOb)}{qs:List Prop}(h:(BT n F L N rk upd obs qs F' L').holds)
  (hF:Pre (λd=>d∈hav) F F') (hbad:∀d∈lW F rk N F,d∈hav) (hL:i8 L L'):
  iD (F'.av n) L'.fn N' ((nB F upd hav).av n) (kT L obs).fn (uj N rk)/\(∀p∈qs,p)/\∀q∈upd,q.2.ok:=by
 unfold BT at h;split at h;rename_i pz F0 La hz;split at h;rename_i pb L0 hb;split at h;rename_i p0 F1 L1 h0;split at h
 .rename_i ps hc hm;have hp:=(vH h).1;obtain⟨⟨pa,ea1⟩,⟨qa,ea2⟩⟩:=Gp h0;obtain⟨⟨pb',eb1⟩,⟨qb,eb2⟩⟩:=IQ hz;obtain⟨qc,ec2⟩:=HN hb;obtain⟨p,e1⟩:∃p,F1=p++F':=aH;obtain⟨q,e2⟩:∃q,L1=q++L':=aH;have wz1:=HJ (n:=n) (N:=N') hz λp hpp=>hp p aH;have wz2:=Ge (n:=n) (N:=N') (F:=F0) hb λp hpp=>hp p aH;have wz:iD (F'.av n) L'.fn N' (F0.av n) L0.fn N':=λC0 B wI a w hst=>wz2 C0 B wI a w (wz1 C0 B wI a w hst);have hp:∀p∈p0++(ps++qs),p:=λp hpp=>hp p aH;have hF1:Pre (λd=>d∈hav) F F1:=by
   obtain⟨pre,e3,hpre⟩:=hF;refine⟨p++pre,aH,λr hr=> ?_⟩;rcases bz.1 hr with hr|hr
   .have:=jD hc r (by rw[e1,(af:aA (p++F')-aA F'=aA p),Fe];exact hr);obtain⟨r',h1,h2⟩:=bn.1 ((mem_iff _ _).1 this);grind
   .grind
  have hL1:i8 L L1:=by obtain⟨pre,e3⟩:=hL;exact⟨q++pre,aH⟩
  have hps:∀p∈ps,p:=λp hpp=>hp p aH;refine⟨?_,λp hpp=>hp p aH,?_⟩
  .rcases GT (n:=n) h0 (λp hpp=>hp p aH) N' with⟨_,f1,f2⟩|w
   .have:=OU (N':=N') hm hps hF1 hbad hL1;rw[f1,f2]at this;exact λC0 B wI a w' hst=>this C0 B wI a w' (wz C0 B wI a w' hst)
   .have:=OU (N':=NM) hm hps hF1 hbad hL1;exact λC0 B wI a w' hst=>this C0 B wI a w' (w C0 B wI a w' (wz C0 B wI a w' hst))
  unfold Ed at hm;split at hm
  .cases hm
  .rename_i h1;exact SC h1
 .exact h.elim
def Ql{X:Cx}(hX:X.Ok){n:Nat}{raw:Nat->Nat->Bool}{id:Nat}{ops:Array Oper}{draw:Bool}{F:Frm}{L:ag}{N:Nat}{K:Frm->ag->Fm}(hF:F.ok)(h:(Ki X n raw id ops.toList draw F L N K).holds):
  Vu X.P draw ops.toList (F.av n) L.fn N λFA LA=>jM n (λd=>d∈asg (.region id ops draw)) F L FA LA λF' L'=>(K F' L').holds:=by
 have hd:∀o∈ops.toList,o.dst∈ops.toList.map (·.dst):=aH;have hS:∀d,aD d∈ops.toList.map (·.dst)->d∈asg (.region id ops draw):=by intro d hd;obtain⟨o,ho,e⟩:=bn.1 hd;exact Lm.2 ⟨o,ho,e⟩
 unfold Ki at h;split at h
 .split at h
  .rename_i h1 h2 h3;refine⟨_,h1,h2,by rw[Frm.ke];exact h3,?_⟩;refine kg ?_ (AS hX ops.toList 0 F L [] hd hF h);intro FA LA log ht;have hf:Aq (J6 ops.toList) log=aE:=by
    obtain⟨_,_,_,_,_,_,_,hh⟩:=ht;split at hh
    .assumption
    .exact hh.elim
   refine⟨hf,ht.mono hS λF L _ hh=> ?_⟩;grind
  .exact h.elim
 .split at h
  .rename_i h1;exact⟨h1,kg (λ_ _ _ ht=>ht.mono hS λ_ _ _ h=>h) (AS hX ops.toList 0 F L [] hd hF h)⟩
  .exact h.elim
def Ho{X:Cx}(hX:X.Ok){I:Inl}(hI:Kh X I){n:Nat}{raw:Nat->Nat->Bool}:∀(c:Code) (al:Nat->Bool) (A:List (Nat×Ann)) (Q:rE) (F:Frm) (L:ag) (N:Nat),(∀d∈asg c,al d=aE)->F.ok->(vc X I n raw c al A Q F L N).holds->
  awp X.P c (λe FA LA N'=>jM n (λd=>al d=aE) F L FA LA λF' L'=>(Q e F' L' N').holds) (F.av n) L.fn N:=by
 intro c;induction c with
 |skip=>intro al A Q F L N hal hF h;exact⟨F,L,rfl,rfl,hF,Pre.rfl,i8.rfl,h⟩
 |region id ops draw=>
  intro al A Q F L N hal hF h;unfold vc at h;cases draw with
  |true=>
   have:=Ql (draw:=aE) hX hF h;left;obtain⟨anc,h1,h2,h3,h4⟩:=this;exact⟨anc,h1,h2,h3,kg (λF L log ⟨a,b⟩=>⟨a,b.mono hal λ_ _ _ h=>h⟩) h4⟩
  |false=>
  split at h
  .rename_i pre o f args _ hin;obtain⟨e1,e2,c,e3,e4,e5⟩:=Yh hin;have hd:∀o'∈pre,o'.dst∈ops.toList.map (·.dst):=aH;have hS:∀d,aD d∈ops.toList.map (·.dst)->al d=aE:=by intro d hd;obtain⟨o',ho,e⟩:=bn.1 hd;exact hal d (Lm.2 ⟨o',ho,e⟩)
   refine .inr ⟨rfl,pre,o,e1,e2,kg ?_ (AS hX pre 0 F L [] hd hF h)⟩;rintro FA LA log ⟨F',L',rfl,rfl,hF',hpre,hpreL,hh⟩;refine(hI f _ F' n L' _ _ o c e3 e4 ?_ hh).mono ?_
   .rw[e5,kQ,du];exact lg λx _=>(IU x).symm
   .rintro FA LA N' ⟨r,L2,hr,rfl,rfl,hpl,hq⟩;refine⟨rH n F' o.dst r,L2,by rw[I3],rfl,I2 hF' hr,((hpre.mono hS).trans (H5 λt ht=>hS t ?_)),hpreL.trans hpl,hq⟩;grind
  .have:=Ql (draw:=aK) hX hF h;left;obtain⟨h1,h2⟩:=this;exact⟨h1,kg (λF L log b=>b.mono hal λ_ _ _ h=>h) h2⟩
 |seq a b iha ihb=>
  intro al A Q F L N hal hF h;have hala:∀d∈asg a,al d=aE:=λd hd=>hal d (iS _ hd);have halb:∀d∈asg b,al d=aE:=λd hd=>hal d (iF _ hd);unfold vc at h;split at h
  .have h1:=iha al A _ F L N hala hF h;refine⟨λFA LA N'=>jM n (λd=>al d=aE) F L FA LA λF' L'=>(vc X I n raw b al A Q F' L' N').holds,p7 a ?_ h1,?_⟩
   .grind
   .rintro FA LA N' ⟨F',L',rfl,rfl,hF',hpre,hpreL,hh⟩;refine⟨_,_,_,iD.rfl,p7 b ?_ (ihb al A Q F' L' N' halb hF' hh)⟩;intro e FA LA N' ht;exact ht.step hpre hpreL
  .rename_i Y wit rk inv upd obs mu inner hA;split at h
   case h_2=>exact h.elim
   rename_i hbad;have hbad:=jD hbad;obtain⟨h1,h2⟩:=Fm.xK h;have hmem:∀d,mem (asg a) d=aE->d∈asg a:=λd=>(mem_iff d _).1;have h1:=iha (mem (asg a)) A _ F L N (λd hd=>(mem_iff _ _).2 hd) hF h1;refine XH (λFA LA N'=>∃y,(∀p∈inv y,p)/\(∀q∈upd y,q.2.ok)/\FA=(nB F (upd y) (asg a++lW F rk N F)).av n/\LA=(kT L (obs y)).fn/\N'=uj N rk) (p7 a ?_ h1) ?_
   .intro e FA LA N' ht;cases e
    case normal=>
     obtain⟨F',L',rfl,rfl,hF',hpre,hpreL,hh⟩:=ht;obtain⟨y,hh⟩:=HZ hh;obtain⟨k1,k2,k3⟩:=JL (N':=N') (hav:=asg a++lW F rk N F) hh (hpre.mono aH) aH hpreL;grind
    all_goals exact ht.mono aH λ_ _ _ h=>h
   .rintro FA LA N' ⟨y,hy,hok,rfl,rfl,rfl⟩;have h2:=NY ((h2:∀y:Y,Fm.holds _) y) hy;split at h2
    case h_2=>exact h2.elim
    rename_i hu;have hu:=jD hu;refine p7 b ?_ (ihb al (inner y++A) Q _ _ _ halb (QI hF hok) h2);intro e FA LA N' ht;refine ht.step (Om.mono ?_) HI;rintro d (hd|hd)
    .obtain⟨q,hq,rfl⟩:=bn.1 hd;rcases bz.1 ((mem_iff _ _).1 (hu q hq))with hd|hd
     .grind
     grind
    grind
 |cond c t e iht ihe=>
  intro al A Q F L N hal hF h;have halt:∀d∈asg t,al d=aE:=λd hd=>hal d (iS _ hd);have hale:∀d∈asg e,al d=aE:=λd hd=>hal d (iF _ hd);unfold vc at h;have ev:∀v,wG n F c=v->l9 (F.av n) c=v.av:=λv hv=>by rw[<-IU,hv]
  split at h
  .rename_i hc;exact⟨aE,ev _ hc,aH,aH⟩
  .rename_i hc;exact⟨aK,ev _ hc,aH,aH⟩
  .rename_i p d hc;obtain⟨h1,h2⟩:=Fm.xK h;refine⟨@decide p d,ev _ hc,λhh=>iht al A Q F L N halt hF ((h1:p->_) aH),λhh=>ihe al A Q F L N hale hF ((h2:¬p->_) aH)⟩
  .rename_i b hc;obtain⟨h1,h2⟩:=Fm.xK h;exact⟨b,ev _ hc,λhh=>iht al A Q F L N halt hF ((h1:b=aE->_) hh),λhh=>ihe al A Q F L N hale hF ((h2:b=aK->_) hh)⟩
  .exact h.elim
 |block id c ih=>
  intro al A Q F L N hal hF h;have:=ih al A _ F L N hal hF h;refine p7 c ?_ this;intro e FA LA N' ht;cases e
  case exit id'=>
   dsimp only at ht|-;cases hb:bZ id' id with
   |true=>
    simp_all
   |false=>
    rw[if_neg (oc hb)];grind
  all_goals exact ht
 |loop c ih=>
  intro al A Q F L N hal hF h;unfold vc at h;split at h
  .split at h
   case h_2=>exact h.elim
   rename_i k0 _
   let rep:Nat->List AV->Sto->Nat->Prop:=λk FA LA N'=>jM n (λd=>al d=aE) F L FA LA λF' L'=>(unr (λQ F L N=>vc X I n raw c al A Q F L N) Q k F' L' N').holds
   have hmu:∃μ:List AV->Sto->Nat->Nat,∀FA LA N',(∃k,rep k FA LA N')->rep (μ FA LA N') FA LA N'/\∀k,rep k FA LA N'->μ FA LA N'<=k:=by
    have:∀FA LA N',∃k,(∃k,rep k FA LA N')->rep k FA LA N'/\∀j,rep j FA LA N'->k<=j:=by
     intro FA LA N';by_cases hh:∃k,rep k FA LA N'
     .obtain⟨k,h1,h2⟩:=least hh;exact⟨k,aH⟩
     .simp_all
    exact⟨λFA LA N'=>Classical.choose (this FA LA N'),λFA LA N'=>Classical.choose_spec (this FA LA N')⟩
   obtain⟨μ,hμ⟩:=hmu;refine aAW (λFA LA N'=>∃k,rep k FA LA N') μ ⟨_,_,_,iD.rfl,k0,⟨F,L,rfl,rfl,hF,Pre.rfl,i8.rfl,h⟩⟩ ?_;intro FA LA N' hr;have hk:=(hμ FA LA N' hr).1;generalize hkk:μ FA LA N'=k at hk|-;obtain⟨F',L',rfl,rfl,hF',hpre,hpreL,hh⟩:=hk;cases k with
   |zero=>exact hh.elim
   |succ k=>
    refine p7 c ?_ (ih al A _ F' L' N' hal hF' hh);intro e FA LA N2 ht;have ht:=ht.step hpre hpreL;cases e
    case normal=>
     have hr2:rep k FA LA N2:=ht;exact⟨_,_,_,iD.rfl,⟨k,hr2⟩,Nat.lt_succ_of_le ((hμ _ _ _ ⟨k,hr2⟩).2 k hr2)⟩
    all_goals exact ht
  rename_i Y wit rk inv upd obs mu inner hA;split at h
  case h_2=>exact h.elim
  rename_i hbad;have hbad:=jD hbad;obtain⟨h1,h2⟩:=Fm.xK h;obtain⟨y0,h1⟩:=HZ h1;have hmem:∀d,mem (asg c) d=aE->d∈asg c:=λd=>(mem_iff d _).1
  let hav:=asg c++lW F rk N F
  let rep:Y->List AV->Sto->Prop:=λy FA LA=>(∀p∈inv y,p)/\(∀q∈upd y,q.2.ok)/\FA=(nB F (upd y) hav).av n/\LA=(kT L (obs y)).fn
  obtain⟨k1,k2,k3⟩:=JL (N':=N) (hav:=hav) h1 Pre.rfl aH i8.rfl;have hmu:∃μ:List AV->Sto->Nat,∀FA LA,(∃y,rep y FA LA)->∃y,rep y FA LA/\mu y=μ FA LA/\∀z,rep z FA LA->μ FA LA<=mu z:=by
   have:∀FA LA,∃k,(∃y,rep y FA LA)->∃y,rep y FA LA/\mu y=k/\∀z,rep z FA LA->k<=mu z:=by
    intro FA LA;by_cases hh:∃y,rep y FA LA
    .obtain⟨y,hy⟩:=hh;obtain⟨k,⟨z,hz,e⟩,hk⟩:=least (p:=λk=>∃y,rep y FA LA/\mu y=k) ⟨_,y,hy,rfl⟩;exact⟨k,aH⟩
    .exact⟨0,aH⟩
   exact⟨λFA LA=>Classical.choose (this FA LA),λFA LA=>Classical.choose_spec (this FA LA)⟩
  obtain⟨μ,hμ⟩:=hmu;refine aCO (λFA LA N'=>(∃y,rep y FA LA)/\N'=uj N rk) μ aH ?_;rintro FA LA N' ⟨hr,rfl⟩;obtain⟨x,⟨hx,hok,rfl,rfl⟩,hmx,_⟩:=hμ FA LA hr;have h2:=NY ((h2:∀x:Y,Fm.holds _) x) hx;split at h2
  case h_2=>exact h2.elim
  rename_i hu;have hu:=jD hu;have hpre0:Pre (λd=>d∈hav) F (nB F (upd x) hav):=by
   refine Om.mono ?_;rintro d (hd|hd)
   .obtain⟨q,hq,rfl⟩:=bn.1 hd;exact(mem_iff _ _).1 (hu q hq)
   .exact hd
  refine p7 c ?_ (ih (mem (asg c)) (inner x++A) _ _ _ _ (λd hd=>(mem_iff _ _).2 hd) (QI hF hok) h2);intro e FA' LA' N' ht;have up:∀(G:Frm->ag->Prop),jM n (λd=>mem (asg c) d=aE) (nB F (upd x) hav) (kT L (obs x)) FA' LA' G->jM n (λd=>al d=aE) F L FA' LA' G:=by
   intro G ht;refine(ht.mono (λd hd=>hal d (hmem d hd)) λ_ _ _ h=>h).step (hpre0.mono ?_) HI;intro d hd;rcases bz.1 hd with hd|hd
   .exact hal d hd
   .grind
  cases e
  case normal=>
   obtain⟨F',L',rfl,rfl,hF',hpre,hpreL,hh⟩:=ht;obtain⟨y,hh⟩:=HZ hh;obtain⟨k1,k2,k3⟩:=JL (N':=N') (hav:=hav) hh (hpre0.trans (hpre.mono aH)) aH (HI.trans hpreL);have hry:rep y ((nB F (upd y) hav).av n) (kT L (obs y)).fn:=⟨λp h=>k2 p aH,k3,rfl,rfl⟩;refine⟨_,_,_,k1,aH,?_⟩;obtain⟨z,_,ez,hz⟩:=hμ _ _ ⟨y,hry⟩;have g1:=hz y hry;have g2:mu y<mu x:=k2 _ aH;omega
  all_goals exact up _ ht
 |exit id=>intro al A Q F L N hal hF h;exact⟨F,L,rfl,rfl,hF,Pre.rfl,i8.rfl,h⟩
 |ret=>intro al A Q F L N hal hF h;exact⟨F,L,rfl,rfl,hF,Pre.rfl,i8.rfl,h⟩
 |rangeFunc f params x y _ _=>intro al A Q F L N hal hF h;exact h.elim
 |scope c ih=>
  intro al A Q F L N hal hF h;refine p7 c ?_ (ih al A _ F L N hal hF h);intro e FA LA N' ht;cases e<;>first|exact ht|(obtain⟨_,_,_,_,_,_,_,hh⟩:=ht;exact hh.elim)
 |label l=>intro al A Q F L N hal hF h;exact⟨F,L,rfl,rfl,hF,Pre.rfl,i8.rfl,h⟩
 |goto l=>intro al A Q F L N hal hF h;exact h.elim
 |refuse s=>intro al A Q F L N hal hF h;exact h.elim
end
noncomputable section
def rG(P:Program)(n:Nat)(F:Frm)(σ:Sg):List ResultVar->Option (List SV)
 |[] =>aD []
 | .tmp t::rs=>(match jt t n,rG P n F σ rs with|true,aD l=>aD (F.at t::l)|_,_=>aM)
 | .cell a t::rs=>(match jt a n,F.at a,rG P n F σ rs with
   |true,.ptr s off,aD l=>(match σ s with
    |some (.box _ cs)=>(match rB P t cs off with|some r=>aD (r::l)|none=>aM)
    |some (.arr _ _ cs)=>(match rB P t cs off with|some r=>aD (r::l)|none=>aM)
    |_=>aM)
   |_,_,_=>aM)
def uL{P:Program}{n:Nat}{F:Frm}{σ:Sg}:∀{rs:List ResultVar} {l:List SV} {K:List AV->Prop},rG P n F σ rs=aD l->K (avs l)->j9 P rs (F.av n) σ.a K
 |[],l,K,h,hK=>by cases h;exact hK
 | .tmp t::rs,l,K,h,hK=>by
   unfold rG at h;split at h<;>cases h;rename_i l' h1 h2;unfold j9;refine uL h2 ?_;rw[Frm.o8 ((lz _ _).1 h1)];exact hK
 | .cell a t::rs,l,K,h,hK=>by
   unfold rG at h;split at h
   case h_2=>cases h
   rename_i s off l' h1 h2 h3;unfold j9;rw[Frm.o8 ((lz _ _).1 h1),h2];split at h
   .rename_i ty cs hs;split at h<;>cases h;rename_i r hr;exact⟨_,by rw[Sg.ct,hs];rfl,uB hr (uL h3 hK)⟩
   .rename_i ty ez cs hs;split at h<;>cases h;rename_i r hr;exact⟨_,by rw[Sg.ct,hs];rfl,uB hr (uL h3 hK)⟩
   .cases h
def wK:List SV->SV
 |[x] =>x
 |l=> .tup l
def E8(P:Program)(n:Nat)(rs:List ResultVar)(r:SV)(F:Frm)(L:ag):Fm:=match rG P n F L.at rs with
 |some l=>(match mB (mU 3 L.at) l with
  |some (ps,m)=>(match eqv 3 r (wK m)with
   |some (qs,[])=>uZ (ps++qs) .tt
   |_=> .stuck 920000)
  |none=> .stuck 930000)
 |none=> .stuck 940000
def VX(P:Program)(n:Nat)(rs:List ResultVar)(r:SV):rE:=λe F L _=>match e with
 | .normal=>E8 P n rs r F L
 | .ret=>E8 P n rs r F L
 |_=> .stuck 910000
variable{P:Program}{rs:List ResultVar}{L:ag}
def aDp{n:Nat}{r:SV}{q:PV}(hr:r.av= .p q){e:Exit}{F:Frm}{N:Nat}(h:(VX P n rs r e F L N).holds):Kr P rs q e (F.av n) L.fn N:=by
 have key:(E8 P n rs r F L).holds->j9 P rs (F.av n) L.fn λl=>∃m,fM (eK 3 L.fn) l=aD m/\yd m=q:=by
  intro h;unfold E8 at h;split at h
  case h_2=>exact h.elim
  rename_i l hl;split at h
  case h_2=>exact h.elim
  rename_i ps m hm;split at h
  case h_2=>exact h.elim
  rename_i qs he;have hp:=(vH h).1;have e2:Sg.a L.at=L.fn:=rfl;rw[<-e2];refine uL hl ?_;obtain⟨u,h1,h2⟩:=AZ (λx ps y=>Hw) hm (λp hpp=>hp p aH);refine⟨u,h1,?_⟩;have h3:=xu (m:=λ_=>aM) 3 r (wK m) qs [] he (λp hpp=>hp p aH) (λq hq=>by cases hq);rw[hr]at h3;unfold iQ at h3;have h4:(wK m).av= .p (yd u):=by
   cases m with
   |nil=>
    have:u=[] :=by have:=congrArg aA h2;simp[avs]at this;grind
    subst this;rfl
   |cons x m=>
    cases m with
    |nil=>
     cases u with
     |nil=>simp[avs]at h2
     |cons y u=>
      have h5:u=[] :=by have:=congrArg aA h2;simp only[avs,dU,List.length_cons,List.length_nil,dq]at this;grind
      subst h5;simp only[avs,dU,qV,List.cons.injEq,and_true]at h2;exact h2
    |cons y m=>
     have h5:(wK (x::y::m)).av=l7 (avs (x::y::m)):=rfl;rw[h5,h2];unfold l7;rw[eW];cases u with
     |nil=>simp[avs]at h2
     |cons a u=>
      cases u with
      |nil=>simp[avs]at h2
      |cons b u=>rfl
  rw[h4]at h3;cases h3;rfl
 cases e<;>first|exact h.elim|exact key h
structure Ar(α:Type) where
 enc:α->SV
 dec:SV->Option α
 ok:∀s a,dec s=aD a->s.av=(enc a).av
 pl:∀a,∃q,(enc a).av= .p q
structure Arl(α:Type) where
 enc:α->List SV
 dec:List SV->Option α
 ok:∀s a,dec s=aD a->avs s=avs (enc a)
 pl:∀a,∃q:List PV,avs (enc a)=q.map .p
def a0:Arl Unit:=⟨λ_=>[],λl=>match l with|[] =>aD ()|_=>aM,aH,λ_=>⟨[],rfl⟩⟩
def a1{α:Type}(A:Ar α):Arl α:=⟨λa=>[A.enc a],λl=>match l with|[x] =>A.dec x|_=>aM,λs a h=>by
  match s,h with
  |[x],h=>simp only[avs,A.ok x a h],
 λa=>by obtain⟨q,h⟩:=A.pl a;exact⟨[q],by simp only[avs,h,dU,qV]⟩⟩
def ac{α β:Type}(A:Ar α)(B:Arl β):Arl (α×β):=⟨λa=>A.enc a.1::B.enc a.2,λl=>match l with
  |x::r=>(match A.dec x,B.dec r with|some a,aD b=>aD (a,b)|_,_=>aM)
  |_=>aM,λs a h=>by
  match s,h with
  |x::r,h=>
   dsimp only at h;split at h<;>cases h;rename_i a b h1 h2;simp only[avs,A.ok x a h1,B.ok r b h2],
 λa=>by obtain⟨q,h⟩:=A.pl a.1;obtain⟨r,k⟩:=B.pl a.2;exact⟨q::r,by simp only[avs,h,k,dU]⟩⟩
def aI:Ar Int:=⟨λn=> .int .i64 n,λs=>match s with| .int .i64 n=>aD n|_=>aM,aH,λ_=>⟨_,rfl⟩⟩
def aN:Ar Nat:=⟨λn=> .int .i64 (n:Int),λs=>match s with| .int .i64 (.ofNat n)=>aD n|_=>aM,λ_ _ h=>by
 (split at h<;>cases h;rfl),λ_=>⟨_,rfl⟩⟩
def aB:Ar Bool:=⟨λb=> .bool b,BN,λ_ _ h=>AO h,λ_=>⟨_,rfl⟩⟩
def aV:Ar V:=⟨λv=> .agg [.int .i64 v.x,.int .i64 v.y],λs=>match s with| .agg [.int .i64 x,.int .i64 y] =>aD ⟨x,y⟩|_=>aM,aH,λ_=>⟨_,rfl⟩⟩
def aS:Ar Geo.S:=⟨λs=> .agg [.int .i64 s.a.x,.int .i64 s.a.y,.int .i64 s.b.x,.int .i64 s.b.y],λs=>match s with| .agg [.int .i64 x,.int .i64 y,.int .i64 z,.int .i64 w] =>aD ⟨⟨x,y⟩,⟨z,w⟩⟩|_=>aM,aH,λ_=>⟨_,rfl⟩⟩
def aT:Ar Pt:=⟨λp=> .agg [.int .i64 p.x,.int .i64 p.y,.int .i64 p.den],λs=>match s with| .agg [.int .i64 x,.int .i64 y,.int .i64 z] =>aD ⟨x,y,z⟩|_=>aM,aH,λ_=>⟨_,rfl⟩⟩
def rI(t:LT)(s:SV):Option (List t.ty):=match s with
 | .lst t' l=>(match decEq t' t with| .isTrue h=>aD (h▸l)| .isFalse _=>aM)
 | .sl 0 [] =>aD []
 | .sl n cs=>t.decs n cs
 |_=>aM
def uM{t:LT}{s:SV}{l:List t.ty}(h:rI t s=aD l):s.av= .p (.sl (aA l) (t.enc l)):=by
 unfold rI at h;split at h
 .split at h
  .rename_i e _;subst e;cases h;rfl
  .cases h
 .cases h;rfl
 .rename_i n cs _;obtain⟨e1,e2⟩:=LT.xw h;show(match bm (avs cs)with|some q=>AV.p (.sl n q)|none=> .any)=_;rw[e2,eW,e1]
 .cases h
def aL(t:LT):Ar (List t.ty):=⟨λl=> .lst t l,rI t,λ_ _ h=>uM h,λ_=>⟨_,rfl⟩⟩
def shD(s:SV):Option Shape:=match s with
 | .agg [r,h] =>(match rI .V r,rI .R h with|some o,aD hs=>aD ⟨o,hs⟩|_,_=>aM)
 |_=>aM
def aEJ(s:SV)(a:Shape)(h:shD s=aD a):s.av=(SV.agg [.lst .V a.outer,.lst .R a.holes]).av:=by
 unfold shD at h;split at h
 .split at h<;>cases h;rename_i o hs h1 h2;simp only[SV.av,avs,uM h1,uM h2]
 .cases h
def aSh:Ar Shape:=⟨λs=> .agg [.lst .V s.outer,.lst .R s.holes],shD,aEJ,λ_=>⟨_,rfl⟩⟩
noncomputable def con{α:Type}(A:Arl α)(pre:α->List Prop)(res:α->SV):Con:=⟨α,A.dec,pre,.val aK res⟩
def rM(l:List SV):Nat->Frm
 |k=>match l with
  |[] =>[]
  |x::l=>(k,x)::rM l (k+1)
def JR:∀(l:List SV) (k t:Nat),(rM l k).at t=if k<=t then(match l[t-k]? with|some x=>x|none=> .undef)else .undef
 |[],k,t=>by simp[rM,Frm.at]
 |x::l,k,t=>by
  unfold rM;rw[Frm.n9,JR l (k+1) t];grind
def Qf{l:List SV}{n:Nat}(hn:aA l<=n):(rM l 0).av n=avs l++dO (n-aA (avs l)) .undef:=by
 apply List.ext_getElem?;intro i;unfold Frm.av;rw[ip];by_cases hi:i<n
 .rw[List.getElem?_range hi,fk,JR,if_pos (lh _),Nat.sub_zero];by_cases h2:i<aA l
  .rw[List.getElem?_append_left (by rw[lD];exact h2),Ah,fQ h2];rfl
  .rw[List.getElem?_append_right (by rw[lD];omega),List.getElem?_replicate,oZ aC,lD,if_pos aC];rfl
 .rw[oZ eO,oZ (by simp[lD];omega)];rfl
variable{args:List SV}
def JQ(hpe:∀v∈args,v.ape=aK):(rM args 0).ok:=by
 intro t;rw[JR,if_pos (lh _)];split
 .rename_i x hx;exact SV.qJ aH
 .trivial
def aFb:ag.fn [] =λ_=>aM:=by
 funext s
 rcases mN s with⟨x,rfl⟩|⟨x,a,rfl⟩|hno
 .exact Sg.ct _ x
 .exact Sg.iB _ x a
 .exact Sg.lZ _ hno
def wC:Nat->Nat->Bool:=λ_ _=>aK
def Kw(X:Cx):Inl:=λf xs F n L N K=>match lT X.P f,X.P.funcs[f]?,L.at 0 with
 |true,aD fn,aD (.box 0 (.undef::S))=>(match fn.body with
  |some c=>(match ph (aA xs) fn.ntmps,gH (λv:SV=>match v.ape with|true=>aK|false=>aE) xs with
   |true,aE=>
    let fin:Frm->ag->Nat->Fm:=λF' L' N'=>match gH (λq:Nat×Option SOb=>match bZ q.1 0 with|true=>aK|false=>aE) (L'.take (aA L'-(aA L+1)))with
     |true=>(match rG X.P fn.ntmps F' L'.at fn.results.toList with
      |some [] =>K .undef ((0,aD (.box 0 (.undef::S)))::L') N'
      |some [r] =>(match r.ape with|false=>K r ((0,aD (.box 0 (.undef::S)))::L') N'|true=> .stuck 991001)
      |_=> .stuck 991002)
     |false=> .stuck 991003
    vc X KS fn.ntmps wC c (λ_=>aE) [] (λe F' L' N'=>match e with
     | .normal=>fin F' L' N'
     | .ret=>fin F' L' N'
     |_=> .stuck 991004) (rM xs 0) ((0,aD (.box 0 (.undef::(S++(bT n).map F.at))))::L) N
   |_,_=> .stuck 991005)
  |none=> .stuck 991006)
 |_,_,_=> .stuck 991007
def aCQ{pre:ag}{s:Nat}(h:∀q∈pre,q.1≠s):ag.at (pre++L) s=L.at s:=by
 induction pre with
 |nil=>rfl
 |cons q pre ih=>
  obtain⟨k,x⟩:=q;have hk:bZ s k=aK:=by
   cases hb:bZ s k with
   |false=>rfl
   |true=>simp_all
  show(match bZ s k with|true=>x|false=>ag.at (pre++L) s)=_;grind
def Q3{cs T:List SV}(hL:L.at 0=aD (.box 0 cs)):ag.fn ((0,aD (.box 0 T))::L)=bM L.fn [(ft,aD ⟨0,0,avs T⟩)] :=by have h:=(bw.flat (σ:=L.at) (rd:=[]) (W:=[(0,aD (.box 0 T))]) λq hq=>by rw[cI.1 hq,hL];exact⟨rfl,rfl⟩).2.2;rw[ag.EO]at h;have e:aa 0=ft:=CW (by unfold NM;omega);unfold ag.fn;rw[show ag.at ((0,aD (.box 0 T))::L)=ag.at ([(0,aD (SOb.box 0 T))] ++L)from rfl,<-h,<-e];rfl
def SY{cs:List SV}(hL:L.at 0=aD (.box 0 cs)):L.fn ft=aD ⟨0,0,avs cs⟩:=by have e:aa 0=ft:=CW (by unfold NM;omega);rw[<-e];show Sg.a L.at (aa 0)=_;rw[Sg.ct,hL];rfl
def aAX(F:Frm)(n:Nat):avs ((bT n).map F.at)=F.av n:=by rw[kQ,du];rfl
variable{X:Cx}
def aDT(hX:X.Ok):Kh X (Kw X):=by
 intro f xs F n L N K o c ho hc hargs h;unfold Kw at h;split at h
 case h_2=>exact h.elim
 rename_i fn S hok hf hL;split at h
 case h_2=>exact h.elim
 rename_i body hb;split at h
 case h_2=>exact h.elim
 rename_i hn hpe;have hn:=rh hn;have hpe:∀v∈xs,v.ape=aK:=λv hv=>by have:=jD hpe v hv;grind
 have hw:=Ho hX (Py X) body (λ_=>aE) [] _ _ _ N (λ_ _=>rfl) (JQ hpe) h;rw[Qf hn,Q3 hL]at hw;have hT:avs (.undef::(S++(bT n).map F.at))= .undef::(avs S++F.av n):=by rw[aCP,vN,aAX];rfl
 rw[hT]at hw;refine aCc (fid:=f) (A:=avs xs) (S:=avs S) (f:= .func f) ho hc rfl hargs hok hf hb (by rw[SY hL];rfl) (p7 body ?_ hw);rintro e FA LA N' ⟨F',L',rfl,rfl,hF',hpre,⟨pre,hpl⟩,hh⟩;have fin:(match gH (λq:Nat×Option SOb=>match bZ q.1 0 with|true=>aK|false=>aE) (L'.take (aA L'-(aA L+1)))with
    |true=>(match rG X.P fn.ntmps F' L'.at fn.results.toList with
     |some [] =>K .undef ((0,aD (.box 0 (.undef::S)))::L') N'
     |some [r] =>(match r.ape with|false=>K r ((0,aD (.box 0 (.undef::S)))::L') N'|true=> .stuck 991001)
     |_=> .stuck 991002)
    |false=> .stuck 991003).holds->
   j9 X.P fn.results.toList (F'.av fn.ntmps) L'.fn λl=>∃S2 F2,L'.fn ft=aD ⟨0,0,.undef::(S2++F2)⟩/\(aA S2)=(aA (avs S))/\(aA F2)=(aA (F.av n))/\
    (λFA LA N'=>∃r L2,r.ok/\FA=fh (F.av n) o.dst r.av/\LA=ag.fn L2/\i8 L L2/\(K r L2 N').holds) (fh F2 o.dst (un l)) (bM L'.fn [(ft,aD ⟨0,0,.undef::S2⟩)]) N':=by
  intro hh;split at hh
  case h_2=>exact hh.elim
  rename_i h0;have hat:L'.at 0=aD (.box 0 (.undef::(S++(bT n).map F.at))):=by rw[hpl];have h1:=jD h0;rw[hpl,show(pre++(0,aD (SOb.box 0 (.undef::(S++(bT n).map F.at))))::L).length-(aA L+1)=(aA pre) by simp,Fe]at h1;rw[aCQ λq hq e=>by have:=h1 q hq;simp_all];rfl
  have hst:L'.fn ft=aD ⟨0,0,.undef::(avs S++F.av n)⟩:=by rw[SY hat,hT]
  have hL2:ag.fn ((0,aD (.box 0 (.undef::S)))::L')=bM L'.fn [(ft,aD ⟨0,0,.undef::avs S⟩)] :=Q3 hat;have hpl2:i8 L ((0,aD (.box 0 (.undef::S)))::L'):=⟨(0,aD (.box 0 (.undef::S)))::(pre++[(0,aD (.box 0 (.undef::(S++(bT n).map F.at))))]),aH⟩;split at hh
  .rename_i hr;exact uL hr ⟨avs S,F.av n,hst,rfl,rfl,.undef,_,trivial,rfl,hL2.symm,hpl2,hh⟩
  .rename_i r hr;split at hh
   .rename_i hrp;exact uL hr ⟨avs S,F.av n,hst,rfl,rfl,r,_,SV.qJ hrp,rfl,hL2.symm,hpl2,hh⟩
   .exact hh.elim
  .exact hh.elim
 cases e<;>first|exact fin hh|exact hh.elim
def EN(X:Cx)(st:Bool)(raw:Nat->Nat->Bool)(f:Nat)(ann:List (Nat×Ann))(args:List SV)(post:Nat->List ResultVar->rE):Fm:=match lT X.P f,X.P.funcs[f]? with
 |true,aD fn=>(match fn.body with
  |some c=>(match ph (aA args) fn.ntmps,gH (λv=>match v.ape with|true=>aK|false=>aE) args with
   |true,aE=>(match st with
    |false=>vc X KS fn.ntmps raw c (λ_=>aE) ann (post fn.ntmps fn.results.toList) (rM args 0) [] 0
    |true=>vc X (Kw X) fn.ntmps raw c (λ_=>aE) ann (post fn.ntmps fn.results.toList) (rM args 0) [(0,aD (.box 0 [.undef]))] 1)
   |_,_=> .stuck 950000)
  |none=> .stuck 960000)
 |_,_=> .stuck 970000
def TH(X:Cx)(raw:Nat->Nat->Bool)(f:Nat)(ann:List (Nat×Ann))(args:List SV)(post:Nat->List ResultVar->rE):Fm:=EN X aK raw f ann args post
def yb(X:Cx)(raw:Nat->Nat->Bool)(f:Nat)(ann:List (Nat×Ann))(args:List SV)(r:SV):Fm:=TH X raw f ann args λn rs=>VX X.P n rs r
def aFa:ag.fn [(0,aD (.box 0 [.undef]))] =BQ:=by
 have e:aa 0=ft:=CW (by unfold NM;omega)
 funext s
 unfold BQ;rcases mN s with⟨x,rfl⟩|⟨x,a,rfl⟩|hno
 .show Sg.a _ (aa x)=_;rw[Sg.ct];by_cases hx:x=0
  .subst hx;rw[if_pos e];rfl
  .rw[if_neg (λh=>hx (nV (h.trans e.symm)))];show Option.map _ (match bZ x 0 with|true=>_|false=>aM)=aM;cases hb:bZ x 0 with
   |true=>simp_all
   |false=>rfl
 .show Sg.a _ (inn x (a+1))=_;rw[Sg.iB,if_neg (λh=>by have h:inn x (a+1)=aa 0:=h.trans e.symm;have:=(gZ h).2;omega)];show Option.bind (match bZ x 0 with|true=>_|false=>aM) _=aM;cases bZ x 0<;>rfl
 .show Sg.a _ s=_;rw[Sg.lZ _ hno,if_neg (λh=>hno 0 0 (h.trans e.symm))]
variable{raw:Nat->Nat->Bool}{f:Nat}
def Hm(hX:X.Ok){st:Bool}{ann:List (Nat×Ann)}{post:Nat->List ResultVar->rE}{A:List PV}{Q:List ResultVar->rF}(hA:avs args=A.map .p)
  (hQ:∀n rs e (F:Frm) (L:ag) N,(post n rs e F L N).holds->Q rs e (F.av n) L.fn N) (h:(EN X st raw f ann args post).holds):
  lT X.P f=aE/\∃fn c L0 N0,X.P.funcs[f]? =aD fn/\fn.body=aD c/\vw L0 N0/\awp X.P c (Q fn.results.toList) (A.map .p++dO (fn.ntmps-aA A) .undef) L0 N0:=by
 unfold EN at h;split at h
 case h_2=>exact h.elim
 rename_i fn hok hf;split at h
 case h_2=>exact h.elim
 rename_i c hb;split at h
 case h_2=>exact h.elim
 rename_i hn hpe;have hn:=rh hn;have hpe:∀v∈args,v.ape=aK:=λv hv=>by have:=jD hpe v hv;grind
 have hal:aA (A.map AV.p)=aA A:=aH;have hAF:A.map .p++dO (fn.ntmps-aA A) .undef=(rM args 0).av fn.ntmps:=by rw[Qf hn,hA,hal]
 split at h
 .refine⟨hok,fn,c,ag.fn [],0,hf,hb,.inl ⟨aFb,rfl⟩,?_⟩;rw[hAF];refine p7 c ?_ (Ho hX (Py X) c (λ_=>aE) ann _ _ [] 0 (λ_ _=>rfl) (JQ hpe) h);rintro e FA LA N' ⟨F',L',rfl,rfl,_,_,_,hh⟩;grind
 .refine⟨hok,fn,c,ag.fn [(0,aD (.box 0 [.undef]))],1,hf,hb,.inr ⟨aFa,rfl⟩,?_⟩;rw[hAF];refine p7 c ?_ (Ho hX (aDT hX) c (λ_=>aE) ann _ _ _ 1 (λ_ _=>rfl) (JQ hpe) h);rintro e FA LA N' ⟨F',L',rfl,rfl,_,_,_,hh⟩;grind
def aA4(hX:X.Ok){ann:List (Nat×Ann)}{r:SV}{A:List PV}{q:PV}(hA:avs args=A.map .p)(hq:r.av= .p q)(h:(yb X raw f ann args r).holds):Sat X.P aK f A q:=by obtain⟨hok,fn,c,L0,N0,hf,hb,h0,hw⟩:=Hm hX (st:=aK) (Q:=λrs=>Kr X.P rs q) hA (λn rs e F L N hh=>aDp hq hh) h;exact YK hok hf hb h0 hw
def E9(P:Program)(n:Nat)(rs:List ResultVar)(ty:Nat)(t:LT)(l:List t.ty)(ys:List SV)(F:Frm)(L:ag):Fm:=match rG P n F L.at rs with
 |some (v::r)=>(match rK (eqv 3) ys r with
  |some (qs,[])=>(match v with
   | .nil=>uZ ((l=[])::qs) .tt
   | .own s _ k=>(match L.at s with
     |some (.row ty' t' l')=>(match bZ ty' ty,decEq t' t with
      |true,.isTrue h=>uZ ([(h▸l':List t.ty)=l,k=aA l'] ++qs) .tt
      |_,_=> .stuck 980001)
     |_=> .stuck 980002)
   |_=> .stuck 980003)
  |_=> .stuck 980004)
 |_=> .stuck 980005
def TX(P:Program)(ty:Nat)(t:LT)(l:List t.ty)(ys:List SV)(n:Nat)(rs:List ResultVar):rE:=λe F L _=>match e with
 | .normal=>E9 P n rs ty t l ys F L
 | .ret=>E9 P n rs ty t l ys F L
 |_=> .stuck 910000
def Pj{m:Rf}:∀{q:List PV} {r:List AV},iK m (q.map .p) r->r=q.map .p
 |[],r,h=>by exact h
 |x::q,r,h=>by
  obtain⟨y,r',rfl,h1,h2⟩:=h;rw[h1,Pj h2];rfl
def aBF{n:Nat}{ty:Nat}{t:LT}{l:List t.ty}{ys:List SV}{Y:List PV}(hY:avs ys=Y.map .p){e:Exit}{F:Frm}{N:Nat}(h:(TX P ty t l ys n rs e F L N).holds):Ks P rs ty t.w (t.enc l) (aA l) Y e (F.av n) L.fn N:=by
 have key:(E9 P n rs ty t l ys F L).holds->j9 P rs (F.av n) L.fn λlA=>(∃s,lA= .own s 0 (aA l)::Y.map .p/\L.fn s=aD ⟨ty,t.w,(t.enc l).map .p⟩)\/(lA= .nil::Y.map .p/\(aA l)=0/\t.enc l=[]):=by
  intro h;unfold E9 at h;split at h
  case h_2=>exact h.elim
  rename_i v r hl;split at h
  case h_2=>exact h.elim
  rename_i qs he;have e2:Sg.a L.at=L.fn:=rfl;have hr:(∀p∈qs,p)->avs r=Y.map .p:=λhp=>by have:=uF (m:=λ_=>aM) (xu 3) he hp (λq hq=>by cases hq);rw[hY]at this;exact Pj this
  rw[<-e2];refine uL hl ?_;split at h
  .have hp:=(vH h).1;have hl0:l=[] :=hp _ aH;subst hl0;refine .inr ⟨?_,rfl,rfl⟩;show AV.nil::avs r=_;grind
  .rename_i s t2 k;split at h
   case h_2=>exact h.elim
   rename_i ty' t' l' hs;split at h
   case h_2=>exact h.elim
   rename_i h2 hty _;subst h2;have hp:=(vH h).1;have h3:l'=l:=hp _ aH;have h4:k=aA l':=hp _ aH;subst h3;refine .inl ⟨aa s,?_,?_⟩
   .show AV.own (aa s) 0 k::avs r=_;grind
   .rw[Sg.ct,hs,<-eL hty];rfl
  .exact h.elim
 cases e<;>first|exact h.elim|exact key h
def FD{α:Type}(A:Arl α)(pre:α->List Prop)(ty:Nat)(t:LT)(l:α->List t.ty)(ys:α->List SV):Con:=⟨α,A.dec,pre,.own ty t l ys⟩
def JN(hX:X.Ok){α:Type}{A:Arl α}{pre:α->List Prop}{ty:Nat}{t:LT}{l:α->List t.ty}{ys:α->List SV}(ann:α->List (Nat×Ann))(hr:∀x,∃q:List PV,avs (ys x)=q.map .p)
  (h:∀x,rN (pre x)->(TH X raw f (ann x) (A.enc x) (TX X.P ty t (l x) (ys x))).holds):(FD A pre ty t l ys).Ok X.P f:=by
 intro s x hd hp;obtain⟨B,hB⟩:=A.pl x;obtain⟨q,hq⟩:=hr x;obtain⟨hok,fn,c,L0,N0,hf,hb,h0,hw⟩:=Hm hX (st:=aK) (Q:=λrs=>Ks X.P rs ty t.w (t.enc (l x)) (aA (l x)) q) hB (λn rs e F L N hh=>aBF hq hh) (h x (lI.2 hp));exact⟨B,q,by rw[A.ok s x hd,hB],hq,XU hok (qX t.mS) hf hb h0 hw⟩
def yF(hX:X.Ok){α:Type}{A:Arl α}{pre:α->List Prop}{res:α->SV}(ann:α->List (Nat×Ann))(hr:∀x,∃q,(res x).av= .p q)(h:∀x,rN (pre x)->(yb X raw f (ann x) (A.enc x) (res x)).holds):(con A pre res).Ok X.P f:=by intro s x hd hp;obtain⟨B,hB⟩:=A.pl x;obtain⟨q,hq⟩:=hr x;exact⟨B,q,by rw[A.ok s x hd,hB],hq,aA4 hX hB hq (h x (lI.2 hp))⟩
def At(r:Rm):List Nat:=match r with
 |[] =>[]
 |(k,aM)::r=>k::At r
 |(_,aD _)::r=>At r
def KO(ns:List Nat)(r:Rm):Bool:=gH (λq:Nat×Option Nat=>match q.2 with
 |some k=>(match bZ q.1 k,mem ns q.1 with|true,aK=>aE|_,_=>aK)
 |none=>mem ns q.1) r
open Classical in
def idm(ns:List Nat):Rf:=λs=>if∃k∈ns,s=aa k then aD aM else aD (aD s)
variable{ns:List Nat}
def Th{k:Nat}(h:mem ns k=aK):idm ns (aa k)=aD (aD (aa k)):=by unfold idm;rw[if_neg];rintro⟨x,hx,e⟩;rw[nV e,(mem_iff x ns).2 hx]at h;cases h
def Su(ns:List Nat)(x a:Nat):idm ns (inn x (a+1))=aD (aD (inn x (a+1))):=by unfold idm;rw[if_neg];rintro⟨y,hy,e⟩;have:=(gZ e).2;omega
def Pa{r:Rm}(h:KO ns r=aE):l5 (idm ns) r:=by
 intro q hq;have h:=jD h q hq;obtain⟨s,o⟩:=q;cases o with
 |none=>
  exact if_pos ⟨s,(mem_iff s ns).1 h,rfl⟩
 |some k=>
  dsimp only at h;split at h
  .rename_i e1 e2;rw[<-eL e1];exact Th e2
  .cases h
def A8(ns:List Nat)(σ:Sg):ag->Option (List Prop)
 |[] =>aD []
 |(_,aM)::_=>aM
 |(k,aD ob)::l=>match A8 ns σ l with
  |none=>aM
  |some ps=>(match mem ns k with
   |true=>(match ob with| .row _ _ c=>aD ((c=[])::ps)|_=>aM)
   |false=>(match σ k with
    |none=>aM
    |some ob'=>(match yV ob ob' with
     |some (p,r)=>(match KO ns r with|true=>aD (p++ps)|false=>aM)
     |none=>(match BL [] k k ob ob' with
      |some p=>aD (p++ps)
      |none=>aM))))
def Ov{ns:List Nat}{σ:Sg}:∀{l:ag} {ps:List Prop},A8 ns σ l=aD ps->(∀p∈ps,p)->∀k o,(k,o)∈l->∃ob,o=aD ob/\
  ((mem ns k=aE/\∃ty t,ob= .row ty t [])\/(mem ns k=aK/\∃ob',σ k=aD ob'/\sm (idm ns) (ob.ob k) (ob'.ob k)/\(ob.flat=aE\/ob=ob')))
 |[],_,_,_,_,_,hk=>by cases hk
 |(_,aM)::_,_,h,_,_,_,_=>by cases h
 |(k,aD ob)::l,ps,h,hp,k1,o1,hk=>by
  unfold A8 at h;split at h
  .cases h
  rename_i qs hqs;have ih:=Ov hqs;split at h
  .split at h<;>cases h;rename_i ty t c;rcases bO.1 hk with e|hk
   .have:c=[] :=hp _ aH;grind
   grind
  .rename_i hm;split at h
   .cases h
   rename_i ob' hob';split at h
   .rename_i p r he;split at h<;>cases h;rename_i hs;rcases bO.1 hk with e|hk
    .cases e;exact⟨_,rfl,.inr ⟨hm,ob',hob',Ou he (λq hq=>hp q aH) (Pa hs) _ _,.inl (Nk he)⟩⟩
    .exact ih (λp hpp=>hp p aH) k1 o1 hk
   .split at h<;>cases h;rename_i p hf;rcases bO.1 hk with e|hk
    .cases e;obtain⟨_,_,e3,_⟩:=QQ hf λq hq=>hp q aH;subst e3;refine⟨_,rfl,.inr ⟨hm,_,hob',?_,.inr rfl⟩⟩;unfold BL at hf;split at hf
     .refine⟨rfl,rfl,xY _ _ _ λi _=> ?_⟩;exact .inl ⟨_,Su ns k (i+1-1),rfl⟩
     .cases hf
    .exact ih (λp hpp=>hp p aH) k1 o1 hk
def Ys{l:ag}{ps:List Prop}(h:A8 ns L.at l=aD ps)(hp:∀p∈ps,p):BO (idm ns) (Sg.a (ag.at l)) L.fn:=by
 have key:=Ov h hp;constructor
 .intro s s' o h1 h2;unfold idm at h1 h2;split at h1<;>cases h1;split at h2<;>cases h2;rfl
 .intro s ob' hs;rcases mN s with⟨x,rfl⟩|⟨x,a,rfl⟩|hno
  .rw[Sg.ct]at hs;cases hx:ag.at l x with
   |none=>grind
   |some ob=>
    rw[hx]at hs;cases hs;obtain⟨ob1,e,h1⟩:=key x (aD ob) (ag.yY hx);cases e;rcases h1 with⟨hm,ty,t,rfl⟩|⟨hm,ob2,h2,h3,_⟩
    .rw[show idm ns (aa x)=aD aM from if_pos ⟨x,(mem_iff x ns).1 hm,rfl⟩];exact⟨qX t.mS,by rfl⟩
    .rw[Th hm];exact⟨_,by show Sg.a L.at (aa x)=_;rw[Sg.ct,h2];rfl,h3⟩
  .rw[Sg.iB]at hs;cases hx:ag.at l x with
   |none=>grind
   |some ob=>
    rw[hx]at hs;obtain⟨ob1,e,h1⟩:=key x (aD ob) (ag.yY hx);cases e;have hs:ob.inner a=aD ob':=hs;rw[Su];rcases h1 with⟨hm,ty,t,rfl⟩|⟨hm,ob2,h2,h3,h4⟩
    .cases hs
    .rcases h4 with h4|h4
     .rw[SOb.Ca h4]at hs;cases hs
     .subst h4;refine⟨ob',by show Sg.a L.at (inn x (a+1))=_;rw[Sg.iB,h2];exact hs,rfl,rfl,?_⟩;cases ob with
      |fam ty ity t M ov=>
       have hs:(match ov.lookup a with|some _=>aM|none=>(M[a]?).map λl=>(⟨ity,t.w,(t.enc l).map .p⟩:Ob))=aD ob':=hs;cases ho:ov.lookup a with
       |some v=>grind
       |none=>
        rw[ho]at hs;cases hm:M[a]? with
        |none=>grind
        |some c=>rw[hm]at hs;cases hs;exact lm _ _
      |_=>cases hs
  .rw[Sg.lZ _ hno]at hs;cases hs
def VZ(l:List SV):Bool:=match l with
 |[_] =>aE
 |[] =>aK
 |l=>(match bm (avs l)with|none=>aE|some _=>aK)
def E6(P:Program)(n:Nat)(rs:List ResultVar)(r:SV)(obs:ag)(F:Frm)(L:ag):Fm:=match rG P n F L.at rs with
 |some l=>(match VZ l,eqv 3 r (wK l)with
  |true,aD (ps,m)=>(match KO (At m) m,A8 (At m) L.at obs with
   |true,aD qs=>uZ (ps++qs) .tt
   |_,_=> .stuck 990001)
  |_,_=> .stuck 990002)
 |none=> .stuck 990003
def VW(P:Program)(r:SV)(obs:ag)(n:Nat)(rs:List ResultVar):rE:=λe F L _=>match e with
 | .normal=>E6 P n rs r obs F L
 | .ret=>E6 P n rs r obs F L
 |_=> .stuck 910000
def aDz{l:List SV}(h:VZ l=aE):un (avs l)=(wK l).av:=by
 match l,h with
 |[x],_=>rfl
 |x::y::r,h=>
  show AV.tup (avs (x::y::r))=l7 (avs (x::y::r));have h:(match bm (avs (x::y::r))with|none=>aE|some _=>aK)=aE:=h;unfold l7;grind
def aDo{n:Nat}{r:SV}{obs:ag}{e:Exit}{F:Frm}{N:Nat}(h:(VW P r obs n rs e F L N).holds):Kq P rs r.av (Sg.a (ag.at obs)) e (F.av n) L.fn N:=by
 have key:(E6 P n rs r obs F L).holds->j9 P rs (F.av n) L.fn λl=>∃m:Rf,BO m (Sg.a (ag.at obs)) L.fn/\iQ m r.av (un l):=by
  intro h;unfold E6 at h;split at h
  case h_2=>exact h.elim
  rename_i l hl;split at h
  case h_2=>exact h.elim
  rename_i ps m h1 he;split at h
  case h_2=>exact h.elim
  rename_i qs hs hq;have hp:=(vH h).1;rw[show L.fn=Sg.a L.at from rfl];refine uL hl ⟨idm (At m),Ys hq λp hpp=>hp p aH,?_⟩;rw[aDz h1];exact xu 3 r (wK l) ps m he (λp hpp=>hp p aH) (Pa hs)
 cases e<;>first|exact h.elim|exact key h
def LD{α:Type}(A:Arl α)(pre:α->List Prop)(res:α->SV)(obs:α->ag):Con:=⟨α,A.dec,pre,.tree res obs⟩
def SK(hX:X.Ok){st:Bool}{α:Type}{A:Arl α}{pre:α->List Prop}{res:α->SV}{obs:α->ag}(ann:α->List (Nat×Ann))
  (h:∀x,rN (pre x)->(EN X st raw f (ann x) (A.enc x) (VW X.P (res x) (obs x))).holds):(LD A pre res obs).Ok X.P f:=by
 intro s x hd hp;obtain⟨B,hB⟩:=A.pl x;obtain⟨hok,fn,c,L0,N0,hf,hb,h0,hw⟩:=Hm hX (Q:=λrs=>Kq X.P rs (res x).av (Sg.a (ag.at (obs x)))) hB (λn rs e F L N hh=>aDo hh) (h x (lI.2 hp));exact⟨B,by rw[A.ok s x hd,hB],XT hok hf hb h0 hw⟩
def aFT{p q:Prop}(h:p=q)(hq:q):p:=h▸hq
def Eo:List (Nat×Con)->Tab->Tab
 |[],T,f=>T f
 |(k,c)::l,T,f=>match bZ f k with|true=>aD c|false=>Eo l T f
def Ty(P:Program):List (Nat×Con)->Prop
 |[] =>True
 |q::l=>q.2.Ok P q.1/\Ty P l
def Qv{P:Program}{T:Tab}(hT:T.Ok P):∀{l:List (Nat×Con)},Ty P l->(Eo l T).Ok P
 |[],_=>hT
 |(k,c)::l,h=>by
  intro f d hd;unfold Eo at hd;split at hd
  .rename_i e;cases hd;rw[eL e];exact h.1
  .exact Qv hT h.2 f d hd
def T0:Tab:=λ_=>aM
def aC2:T0.Ok P:=λ_ _ h=>by cases h
end
noncomputable section
def aFK(N:Nat)(a b c d:Int)(w:World):iT bi (wn (N+1+1) 44 (.agg #[.int .i64 a,.int .i64 b]) (.agg #[.int .i64 c,.int .i64 d])) w= .ok (a==c&&b==d) w:=by
 have hS:bi.underlying 44=aD (.struct (bi.fieldsOf 44)):=by kernel_rfl
 have hp:bi.stoodInHeld 44=aK:=by kernel_rfl
 rw[run_equalIn_agg w (N+1) 44 _ _ hS hp];simp only[Program.fieldsOf,Tryz.underlying44]
 go_simp
 grind
def aFL(a b c d a' b' c' d':Int)(w:World)(N:Nat):iT bi (wn (N+1+1+1) 46 (.agg #[.int .i64 a,.int .i64 b,.int .i64 c,.int .i64 d]) (.agg #[.int .i64 a',.int .i64 b',.int .i64 c',.int .i64 d'])) w= .ok ((a==a'&&b==b')&&(c==c'&&d==d')) w:=by
 have hS6:bi.underlying 46=aD (.struct (bi.fieldsOf 46)):=by kernel_rfl
 have hp6:bi.stoodInHeld 46=aK:=by kernel_rfl
 rw[run_equalIn_agg w (N+1+1) 46 _ _ hS6 hp6];unfold Program.fieldsOf;rw[Tryz.underlying46];have a44:=Tryz.isAgg44;have z44:=Tryz.sizeOf44;have p1:∀a b c d:Int,(part 44 #[dN .i64 a,dN .i64 b,dN .i64 c,dN .i64 d] 0).run bi w= .ok (.agg #[.int .i64 a,.int .i64 b]) w:=by intro a b c d;simp[part,a44,z44]
 have p2:∀a b c d:Int,(part 44 #[dN .i64 a,dN .i64 b,dN .i64 c,dN .i64 d] 2).run bi w= .ok (.agg #[.int .i64 c,.int .i64 d]) w:=by intro a b c d;simp[part,a44,z44]
 have hE:=aFK N;unfold Op.eqFields;unfold Op.eqFields;unfold Op.eqFields;rw[if_pos bg];simp only[dY,p1,dr,hE];cases h1:(a==a')<;>cases h2:(b==b')<;>simp[hE,p2,dY,dr];grind
def aCw:BD bi 46 4:=by
 intro xs ys x y w hx hy;match xs,ys,hx,hy with
 |[a,b,c,d],[a',b',c',d'],_,_=>
  have h1:=aFL a b c d a' b' c' d' w 9997;have e:(([a,b,c,d] :List Int)==[a',b',c',d'])=((a==a'&&b==b')&&(c==c'&&d==d')):=by rw[gR];simp[and_assoc]
  refine⟨?_,?_⟩
  .simp only[eqGuard,dY];simp[Result.andThen];rw[run_eql_struct,h1];simp_all
  .unfold bne;rw[e];simp[eqGuard];rw[run_neq_struct,h1];simp_all
noncomputable def ltL:List (Nat×LT)->Nat->Option LT
 |[],_=>aM
 |(k,x)::l,t=>match bZ t k with|true=>aD x|false=>ltL l t
def u67:bi.underlying 69=aD (.array 2 3):=by kernel_rfl
def aFY:bi.underlying 114=aD (.map 69 4):=by kernel_rfl
def yO(w:World)(xs:Array Value)(i:Nat)(a:Value)(h:xs[i]? =aD a):(part 3 xs i).run bi w= .ok a w:=by have a3:=zC;simp[part,a3,h]
def aE1:MKey bi 69 2:=by
 have hu3:bi.underlying 3=aD (.int .i64):=by kernel_rfl
 obtain⟨i3,hi3⟩:=info_of_underlying hu3;have c3:bi.cellsOf 3=1:=by kernel_rfl
 have two:∀{xs:List Int},aA xs=2->∃a b,xs=[a,b] :=λ{xs} h=>by
  match xs,h with
  |[a,b],_=>grind
 refine⟨?_,?_,⟨_,u67,λa b=>rfl⟩⟩
 .intro w em xs hx;obtain⟨a,b,rfl⟩:=two hx;show(Bq em (9999+1) 69 (.agg #[.int .i64 a,.int .i64 b])).run _ w=_;have p0:=yO w #[dN .i64 a,.int .i64 b] 0 (.int .i64 a) rfl;have p1:=yO w #[dN .i64 a,.int .i64 b] 1 (.int .i64 b) rfl;have ck:∀a:Int,(Bq em 9999 3 (.int .i64 a)).run bi w= .ok () w:=by intro a;show(Bq em (9998+1) 3 (.int .i64 a)).run _ w=_;generalize 9998=N;simp only[Bq,dY,run_underlying hu3,dr,fD]
  rw[Bq];simp only[dY,run_underlying u67,dr];simp only[Std.Legacy.Range.forIn_eq_forIn_range',Std.Legacy.Range.size,Nat.sub_zero,Nat.add_one_sub_one,Nat.div_one];simp only[show List.range' 0 2=[0,1]from rfl,List.forIn_cons,List.forIn_nil,dY,run_sizeOf w hi3,dr,c3,p0,p1,ck,fD,Nat.zero_mul,Nat.one_mul]
 .intro w xs ys hx hy;obtain⟨a,b,rfl⟩:=two hx;obtain⟨c,d,rfl⟩:=two hy;have p0:=yO w #[dN .i64 a,.int .i64 b] 0 (.int .i64 a) rfl;have p1:=yO w #[dN .i64 a,.int .i64 b] 1 (.int .i64 b) rfl;have q0:=yO w #[dN .i64 c,.int .i64 d] 0 (.int .i64 c) rfl;have q1:=yO w #[dN .i64 c,.int .i64 d] 1 (.int .i64 d) rfl;have e1:∀a b:Int,(wn 9999 3 (.int .i64 a) (.int .i64 b)).run bi w= .ok (a==b) w:=λa b=>run_equalIn_int w 9998 3 _ _ a b hu3;show(wn (9999+1) 69 (.agg #[.int .i64 a,.int .i64 b]) (.agg #[.int .i64 c,.int .i64 d])).run _ w=_;rw[run_equalIn_array w 9999 _ _ u67 hi3,c3,show bT 2=[0,1]from rfl];simp only[Op.eqItems,dY,Nat.zero_mul,Nat.one_mul,p0,q0,e1,dr];by_cases h1:a=c
  .subst h1;simp only[beq_self_eq_true,Bool.not_true,Bool.false_eq_true,if_false,dY];by_cases h2:b=d
   .simp_all
   simp_all
  simp_all
def aDO:Vw bi 114:=⟨69,4,aFY,aE1,λw=>by kernel_rfl⟩
noncomputable def cx(T:Tab):Cx:=⟨bi,T,ltL [(44,.V),(46,.S),(23,.R),(69,.P),(3,.I),(2,.I),(1,.I),(4,.B)],[(44,2),(46,4)],λt=>bZ t 114,λf=>match bZ f 201 with|true=>aE|false=>bZ f 168⟩
def qO{T:Tab}(h:T.Ok bi):(cx T).Ok:=⟨h,λt m hm=>by
 rcases bO.1 hm with h|h
 .cases h;exact aCx
 .rw[cI]at h;cases h;exact aCw,λt ht=>by rw[show t=114 from eL ht];exact aDO⟩
noncomputable def nA(F:Frm)(d:Nat):Option Nat:=match F.at d with
 | .int _ v=>aD v.toNat
 |_=>aM
noncomputable def Tf(F:Frm)(d:Nat):Option Int:=match F.at d with
 | .int _ v=>aD v
 |_=>aM
noncomputable def Kv(F:Frm)(d e:Nat):Option (Int×Int):=match Tf F d,Tf F e with
 |some x,aD y=>aD (x,y)
 |_,_=>aM
noncomputable def lp(key d n:Nat)(I:Nat->List Prop)(rk:List Nat)(upd:Nat->Frm)(obs:Nat->List (Nat×SOb))(inner:Nat->List (Nat×Ann):=λ_=>[]):Nat×Ann:=
 (key,.mk Nat (λF _=>nA F d) rk (λk=>(k<=n)::I k) (λk=>(d,.int .i64 (k:Int))::upd k) obs (λk=>n-k) inner)
noncomputable def cnt(key d n:Nat)(I:Nat->Prop)(inner:Nat->List (Nat×Ann):=λ_=>[]):Nat×Ann:=lp key d n (λk=>[I k]) [] (λ_=>[]) (λ_=>[]) inner
noncomputable def jb(key d:Nat)(b:Bool):Nat×Ann:=(key+10000,.mk Unit (λ_ _=>aD ()) [] (λ_=>[]) (λ_=>[(d,.bool b)]) (λ_=>[]) (λ_=>0) (λ_=>[]))
noncomputable def jP(key:Nat)(I:List Prop):Nat×Ann:=(key+10000,.mk Unit (λ_ _=>aD ()) [] (λ_=>I) (λ_=>[]) (λ_=>[]) (λ_=>0) (λ_=>[]))
noncomputable def jU(key:Nat)(u:Frm):Nat×Ann:=(key+10000,.mk Unit (λ_ _=>aD ()) [] (λ_=>[]) (λ_=>u) (λ_=>[]) (λ_=>0) (λ_=>[]))
noncomputable def jN(key d:Nat)(I:Nat->List Prop)(inner:Nat->List (Nat×Ann):=λ_=>[]):Nat×Ann:=(key+10000,.mk Nat (λF _=>nA F d) [] I (λk=>[(d,.int .i64 (k:Int))]) (λ_=>[]) (λ_=>0) inner)
noncomputable def jR(key d s ty:Nat)(t:LT)(l:List t.ty):Nat×Ann:=(key+10000,.mk Unit (λ_ _=>aD ()) [s] (λ_=>[]) (λ_=>[(d,.own s t (aA l))]) (λ_=>[(s,.row ty t l)]) (λ_=>0) (λ_=>[]))
noncomputable def lU(key k:Nat):Nat×Ann:=(key+30000+k,.mk Unit (λ_ _=>aM) [] (λ_=>[]) (λ_=>[]) (λ_=>[]) (λ_=>0) (λ_=>[]))
noncomputable def aY(q:Nat->Prop)(k:Nat):Prop:=∀j,j<k->q j
def nb{b:Bool}(h:(!b)=aK):b=aE:=aH
def nb'{b:Bool}(h:(!b)=aE):b=aK:=aH
theorem iJ(q:Nat->Prop):aY q 0:=λj h=>aH
theorem cO{q:Nat->Prop}{k:Nat}(h:aY q k)(hk:q k):aY q (k+1):=λj hj=>by
 rcases pV j k with h1|h1
 .exact h j h1
 grind
def aI5(a b:V):a=b↔a.x=b.x/\a.y=b.y:=by cases a;cases b;grind
end
attribute [grind =] aX ix
attribute [grind ←] iJ cO
@[reducible] def qiq (p a b : Prop) : Prop := (p → a) ∧ (¬p → b)
@[reducible] def qbq (b : Bool) (x y : Prop) : Prop := (b = aE → x) ∧ (b = aK → y)
@[reducible] def qnr (a : Int) (x : Nat) (r : Prop) : Prop := aX (a + 1) ∧ a + 1 = ((x + 1 : Nat) : Int) ∧ r
structure TTab where
 t:Tab
 o:t.Ok bi
noncomputable def TTab.adk(T:TTab){f:Nat}{c:Con}(k:c.Ok bi f):TTab:=⟨Eo [(f,c)] T.t,Qv T.o ⟨k,trivial⟩⟩
def bI(T:TTab){f:Nat}{α:Type}{A:Arl α}{pre:α->List Prop}{res:α->SV}(ann:α->List (Nat×Ann))(h:∀x,rN (pre x)->(yb (cx T.t) wC f (ann x) (A.enc x) (res x)).holds)(hr:∀x,∃q,(res x).av= .p q:=by intro _;exact⟨_,rfl⟩):(con A pre res).Ok bi f:=yF (qO T.o) ann hr h
abbrev Con.Okz(c:Con)(f:Nat):Prop:=c.Ok bi f
abbrev SV.iqz(n:Int):SV:= .int .i64 n
abbrev ae{α:Type _}{β:Type _}:α->List β:=λ_=>[]
def bD{p:Prop}(q:Prop)(hq:q)(h:p=q:=by kernel_rfl):p:=aFT h hq
noncomputable def ET:TTab:=⟨T0,aC2⟩
def br{p:Prop}(h:p:=by kernel_rfl):p:=h
end Go.Proofs.YthbofdolalagjaaGreat
namespace Go.Proofs
open Go.Shelf
def Tryz.sort220_ren:Go.Shelf.Ren:=⟨λ|6=>220|15=>143|14=>228|28=>194|29=>195|20=>229|21=>230|22=>231|23=>232|24=>233|25=>234|26=>235|27=>236|46=>237|47=>210|48=>211|49=>238|50=>239|57=>240|n=>n,λ|22=>111|24=>3|25=>132|3=>3|39=>135|0=>0|53=>170|55=>172|4=>4|46=>163|45=>162|50=>167|5=>5|9=>9|66=>180|70=>184|76=>193|77=>59|n=>n,λ|n=>n⟩
def Tryz.sort220:Go.Proofs.SlLaysF.n6 bi Tryz.sort220_ren:={
 mixed:=by kernel_rfl
 f6:=⟨Tryz.f220.name,by decide,Tryz.func220.trans (congrArg aD (by kernel_rfl))⟩
 f14:=⟨Tryz.f228.name,by decide,Tryz.func228.trans (congrArg aD (by kernel_rfl))⟩
 f15:=Tryz.func143.trans (congrArg aD (by kernel_rfl))
 f20:=⟨Tryz.f229.name,by decide,Tryz.func229.trans (congrArg aD (by kernel_rfl))⟩
 f21:=⟨Tryz.f230.name,by decide,Tryz.func230.trans (congrArg aD (by kernel_rfl))⟩
 f22:=⟨Tryz.f231.name,by decide,Tryz.func231.trans (congrArg aD (by kernel_rfl))⟩
 f23:=⟨Tryz.f232.name,by decide,Tryz.func232.trans (congrArg aD (by kernel_rfl))⟩
 f24:=⟨Tryz.f233.name,by decide,Tryz.func233.trans (congrArg aD (by kernel_rfl))⟩
 f25:=⟨Tryz.f234.name,by decide,Tryz.func234.trans (congrArg aD (by kernel_rfl))⟩
 f26:=⟨Tryz.f235.name,by decide,Tryz.func235.trans (congrArg aD (by kernel_rfl))⟩
 f27:=⟨Tryz.f236.name,by decide,Tryz.func236.trans (congrArg aD (by kernel_rfl))⟩
 f28:=Tryz.func194.trans (congrArg aD (by kernel_rfl))
 f29:=Tryz.func195.trans (congrArg aD (by kernel_rfl))
 f46:=⟨Tryz.f237.name,by decide,Tryz.func237.trans (congrArg aD (by kernel_rfl))⟩
 f47:=Tryz.func210.trans (congrArg aD (by kernel_rfl))
 f48:=Tryz.func211.trans (congrArg aD (by kernel_rfl))
 f49:=⟨Tryz.f238.name,by decide,Tryz.func238.trans (congrArg aD (by kernel_rfl))⟩
 f50:=⟨Tryz.f239.name,by decide,Tryz.func239.trans (congrArg aD (by kernel_rfl))⟩
 f57:=⟨Tryz.f240.name,by decide,Tryz.func240.trans (congrArg aD (by kernel_rfl))⟩
 t0:=Tryz.underlying0
 a0:=Tryz.isAgg0
 z0:=Tryz.sizeOf0
 v0:=Tryz.zeroValue0
 t3:=zA
 a3:=zC
 z3:=Bt
 v3:=Tryz.zeroValue3
 t4:=Lq
 a4:=Tryz.isAgg4
 z4:=Tryz.sizeOf4
 v4:=Tryz.zeroValue4
 t5:=Tryz.underlying5
 a5:=Tryz.isAgg5
 z5:=Tryz.sizeOf5
 v5:=Tryz.zeroValue5
 t9:=Tryz.underlying9
 a9:=Tryz.isAgg9
 z9:=Tryz.sizeOf9
 v9:=Tryz.zeroValue9
 t22:=Tryz.underlying111
 a22:=Tryz.isAgg111
 z22:=Tryz.sizeOf111
 v22:=Tryz.zeroValue111
 a24:=zC
 z24:=Bt
 t25:=Tryz.underlying132
 a25:=Tryz.isAgg132
 z25:=Tryz.sizeOf132
 v25:=Tryz.zeroValue132
 t39:=Tryz.underlying135
 a39:=Tryz.isAgg135
 z39:=Tryz.sizeOf135
 v39:=Tryz.zeroValue135
 t45:=Tryz.underlying162
 a45:=Tryz.isAgg162
 z45:=Tryz.sizeOf162
 v45:=Tryz.zeroValue162
 t46:=Tryz.underlying163
 a46:=Tryz.isAgg163
 z46:=Tryz.sizeOf163
 v46:=Tryz.zeroValue163
 t50:=Tryz.underlying167
 a50:=Tryz.isAgg167
 z50:=Tryz.sizeOf167
 v50:=Tryz.zeroValue167
 t53:=Tryz.underlying170
 a53:=Tryz.isAgg170
 z53:=Tryz.sizeOf170
 v53:=Tryz.zeroValue170
 t55:=Tryz.underlying172
 a55:=Tryz.isAgg172
 z55:=Tryz.sizeOf172
 v55:=Tryz.zeroValue172
 t66:=Tryz.underlying180
 a66:=Tryz.isAgg180
 z66:=Tryz.sizeOf180
 v66:=Tryz.zeroValue180
 t70:=Tryz.underlying184
 a70:=Tryz.isAgg184
 z70:=Tryz.sizeOf184
 v70:=Tryz.zeroValue184
 t76:=Tryz.underlying193
 a76:=Tryz.isAgg193
 z76:=Tryz.sizeOf193
 v76:=Tryz.zeroValue193
 t77:=Tryz.underlying59
 a77:=Tryz.isAgg59
 z77:=Tryz.sizeOf59
 v77:=Tryz.zeroValue59}
def Tryz.del202_ren:Go.Shelf.Ren:=⟨λ|10=>202|6=>223|n=>n,λ|22=>111|23=>3|25=>159|3=>3|4=>4|0=>0|n=>n,λ|n=>n⟩
def Tryz.del202:Go.Proofs.SlLaysH.n10 bi Tryz.del202_ren:={
 mixed:=by kernel_rfl
 f6:=⟨Tryz.f223.name,by decide,Tryz.func223.trans (congrArg aD (by kernel_rfl))⟩
 f10:=⟨Tryz.f202.name,by decide,Tryz.func202.trans (congrArg aD (by kernel_rfl))⟩
 t0:=Tryz.underlying0
 a0:=Tryz.isAgg0
 z0:=Tryz.sizeOf0
 v0:=Tryz.zeroValue0
 t3:=zA
 a3:=zC
 z3:=Bt
 v3:=Tryz.zeroValue3
 t4:=Lq
 a4:=Tryz.isAgg4
 z4:=Tryz.sizeOf4
 v4:=Tryz.zeroValue4
 t22:=Tryz.underlying111
 a22:=Tryz.isAgg111
 z22:=Tryz.sizeOf111
 v22:=Tryz.zeroValue111
 a23:=zC
 z23:=Bt
 t25:=Tryz.underlying159
 a25:=Tryz.isAgg159
 z25:=Tryz.sizeOf159
 v25:=Tryz.zeroValue159}
end Go.Proofs
namespace Go.Proofs.YthbofdolalagjaaGreat
section
open Go.RowKit Go.Sort Go.Shelf Go.Lib
def aCp(q x:Int)(B o:Nat)(W:World)(hc:W.cell? ⟨B,o,aM⟩=aD (.int .i64 q)):FnGives bi 203 #[.pointer (aD ⟨B,o,aM⟩)] #[.int .i64 x] (.bool (x==q)) W:=by
 go_enter Tryz.func203,Tryz.ntmps203
 go_wp2
 all_goals (go_ret;exact⟨jc,0,rfl⟩)
def aCo(q x:Int)(B o:Nat)(W:World)(hc:W.cell? ⟨B,o,aM⟩=aD (.int .i64 q)):FnGives bi 204 #[.pointer (aD ⟨B,o,aM⟩)] #[.int .i64 x] (.bool (x==q)) W:=by
 go_enter Tryz.func204,Tryz.ntmps204
 go_wp2
 all_goals (go_ret;exact⟨jc,0,rfl⟩)
variable{enc:Int->Value}{d:Array Int}{cur:Array Value}
def XX{i:Nat}(h:i<d.size)(hc:i<cur.size):(putCells enc 0 d cur)[i]? =aD (enc d[i]!):=by unfold putCells;simp[h,hc]
def Ws:(putCells enc 0 d cur).size=cur.size:=by unfold putCells;simp
variable{w:World}
def YR{b:Nat}{t:TypeId}(h:w.heap[b]? =aD (.cells cur t (0,0))):(putRow enc w b 0 d).heap[b]? =aD (.cells (putCells enc 0 d cur) t (0,0)):=by show(w.heap.modify b _)[b]? =_;rw[Array.getElem?_modify,if_pos rfl,h];rfl
def W9{b q:Nat}:w.grownBy (putRow enc (Sort.ahead w q) b 0 d) (aD b):=by
 refine⟨rfl,rfl,rfl,?_,?_⟩
 .simp_all
 .intro k hk hne;show(w.heap.modify b _)[k]? =_;grind
def rD(l:List Int):LT.I.enc l=l.map (PV.int .i64):=by show K7 l=_;exact HO (λn=>PV.int .i64 n) l
def Oc{C:bf}{b c:Nat}{l:List Int}{arr:Array Value}{ty:TypeId}(hL:Lent C w b c ty 1 (LT.I.enc l) arr):Holds (dN .i64) w b 0 l.toArray/\(aA l)<=arr.size:=by
 obtain⟨_,h2,_⟩:=hL.row bg;rw[rD,dq]at h2;refine⟨λj hj=> ?_,h2⟩;obtain⟨v,h3,_,h4⟩:=hL.cells j (.int .i64 l[j]) (by rw[rD,ip,fQ hj];rfl);subst h4;refine⟨?_,?_⟩
 .rw[ku];refine(cell_of_row w b j arr ty (0,0) hL.blk).trans (h3.trans ?_);grind
 .simp[World.frozen?,hL.blk]
def aEi{C:bf}{g:Nat}{q:Int}{vs:List Value}(hC:∀b o v,C b o v->w.cell? ⟨b,o,aM⟩=aD v)(h:bk C [.fn (.func g) [] [.pro [.int .i64 q] 0]] vs):∃B o,vs=[.func (.func g) #[] #[.pointer (aD ⟨B,o,aM⟩)]]/\C B o (.int .i64 q):=by obtain⟨v,r,rfl,h1,h2⟩:=h;subst h2;obtain⟨a,b,rfl,h3,h4⟩:=h1;subst h3;obtain⟨u,r,rfl,h5,h6⟩:=h4;subst h6;obtain⟨B,o,rfl,h7⟩:=h5;obtain⟨⟨x,h8,_,h9⟩,_⟩:=h7;unfold bE at h9;grind
def RC(g:Nat)(eg:∀args w,(callFunc g args).run bi w= .ok (.enter g args) w)(hg:∀(q x:Int) (B o:Nat) (W:World),W.cell? ⟨B,o,aM⟩=aD (.int .i64 q)->FnGives bi g #[.pointer (aD ⟨B,o,aM⟩)] #[.int .i64 x] (.bool (x==q)) W)
  (l:List Int) (q:Int) (hn:aA l<=1000000):
  LG bi 202 (aA l) [.fn (.func g) [] [.pro [.int .i64 q] 0]] 3 1 (LT.I.enc l) (LT.I.enc (l.filter λx=> !(x==q))) (aA (l.filter λx=> !(x==q))):=by
 refine⟨br,?_,aH,?_,?_⟩
 .rw[rD,rD,dq,dq];grind
 .rw[rD,cC];intro x hx;obtain⟨n,_,rfl⟩:=bn.1 hx;rfl
 intro C w b c arr vs hC hL hnc hA;obtain⟨B,o,rfl,hBo⟩:=aEi (λb o v h=>(hC b o v h).1) hA;obtain⟨hcell,hne⟩:=hC _ _ _ hBo;obtain⟨hH,hsz⟩:=Oc hL;have hB:B<w.heap.size:=World.block_lt_of_cell? w ⟨B,o,aM⟩ hcell;have hcon:=AnyE.slices_DeleteFunc (P:=bi) (ρ:=Tryz.del202_ren) Tryz.del202 (dN .i64) (λ_=>rfl) (λx:Int=>x==q) g #[.pointer (aD ⟨B,o,aM⟩)] eg 0 (λw=>br) b 0 c l.toArray w
  (λW x hb=>hg q x B o W ((hb.cell (p:=⟨B,o,aM⟩) hB).trans hcell))
  (λn os dk x _=>hg q x B o _ (by unfold sortWorld;rw[cell?_grow _ _ _ jc,cell?_putRow_other _ _ b 0 _ _ (Or.inl hne)];exact hcell)) hH eO aC
 have e1:l.toArray.toList=l:=rfl;refine hcon.mono ?_;rintro e w' ⟨rfl,q',rfl⟩;have hfl:=Fj (λx=> !(x==q)) l;generalize (l.filter λx=> !(x==q))=m at hfl|-;refine⟨_,rfl,YR (w:=Sort.ahead w q') hL.blk,Ws,?_,W9⟩;intro i x hi;rw[rD,ip]at hi;cases hx:m[i]? with
 |none=>grind
 |some y=>
  rw[hx]at hi;cases hi;have hi':i<aA m:=aH;refine⟨.int .i64 y,?_,rfl,by rfl⟩;rw[XX eO aC];grind
def aEO(args:Array Value)(w:World):(callFunc 203 args).run bi w= .ok (.enter 203 args) w:=nP br args w
def aEN(args:Array Value)(w:World):(callFunc 204 args).run bi w= .ok (.enter 204 args) w:=nP br args w
def LB:List SV->Option (List Int×Bool×Int)
 |[.lst .I l,.fnp 203 [] [.pro [.int .i64 q] 0]] =>aD (l,aE,q)
 |[.lst .I l,.fnp 204 [] [.pro [.int .i64 q] 0]] =>aD (l,aK,q)
 |_=>aM
def aAE{l:List Int}{rest:List SV}{x:List Int×Bool×Int}(h:LB (.lst .I l::rest)=aD x):∃q,(rest=[.fnp 203 [] [.pro [.int .i64 q] 0]]/\x=(l,aE,q))\/(rest=[.fnp 204 [] [.pro [.int .i64 q] 0]]/\x=(l,aK,q)):=by unfold LB at h;grind
def aHU:Con:=⟨List Int×Bool×Int,LB,λx=>[aA x.1<=1000000],.rowB .I 3 λx=>x.1.filter λy=> !(y==x.2.2)⟩
def aGn:aHU.Okz 202:=by
 intro l rest x hd hp;obtain⟨q,⟨rfl,rfl⟩|⟨rfl,rfl⟩⟩:=aAE hd
 .exact⟨[.fn (.func 203) [] [.pro [.int .i64 q] 0]],rfl,RC 203 aEO aCp l q (hp _ cR)⟩
 .exact⟨[.fn (.func 204) [] [.pro [.int .i64 q] 0]],rfl,RC 204 aEN aCo l q (hp _ cR)⟩
end
section
def jE{x y A B:Int}(hx: -A<=x/\x<=A)(hy: -B<=y/\y<=B): -(A*B)<=x*y/\x*y<=A*B:=by have h1:0<=(A-x)*(B-y):=cF aC aC;have h2:0<=(A+x)*(B+y):=cF aC aC;have h3:0<=(A-x)*(B+y):=cF aC aC;have h4:0<=(A+x)*(B-y):=cF aC aC;grind
def bd(M:Int)(v:V):Prop:=(-M<=v.x/\v.x<=M)/\ -M<=v.y/\v.y<=M
def s9{m M:Int}{v:V}(h:bF v m=aE)(hm:m<=M:=by decide):bd M v:=by unfold bF at h;unfold bd;grind
def bd.mono{m M:Int}{v:V}(h:bd m v)(hm:m<=M:=by decide):bd M v:=by unfold bd at*;omega
def pu{M:Int}{a b:V}(ha:bd M a)(hb:bd M b):(-(M*M)<=a.x*b.y/\a.x*b.y<=M*M)/\ -(M*M)<=a.y*b.x/\a.y*b.x<=M*M:=⟨jE ha.1 hb.2,jE ha.2 hb.1⟩
def j0{m:Int}{a b:V}(ha:bd m a)(hb:bd m b):bd (m+m) (aJa a b):=by unfold bd aJa at*;grind
def aEK(n:Int): -1<=sgn n/\sgn n<=1:=by unfold sgn;grind
def bP{x:Int}(h: -9000000000000000000<=x/\x<=9000000000000000000):aX x:=by unfold aX;omega
def aIu:Con:=con (ac aV (a1 aV)) ae (λ(a,b)=> .bool (cB a b)
 )
def aGX:aIu.Okz 148:=bI ET ae λ(a,b) _=>bD (qiq (a.y<b.y) (aE=cB a b) (qiq (a.y=b.y) (decide (a.x<b.x)=cB a b) (aK=cB a b))) (by unfold cB;grind)
def Ut:=ET.adk aGX
def c80:Con:=con (a1 aI) ae (λn=> .iqz (sgn n)
 )
def k80:c80.Okz 79:=bI Ut ae λn _=>bD (qiq (0<n) (1=sgn n) (qiq (n<0) (-1=sgn n) (0=sgn n))) (by unfold sgn;grind)
def t80:=Ut.adk k80
def c79:Con:=con (ac aV (a1 aV)) ae (λ(a,b)=> .iqz (cQ a b)
 )
def k79:c79.Okz 78:=bI t80 ae λ(a,b) _=>bD (qbq (cB a b) (-1=cQ a b) (qiq (a=b) (0=cQ a b) (1=cQ a b))) (by unfold cQ Geo.gG cB;simp only[aI5];grind)
def t79:=t80.adk k79
def c35:Con:=con (ac aV (a1 aI)) (λ(_,m)=>[0<=m,m<=1000000000000]) (λ(a,m)=> .bool (bF a m)
 )
def k35:c35.Okz 35:=bI t79 ae λ(a,m) hp=>bD (aX (0-m)/\qiq (0-m<=a.x) (qiq (a.x<=m) (aX (0-m)/\qiq (0-m<=a.y) (decide (a.y<=m)=bF a m) (aK=bF a m)) (aK=bF a m)) (aK=bF a m)) (by change 0<=m/\m<=1000000000000 at hp;unfold bF;have:= @aX;grind[aX])
def t35:=t79.adk k35
def c98:Con:=con (a1 aS) ae (λs=> .bool (bX s)
 )
def k98:c98.Okz 97:=bI t35 ae λs _=>bD ((0:Int)<=4000/\(4000:Int)<=1000000000000/\qbq (bF s.a 4000) ((0:Int)<=4000/\(4000:Int)<=1000000000000/\bF s.b 4000=bX s) (aK=bX s)) (by unfold bX;grind)
def t98:=t35.adk k98
def aI0:Con:=con (a1 aV) ae (λv=>(aT).enc (fL v)
 )
def aHu:aI0.Okz 103:=bI t98 ae λv _=>bD (aO (fL v) λA=>v.x=A.x/\v.y=A.y/\1=A.den) (by exact⟨rfl,rfl,rfl⟩)
def VN:=t98.adk aHu
def aIz:Con:=con (ac aV (a1 aV)) (λ(a,b)=>[bd 2000000000 a,bd 2000000000 b]) (λ(a,b)=> .iqz (cross a b)
 )
def aG2:aIz.Okz 144:=bI VN ae λ(a,b) hp=>bD (aX (a.x*b.y)/\aX (a.y*b.x)/\aX (a.x*b.y-a.y*b.x)/\a.x*b.y-a.y*b.x=cross a b) (by change bd 2000000000 a/\bd 2000000000 b at hp;have:=pu hp.1 hp.2;exact⟨bP aC,bP aC,bP aC,rfl⟩)
def Uy:=VN.adk aG2
def aIy:Con:=con (ac aV (a1 aV)) (λ(a,b)=>[bd 1000000000 a,bd 1000000000 b]) (λ(a,b)=>aV.enc (aJa a b)
 )
def aG1:aIy.Okz 145:=bI Uy ae λ(a,b) hp=>bD (aX (a.x-b.x)/\aX (a.y-b.y)/\a.x-b.x=(aJa a b).x/\a.y-b.y=(aJa a b).y) (by change bd 1000000000 a/\bd 1000000000 b at hp;unfold bd at hp;exact⟨bP aC,bP aC,rfl,rfl⟩)
def Ux:=Uy.adk aG1
def qE{s:S}(h:(!bX s)=aK){M:Int}(hM:4000<=M:=by decide):bd M s.a/\bd M s.b:=by unfold bX at h;simp only[Bool.not_eq_false',cD]at h;exact⟨s9 h.1 hM,s9 h.2 hM⟩
def Ss{s:S}{p:V}{M:Int}(h1:bd M s.a/\bd M s.b)(h:iO s p=aE):bd M p:=by unfold iO at h;unfold bd at*;grind
def C6(s:S)(p:V): -1<=jk s p/\jk s p<=1:=by
 unfold jk turn;split
 .omega
 .exact aEK _
def c70:Con:=con (ac aV (ac aV (a1 aV))) (λ(a,b,c)=>[bd 1000000000 a,bd 1000000000 b,bd 1000000000 c]) (λ(a,b,c)=> .iqz (turn a b c)
 )
def k70:c70.Okz 71:=bI Ux ae λ(a,b,c) hp=>bD (bd 1000000000 b/\bd 1000000000 a/\bd 1000000000 c/\bd 1000000000 a/\bd 2000000000 (aJa b a)/\bd 2000000000 (aJa c a)/\sgn (cross (aJa b a) (aJa c a))=turn a b c) (by change bd 1000000000 a/\bd 1000000000 b/\bd 1000000000 c at hp;exact⟨hp.2.1,hp.1,hp.2.2,hp.1,j0 hp.2.1 hp.1,j0 hp.2.2 hp.1,rfl⟩)
def t70:=Ux.adk k70
def aI4:Con:=con (ac aS (a1 aV)) ae (λ(s,p)=> .iqz (jk s p)
 )
def aHy:aI4.Okz 99:=bI t70 ae λ(s,p) _=>bD (aO (!bX s) λA=>aO (!bF p 4000) λB=>qbq A (0=jk s p) ((0:Int)<=4000/\(4000:Int)<=1000000000000/\qbq B (0=jk s p) (bd 1000000000 s.a/\bd 1000000000 s.b/\bd 1000000000 p/\turn s.a s.b p=jk s p))) (by unfold jk;refine⟨λh=>by rw[h];rfl,λh=>⟨bg,bg,λh2=>aH,λh2=>⟨(qE h).1,(qE h).2,s9 (by simpa using h2),aH⟩⟩⟩)
def VT:=t70.adk aHy
def aIj:Con:=con (ac aS (a1 aV)) ae (λ(s,p)=> .bool (onS s p))
def aGN:aIj.Okz 162:=bI VT (λ(s,p)=>[jb 4 5 (iO s p)]
 ) λ(s,p) _=>bD (aO (!bX s) λA=>qbq A (aK=onS s p) ((qiq (Min.min s.a.x s.b.x<=p.x) (qiq (p.x<=Max.max s.a.x s.b.x) (qiq (Min.min s.a.y s.b.y<=p.y) (decide (p.y<=Max.max s.a.y s.b.y)=iO s p) (aK=iO s p)) (aK=iO s p)) (aK=iO s p))/\
 (∀y:Unit,qbq (iO s p) (bd 1000000000 s.a/\bd 1000000000 s.b/\bd 1000000000 p/\decide (turn s.a s.b p=0)=onS s p) (aK=onS s p)))) (by
 refine⟨λh=>by unfold onS;grind,λh=>⟨by unfold iO;grind,λ_=>⟨λh2=>⟨(qE h).1,(qE h).2,Ss (qE h) h2,by unfold onS;grind⟩,λh2=>by unfold onS;rw[h2];simp⟩⟩⟩)
def Uf:=VT.adk aGN
def so(l:List V)(k:Nat):List V:=ny (l.take k)
def qso(l:List V)(k j:Nat):Prop:=cB (aI7 (so l k) j) (aI7 l k)=aE
def cm(s t:S)(k:Nat):List V:=([s.a,s.b,t.a,t.b].take k).filter λp=>onS s p&&onS t p
variable{l:List V}
def Iu{k:Nat}(h:k<aA l):so l (k+1)=lV (so l k) (aI7 l k):=by unfold so ny;rw[nO,fQ h,Bw,nth_eq h];rfl
def HD{p:V}:∀{l:List V} {k:Nat},k<=aA l->(∀j,j<k->cB (aI7 l j) p=aE)->(k<aA l->¬cB (aI7 l k) p=aE)->
  lV l p=if k<(aA l)/\aI7 l k=p then l else l.take k++p::l.drop k
 |[],k,h1,_,_=>by simp at h1;subst h1;rfl
 |q::r,0,_,_,h3=>by
  have h3:¬cB q p=aE:=h3 af;unfold lV;rw[if_neg h3];show(if q=p then q::r else p::q::r)=if 0<(aA (q::r))/\q=p then q::r else p::q::r;simp
 |q::r,k+1,h1,h2,h3=>by
  have h0:cB q p=aE:=h2 0 aC;unfold lV;rw[if_pos h0,HD (l:=r) (k:=k) aH (λj hj=>h2 (j+1) aC) (λhk=>h3 aH)];show(q::if _ then _ else _)=if k+1<(aA (q::r))/\aI7 r k=p then q::r else q::(r.take k++p::r.drop k);grind
def aCa(l:List V)(p:V):aA (lV l p)<=aA l+1:=by
 induction l with
 |nil=>simp[lV]
 |cons q r ih=>unfold lV;grind
def SZ{k y:Nat}(hk:k<aA l)(h1:y<=aA (so l k))(h2:aY (qso l k) y)(h3:y<aA (so l k)->¬qso l k y)(h4:¬(y<(aA (so l k))/\aI7 (so l k) y=aI7 l k)):
  ([] :List V)++ak y (fE 0 (so l k))++[aI7 l k] ++ak (aA (so l k)-y) (fE y (so l k))=so l (k+1):=by
 have e:ak (aA (so l k)-y) (fE y (so l k))=fE y (so l k):=jB af;rw[Iu hk,HD h1 h2 h3,if_neg h4,e];simp
def Q6{k y:Nat}(hk:k<aA l)(h1:y<=aA (so l k))(h2:aY (qso l k) y)(h3:y<aA (so l k)->¬qso l k y)(h4:y<aA (so l k))(h5:aI7 (so l k) y=aI7 l k):so l k=so l (k+1):=by rw[Iu hk,HD h1 h2 h3,if_pos ⟨h4,h5⟩]
def aEd(s t:S){k:Nat}(h:k<4):cm s t (k+1)=if(onS s (aI7 [s.a,s.b,t.a,t.b] k)&&onS t (aI7 [s.a,s.b,t.a,t.b] k))=aE then cm s t k++[aI7 [s.a,s.b,t.a,t.b] k]else cm s t k:=by unfold cm;rw[nO,fQ (show k<[s.a,s.b,t.a,t.b].length from h),List.filter_append,nth_eq (show k<[s.a,s.b,t.a,t.b].length from h)];grind
def aFj(s t:S)(k:Nat):aA (cm s t k)<=4:=cZ (Fj _ _) eO
def aIi:Con:=con (a1 (aL .V)) (λl=>[aA l<=1000]) (λl=> .lst .V (ny l))
def aGM:aIi.Okz 163:=bI Uf (λl=>[lp 3 4 (aA l) (λk=>[aA (so l k)<=k]) [900] (λk=>[(3,.own 900 .V (aA (so l k)))]) (λk=>[(900,.row 44 .V (so l k))]) λk=>[cnt 6 5 (aA (so l k)) (aY (qso l k)),jN 8 5 (λj=>[j<=aA (so l k),aY (qso l k) j,j<aA (so l k)->¬qso l k j]) λj=>[jP 9 [¬(j<(aA (so l k))/\aI7 (so l k) j=aI7 l k)]]]]
  ) λl hp=>bD (aO (aA (so l 0)) λL=>aO ([] :List V) λN=>(0=(0:Int)/\L=0/\so l 0=N/\(0:Nat)<=(aA l)/\L<=0)/\
 (∀x:Nat,aO (x+1) λA=>aO (so l x) λB=>aO (so l A) λC=>aO (x:Int) λD=>aO (qso l x) λF=>aO (aI7 l x) λH=>aO (fE 0 B) λJ=>aO ((x+1:Nat):Int) λP=>x<=(aA l)/\(aA B)<=x->qiq (D<aA l) (((0=(0:Int)/\(0:Nat)<=(aA B)/\aY F 0)/\
    (∀x_1:Nat,aO (x_1:Int) λG=>aO (aI7 B x_1) λM=>x_1<=(aA B)/\aY F x_1->qiq (G<aA B) (ix G (aA B)/\x_1<(aA B)/\ix D (aA l)/\qbq (cB M H) (qnr G x_1 (x_1+1<=(aA B)/\aY F (x_1+1)/\(aA B)-(x_1+1)<aA B-x_1)) (G=x_1/\x_1<=(aA B)/\aY F x_1/\(x_1<aA B->¬qso l x x_1))) (G=x_1/\x_1<=(aA B)/\aY F x_1/\(x_1<aA B->¬qso l x x_1))))/\
   (∀y:Nat,aO (y:Int) λE=>aO (aA B-y) λI=>aO (fE y B) λK=>aO (N++ak y J) λO=>aO (N++ak y J++[H]) λQ=>y<=(aA B)/\aY F y/\(y<aA B->¬qso l x y)->(qiq (E<aA B) (ix E (aA B)/\y<(aA B)/\ix D (aA l)/\qiq ((aI7 B y)=H) (aX (D+1)/\D+1=P/\(aA B)=(aA C)/\so l x=so l A/\x+1<=(aA l)/\(aA C)<=x+1/\(aA l)-A<aA l-x) (¬(y<(aA B)/\aI7 B y=aI7 l x))) (¬(y<(aA B)/\aI7 B y=aI7 l x)))/\
    (∀y_1:Unit,¬(y<(aA B)/\aI7 B y=aI7 l x)->(0<=E/\E<=aA B)/\0+y<=(aA B)/\(aA N)+aA (ak y J)<=1000000/\ix D (aA l)/\(aA O)=(aA O)/\(aA O)+[H].length<=1000000/\(0<=E/\E<=aA B)/\(aA Q)=(aA Q)/\y+I<=(aA B)/\(aA Q)+aA (ak I K)<=1000000/\aX (D+1)/\D+1=P/\(aA (N++ak y J++[H] ++ak I K))=(aA C)/\N++ak y J++[H] ++ak I K=so l A/\x+1<=(aA l)/\(aA C)<=x+1/\(aA l)-A<aA l-x))) (aA B=(aA B)/\so l x=ny l))) (by
  change (aA l)<=1000 at hp;have e0:so l 0=[] :=rfl;have e1:so l (aA l)=ny l:=by unfold so;rw[ri]
  have el:∀x,x<aA l->aA (so l x)<=x->aA (so l (x+1))<=x+1:=by intro x h h2;rw[Iu h];exact cZ (aCa _ _) aC
  have e2:aA (so l 0)=0:=rfl
  with_reducible ((repeat' first|apply cJ|intro);all_goals repeat cases‹_/\_›)
  all_goals first|assumption|rfl|exact trivial|exact nb aJ|exact nb' aJ|omega|exact iX aC|(unfold ix;omega)|(unfold aX;omega)|exact iJ _|exact cO aJ aJ|(refine cO aJ ?_;simp_all;done)|exact SZ aC aJ aJ aJ aJ|exact congrArg aA (SZ aC aJ aJ aJ aJ)|exact Q6 aC aJ aJ aJ aC aJ|exact congrArg aA (Q6 aC aJ aJ aJ aC aJ)|exact el _ aC aJ|(unfold qso at*;simp_all;done)|grind)
def Ue:=Uf.adk aGM
def c99:Con:=con (ac aS (a1 aS)) ae (λ(s,t)=> .lst .V (fR s t))
def k99:c99.Okz 98:=bI Ue (λ(s,t)=>[lp 4 7 4 ae [900,11] (λk=>[(6,.own 900 .V (aA (cm s t k))),(5,.own 11 .V 4)]) (λk=>[(900,.row 44 .V (cm s t k)),(11,.row 44 .V [s.a,s.b,t.a,t.b])]) λk=>[jb 7 34 (onS s (aI7 [s.a,s.b,t.a,t.b] k)&&onS t (aI7 [s.a,s.b,t.a,t.b] k))]]
  ) λ(s,t) _=>bD (aO (4:Nat) λC=>(0=(0:Int)/\(aA (cm s t 0))=0/\C=4/\cm s t 0=([] :List V)/\[s.a,s.b,t.a,t.b] =[s.a,s.b,t.a,t.b]/\(0:Nat)<=4)/\
 (∀x:Nat,aO (x+1) λA=>aO (x:Int) λB=>aO (cm s t x) λD=>aO (aA (cm s t A)) λE=>aO ((x+1:Nat):Int) λF=>aO (aI7 [s.a,s.b,t.a,t.b] x) λG=>aO (onS s G&&onS t G) λH=>x<=4->qiq (B<4) ((ix B 4/\x<[s.a,s.b,t.a,t.b].length/\qbq (onS s G) (ix B 4/\x<[s.a,s.b,t.a,t.b].length/\onS t G=H) (aK=H))/\
   (∀y:Unit,qbq H (ix B 4/\x<[s.a,s.b,t.a,t.b].length/\(aA D)=(aA D)/\(aA D)+[G].length<=1000000/\aX (B+1)/\B+1=F/\(aA (cm s t x++[G]))=E/\C=4/\cm s t x++[G] =cm s t A/\[s.a,s.b,t.a,t.b] =[s.a,s.b,t.a,t.b]/\x+1<=4/\4-A<4-x) (aX (B+1)/\B+1=F/\(aA D)=E/\C=4/\cm s t x=cm s t A/\[s.a,s.b,t.a,t.b] =[s.a,s.b,t.a,t.b]/\x+1<=4/\4-A<4-x))) (aA D=(aA D)/\(aA D)<=1000/\ny D=fR s t))) (by
  have e0:cm s t 0=[] :=rfl;have e4:ny (cm s t 4)=fR s t:=rfl;have es:=λk=> @aEd s t k;have el:=aFj s t
  with_reducible ((repeat' first|apply cJ|intro);all_goals repeat cases‹_/\_›)
  all_goals grind)
def t99:=Ue.adk k99
def c32:Con:=con (ac aS (a1 aS)) ae (λ(s,t)=> .iqz (cK s t)
 )
def k32:c32.Okz 32:=bI t99 ae λ(s,t) _=>bD (aO (!bX s) λA=>aO (!bX t) λB=>aO (aA (fR s t):Int) λD=>qbq A (0=cK s t) (qbq B (0=cK s t) (qiq (1<D) (3=cK s t) (qiq (D=1) (1=cK s t) (aX (jk s t.a*jk s t.b)/\qiq (jk s t.a*jk s t.b<0) (aX (jk t s.a*jk t s.b)/\qiq (jk t s.a*jk t s.b<0) (2=cK s t) (0=cK s t)) (0=cK s t)))))) (by
 have d1:=C6 s t.a;have d2:=C6 s t.b;have d3:=C6 t s.a;have d4:=C6 t s.b;have m1:=jE d1 d2;have m2:=jE d3 d4;unfold cK
 with_reducible ((repeat' first|apply cJ|intro);all_goals repeat cases‹_/\_›)
 all_goals grind)
def t32:=t99.adk k32
end
def eg(r:aU)(k:Nat):List S:=(bT k).map (bh r)
def aD6(r:aU)(k:Nat):eg r k++[(⟨aI7 r k,aI7 r ((k+1) % (aA r))⟩:S)] =eg r (k+1):=by unfold eg;rw[pW,dV];rfl
def aFe(r:aU)(k:Nat):aA (eg r k)=k:=by unfold eg;simp
def ar(r:aU)(k:Nat):Int:=((bT k).map λi=>cross (aI7 r i) (nxt r i)).sum
def Dv(r:aU)(k:Nat):ar r (k+1)=ar r k+cross (aI7 r k) (aI7 r ((k+1) % (aA r))):=by unfold ar;rw[pW,dV,nM];simp[nxt]
def o4{r:aU}(h:near r=aE){i:Nat}(hi:i<aA r){M:Int}(hM:2000<=M:=by decide):bd M (aI7 r i):=s9 (xg h i hi) hM
def aDI{r:aU}{i:Nat}(hi:i<aA r)(h:(!bF (aI7 r i) 2000)=aE):near r=aK:=by
 cases hn:near r with
 |false=>rfl
 |true=>have:=xg hn i hi;grind
def aBY{r:aU}(h:aY (λi=>bF (aI7 r i) 2000=aE) (aA r)):near r=aE:=by unfold near;rw[cC];intro v hv;obtain⟨j,hj,rfl⟩:=jQ hv;rw[<-nth_eq hj];exact h j hj
def wJ{r:aU}(h:near r=aE):∀k:Nat,k<=aA r-> -8000000*(k:Int)<=ar r k/\ar r k<=8000000*k
 |0,_=>by simp[ar]
 |k+1,hk=>by
  have ih:=wJ h k aC;have:=pu (o4 h (i:=k) aC (M:=2000)) (o4 h (i:=(k+1) % (aA r)) (cG _ aC) (M:=2000));rw[Dv];unfold cross;omega
def aI2:Con:=con (a1 (aL .V)) (λr=>[aA r<=100000]) (λr=> .lst .S (aW r))
def aHw:aI2.Okz 101:=bI t32 (λr=>[lp 5 4 (aA r) ae [900] (λk=>[(3,.own 900 .S (aA (eg r k)))]) (λk=>[(900,.row 46 .S (eg r k))])]
 ) λr hp=>bD (aO (aA r:Int) λG=>aO ([] :List S) λI=>qiq (G<2) (aW r=I) ((0=(0:Int)/\(aA (eg r 0))=0/\eg r 0=I/\(0:Nat)<=aA r)/\
 (∀x:Nat,aO (x+1) λA=>aO (eg r x) λB=>aO (x:Int) λC=>aO (⟨(aI7 r x),(aI7 r (A % (aA r)))⟩:S) λH=>x<=aA r->qiq (C<aA r) (ix C (aA r)/\aX (C+1)/\G≠0/\ix ((A % (aA r):Nat):Int) (aA r)/\(aA B)=(aA B)/\(aA B)+[H].length<=1000000/\qnr C x (aA (eg r x++[H])=(aA (eg r A))/\eg r x++[H] =eg r A/\x+1<=(aA r)/\(aA r)-A<aA r-x)) (aA B=(aA B)/\eg r x=aW r)))) (by
 change (aA r)<=100000 at hp;have e0:eg r 0=[] :=rfl;have es:=aD6 r;have el:=aFe r;have ee:aW r=if (aA r)<2 then []else eg r (aA r):=rfl
 repeat' first|with_reducible apply cJ|with_reducible intro
 all_goals repeat with_reducible cases‹_/\_›
 all_goals first|assumption|rfl|exact trivial|exact nb aJ|exact nb' aJ|omega|exact iX aC|(unfold ix;omega)|(unfold aX;omega)|exact iJ _|exact cO aJ aJ|(refine cO aJ ?_;simp_all;done)|grind)
def VP:=t32.adk aHw
def aIl:Con:=con (a1 (aL .V)) (λr=>[aA r<=100000]) (λr=> .bool (near r))
def Vc:aIl.Okz 159:=bI VP (λr=>[cnt 2 3 (aA r) (aY λi=>bF (aI7 r i) 2000=aE)]
  ) λr hp=>bD ((0=(0:Int)/\(0:Nat)<=(aA r)/\aY (λi=>bF (aI7 r i) 2000=aE) 0)/\
 (∀x:Nat,aO (x:Int) λA=>aO (!bF (aI7 r x) 2000) λB=>x<=(aA r)/\aY (λi=>bF (aI7 r i) 2000=aE) x->qiq (A<aA r) (ix A (aA r)/\(0:Int)<=2000/\(2000:Int)<=1000000000000/\qbq B (aK=near r) (qnr A x (x+1<=(aA r)/\aY (λi=>bF (aI7 r i) 2000=aE) (x+1)/\(aA r)-(x+1)<aA r-x))) (aE=near r))) (by
  change (aA r)<=100000 at hp;have e1:= @aDI r;have e2:= @aBY r
  repeat' first|with_reducible apply cJ|with_reducible intro
  all_goals repeat with_reducible cases‹_/\_›
  all_goals first|assumption|rfl|exact trivial|exact nb aJ|exact nb' aJ|omega|exact iX aC|(unfold ix;omega)|(unfold aX;omega)|exact iJ _|exact cO aJ aJ|(refine cO aJ ?_;simp_all;done)|exact(e2 (by rw[show (aA r)=_ from aC];assumption)).symm|grind)
def Uh:=VP.adk Vc
def aIS:Con:=con (a1 (aL .V)) (λr=>[near r=aE,aA r<=100000]) (λr=> .iqz (area r))
def aHm:aIS.Okz 116:=bI Uh (λr=>[lp 3 4 (aA r) ae [] (λk=>[(3,.iqz (ar r k))]) ae]
  ) λr hp=>bD ((0=(0:Int)/\0=ar r 0/\(0:Nat)<=aA r)/\
 (∀x:Nat,aO (x+1) λA=>aO (x:Int) λB=>aO (aI7 r x) λC=>aO (aI7 r (A % (aA r))) λE=>x<=aA r->qiq (B<aA r) (ix B (aA r)/\aX (B+1)/\(aA r:Int)≠0/\ix ((A % (aA r):Nat):Int) (aA r)/\bd 2000000000 C/\bd 2000000000 E/\aX (ar r x+cross C E)/\qnr B x (ar r x+cross C E=ar r A/\x+1<=(aA r)/\(aA r)-A<aA r-x)) (ar r x=area r))) (by
  change near r=aE/\(aA r)<=100000 at hp;have e0:ar r (aA r)=area r:=rfl;have es:=Dv r;have eb:∀x,x<aA r->aX (ar r x+cross (aI7 r x) (aI7 r ((x+1) % (aA r)))):=λx h=>by rw[<-es];exact bP (by have:=wJ hp.1 (x+1) aC;omega)
  have en:=λi hi=> @o4 r hp.1 i hi 2000000000
  repeat' first|with_reducible apply cJ|with_reducible intro
  all_goals repeat with_reducible cases‹_/\_›
  all_goals first|assumption|rfl|exact trivial|exact nb aJ|exact nb' aJ|omega|exact iX aC|(unfold ix;omega)|(unfold aX;omega)|exact iJ _|exact cO aJ aJ|(refine cO aJ ?_;simp_all;done)|exact eb _ aC|exact en _ aC bg|exact en _ (cG _ aC) bg|(rw[es])|grind)
def VH:=Uh.adk aHm
def aHV:Con:=con (a1 aI) (λn=>[-9000000000000000000<=n,n<=9000000000000000000]) (λn=> .iqz (n.natAbs:Int)
 )
def aGo:aHV.Okz 200:=bI VH ae λn hp=>bD (qiq (0<=n) (n=ce n) (aX (0-n)/\0-n=ce n)) (by
 change-9000000000000000000<=n/\n<=9000000000000000000 at hp
 repeat' first|with_reducible apply cJ|with_reducible intro
 all_goals repeat with_reducible cases‹_/\_›
 all_goals first|assumption|rfl|exact trivial|exact nb aJ|exact nb' aJ|omega|exact iX aC|(unfold ix;omega)|(unfold aX;omega)|exact iJ _|exact cO aJ aJ|(refine cO aJ ?_;simp_all;done)|grind)
def UH:=VH.adk aGo
def aHW:Con:=con (ac aI (a1 aI)) (λ(a,b)=>[0<=a,0<=b]) (λ(a,b)=> .iqz ((bQ a.natAbs b.natAbs:Nat):Int))
def aGp:aHW.Okz 199:=bI UH (λ(a,b)=>[(1,.mk (Int×Int) (λF _=>Kv F 0 1) [] (λp=>[0<=p.1,0<=p.2,bQ p.1.natAbs p.2.natAbs=bQ a.natAbs b.natAbs]) (λp=>[(0,.iqz p.1),(1,.iqz p.2)]) ae (λp=>p.2.natAbs) ae)]
  ) λ(a,b) hp=>bD (aO (ce a) λA=>aO (ce b) λB=>(a=a/\b=b/\0<=a/\0<=b/\bQ A B=bQ A B)/\
 (∀x:Prod Int Int,aO (dA x.1 x.2) λC=>0<=x.1/\0<=x.2/\bQ (ce x.1) (ce x.2)=bQ A B->qiq (¬x.2=0) (x.2≠0/\x.2=x.2/\dA x.1 x.2=dA x.1 x.2/\0<=x.2/\0<=dA x.1 x.2/\bQ (ce x.snd) (ce C)=bQ A B/\ce C<ce x.2) (x.1=bQ A B))) (by
  change 0<=a/\0<=b at hp;have e1:∀x y:Int,0<=x->0<=y->bQ y.natAbs (dA x y).natAbs=bQ x.natAbs y.natAbs:=λx y _ _=>by rw[Bx,By,<-Nat.gcd_rec,By]
  have e2:∀x y:Int,0<=x->¬y=0->(dA x y).natAbs<y.natAbs:=λx y _ h=>by rw[Bx];exact cG _ aC
  have e3:∀x y:Int,0<=x->0<=dA x y:=λx y h=>Int.tmod_nonneg _ h
  repeat' first|with_reducible apply cJ|with_reducible intro
  all_goals repeat with_reducible cases‹_/\_›
  all_goals first|assumption|rfl|exact trivial|exact nb aJ|exact nb' aJ|omega|exact iX aC|(unfold ix;omega)|(unfold aX;omega)|exact iJ _|exact cO aJ aJ|(refine cO aJ ?_;simp_all;done)|exact e3 _ _ aJ|exact e2 _ _ aJ aJ|(rw[e1 _ _ aJ aJ];assumption)|(have h0:=vE ‹¬¬_›;simp_all;omega)|grind)
def UI:=UH.adk aGp
def PtB(p:Pt):Prop:=(1<=p.den/\p.den<=134217728)/\(-600000000000<=p.x/\p.x<=600000000000)/\(-600000000000<=p.y/\p.y<=600000000000)
def PtB.of{p:Pt}(h:dP p=aE):PtB p:=by unfold dP jg bF at h;simp only[cD,decide_eq_true_eq]at h;unfold PtB;omega
def PtB.off{p:Pt}(hp:PtB p){v:V}(hv:bd 10000 v):(-1400000000000<=v.x*p.den/\v.x*p.den<=1400000000000)/\(-1400000000000<=v.y*p.den/\v.y*p.den<=1400000000000):=by have h1:=jE (x:=v.x) (y:=p.den) (A:=10000) (B:=134217728) (by unfold bd at hv;omega) (by unfold PtB at hp;omega);have h2:=jE (x:=v.y) (y:=p.den) (A:=10000) (B:=134217728) (by unfold bd at hv;omega) (by unfold PtB at hp;omega);omega
def aIk:Con:=con (a1 aT) ae (λp=> .bool (dP p))
def aGO:aIk.Okz 161:=bI UI (λp=>[jb 2 42 (!jg p 4000)]
  ) λp _=>bD (aO (-4000*p.den) λA=>aO (!jg p 4000) λB=>aO (ce p.x:Int) λC=>aO (ce p.y:Int) λD=>aO (bQ (ce C) (ce D):Int) λE=>(qiq (p.den<1) (aE=B) (qiq (134217728<p.den) (aE=B) (aX A/\qiq (p.x< -4000*p.den) (aE=B) (aX (4000*p.den)/\qiq (4000*p.den<p.x) (aE=B) (aX A/\qiq (p.y< -4000*p.den) (aE=B) (aX (4000*p.den)/\decide (4000*p.den<p.y)=B))))))/\
 (∀y:Unit,qbq B (aK=dP p) (-9000000000000000000<=p.x/\p.x<=9000000000000000000/\ -9000000000000000000<=p.y/\p.y<=9000000000000000000/\0<=C/\0<=D/\0<=E/\0<=p.den/\decide ((bQ (ce E) (ce p.den):Int)=1)=dP p))) (by
  unfold dP jg bF;simp only[Int.natAbs_natCast]
  repeat' first|with_reducible apply cJ|with_reducible intro
  all_goals repeat with_reducible cases‹_/\_›
  all_goals first|assumption|rfl|exact trivial|exact nb aJ|exact nb' aJ|omega|exact iX aC|(unfold ix;omega)|(unfold aX;omega)|exact iJ _|exact cO aJ aJ|(refine cO aJ ?_;simp_all;done)|grind)
def Ug:=UI.adk aGO
def aIg:Con:=con (ac aV (ac aV (a1 aT))) (λ(a,b,p)=>[bd 10000 a,bd 10000 b,PtB p]) (λ(a,b,p)=> .iqz (sgn (gi ⟨a,b⟩ p))
 )
def aGK:aIg.Okz 165:=bI Ug ae λ(a,b,p) hp=>bD (aO (aJa b a) λA=>aO (p.y-a.y*p.den) λB=>aO (p.x-a.x*p.den) λC=>aO (A.x*B-A.y*C) λD=>bd 1000000000 b/\bd 1000000000 a/\aX (a.y*p.den)/\aX B/\aX (A.x*B)/\aX (a.x*p.den)/\aX C/\aX (A.y*C)/\aX D/\sgn D=sgn (gi (⟨a,b⟩:S) p)) (by change bd 10000 a/\bd 10000 b/\PtB p at hp;have h1:=hp.2.2.off hp.1;have h2:=j0 hp.2.1 hp.1;have h3:=hp.2.2;unfold PtB at h3;have m1:=jE (A:=20000) (B:=2000000000000) h2.1 (y:=p.y-a.y*p.den) aC;have m2:=jE (A:=20000) (B:=2000000000000) h2.2 (y:=p.x-a.x*p.den) aC;exact⟨hp.2.1.mono,hp.1.mono,bP aC,bP aC,bP aC,bP aC,bP aC,bP aC,bP aC,rfl⟩)
def Uc:=Ug.adk aGK
def inR(s:S)(p:Pt):Bool:=decide (min s.a.x s.b.x*p.den<=p.x)&&decide (p.x<=max s.a.x s.b.x*p.den)&&decide (min s.a.y s.b.y*p.den<=p.y)&&decide (p.y<=max s.a.y s.b.y*p.den)
def aIh:Con:=con (ac aS (a1 aT)) (λ(s,p)=>[bd 10000 s.a,bd 10000 s.b,PtB p]) (λ(s,p)=> .bool (onR s p))
def aGL:aIh.Okz 164:=bI Uc (λ(s,p)=>[jb 2 5 (inR s p)]
  ) λ(s,p) hp=>bD ((aX (Min.min s.a.x s.b.x*p.den)/\qiq (Min.min s.a.x s.b.x*p.den<=p.x) (aX (Max.max s.a.x s.b.x*p.den)/\qiq (p.x<=Max.max s.a.x s.b.x*p.den) (aX (Min.min s.a.y s.b.y*p.den)/\qiq (Min.min s.a.y s.b.y*p.den<=p.y) (aX (Max.max s.a.y s.b.y*p.den)/\decide (p.y<=Max.max s.a.y s.b.y*p.den)=inR s p) (aK=inR s p)) (aK=inR s p)) (aK=inR s p))/\
 (∀y:Unit,qbq (inR s p) (bd 10000 s.a/\bd 10000 s.b/\PtB p/\decide (sgn (gi s p)=0)=onR s p) (aK=onR s p))) (by
  change bd 10000 s.a/\bd 10000 s.b/\PtB p at hp;have h1:=hp.2.2.off (v:=⟨min s.a.x s.b.x,min s.a.y s.b.y⟩) (by unfold bd at*;grind);have h2:=hp.2.2.off (v:=⟨max s.a.x s.b.x,max s.a.y s.b.y⟩) (by unfold bd at*;grind);dsimp only at h1 h2;have e:onR s p=(inR s p&&sgn (gi s p)==0):=rfl;unfold inR at*
  repeat' first|with_reducible apply cJ|with_reducible intro
  all_goals repeat with_reducible cases‹_/\_›
  all_goals first|assumption|rfl|exact trivial|exact nb aJ|exact nb' aJ|omega|exact iX aC|(unfold ix;omega)|(unfold aX;omega)|exact iJ _|exact cO aJ aJ|(refine cO aJ ?_;simp_all;done)|grind)
def Ud:=Uc.adk aGL
def m9(r:aU)(i k:Nat):Bool:=if k=i+1\/(i=0/\k=aA r-1)then cK (bh r i) (bh r k)==1 else cK (bh r i) (bh r k)==0
def CM(r:aU):fJ r=aE↔3<=(aA r)/\(aA r)<=40/\near r=aE/\(∀i,i<aA r->turn (aI7 r i) (aI7 r ((i+1) % (aA r))) (aI7 r ((i+2) % (aA r)))≠0)/\(∀i k,i<k->k<aA r->m9 r i k=aE)/\0<area r:=by
 unfold fJ;simp only[cD,decide_eq_true_eq,cC,cP,bne_iff_ne,Bool.or_eq_true];constructor
 .rintro⟨⟨⟨⟨⟨h1,h2⟩,h3⟩,h4⟩,h5⟩,h6⟩;refine⟨h1,h2,h3,h4,λi k hik hk=> ?_,h6⟩;rcases h5 i aC k hk with h|h
  .omega
  .exact h
 .rintro⟨h1,h2,h3,h4,h5,h6⟩;refine⟨⟨⟨⟨⟨h1,h2⟩,h3⟩,h4⟩,λi hi k hk=> ?_⟩,h6⟩;by_cases h:k<=i
  .exact .inl h
  .exact .inr (h5 i k aC hk)
def zO(r:aU)(h:2<=aA r):aA (aW r)=aA r:=by unfold aW;grind
def zZ{r:aU}{i:Nat}(h:2<=aA r)(hi:i<aA r):az (aW r) i=bh r i:=by rw[iV (by rw[zO r h];exact hi)];simp only[aW,if_neg (aC:¬(aA r)<2),List.getElem_map,List.getElem_range]
def cY(p:Pt)(l:List S):Bool:=l.foldl (λb s=>b !=mD s p) aK
def Z0{p:Pt}{l:List S}{k:Nat}(h:k<aA l):cY p (l.take (k+1))=(cY p (l.take k) !=mD (az l k) p):=by unfold cY;rw[nO,fQ h,Bw,iV h];rfl
def PX{p:Pt}:∀{l:List S} {k:Nat} (ins:Bool),k<aA l->(∀j,j<k->onR (az l j) p=aK)->onR (az l k) p=aE->pB p l ins=1
 |[],k,ins,h,_,_=>by simp at h
 |s::l,0,ins,h,_,h2=>by
  unfold pB;rw[show onR s p=aE from h2];rfl
 |s::l,k+1,ins,h,h1,h2=>by
  unfold pB;rw[show onR s p=aK from h1 0 (by omega)];exact PX (l:=l) (k:=k) _ (by simpa using h) (λj hj=>h1 (j+1) aC) h2
def N8{p:Pt}:∀{l:List S} (ins:Bool),(∀j,j<aA l->onR (az l j) p=aK)->pB p l ins=if l.foldl (λb s=>b !=mD s p) ins=aE then 2 else 0
 |[],ins,_=>rfl
 |s::l,ins,h1=>by
  unfold pB;rw[show onR s p=aK from h1 0 (by simp)];exact N8 (l:=l) _ (λj hj=>h1 (j+1) aH)
def pr(r:aU)(p:Pt)(k:Nat):Bool:=cY p ((aW r).take k)
def SD{r:aU}(h:fJ r=aE){j:Nat}(hj:j<aA (aW r)):bd 2000 (az (aW r) j).a/\bd 2000 (az (aW r) j).b:=by obtain⟨h1,h2,h3,_⟩:=(CM r).1 h;rw[zO r aC]at hj;rw[zZ aC hj];exact⟨o4 h3 hj,o4 h3 (cG _ aC)⟩
def nxR(r:aU)(i k:Nat):Bool:=decide (k=i+1\/(i=0/\k=aA r-1))
abbrev nE(r:aU)(i:Nat):S:=az (aW r) i
def upR(e:S)(p:Pt):Bool:=decide (e.a.y*p.den<=p.y)&&decide (p.y<e.b.y*p.den)
def dnR(e:S)(p:Pt):Bool:=decide (e.b.y*p.den<=p.y)&&decide (p.y<e.a.y*p.den)
def tp(r:aU)(i:Nat):Prop:=turn (aI7 r i) (aI7 r ((i+1) % (aA r))) (aI7 r ((i+2) % (aA r)))≠0
def c91:Con:=con (a1 (aL .V)) (λr=>[aA r<=100000]) (λr=> .bool (fJ r))
def k91:c91.Okz 90:=bI Ud (λr=>[jP 4 [3<=aA r,aA r<=40,near r=aE],cnt 5 4 (aA r) (aY (tp r)),cnt 11 6 (aA r) (aY λi=>∀k,i<k->k<aA r->m9 r i k=aE) λi=>[(14,.mk Nat (λF _=>nA F 7) [] (λk=>[i<k,k<=aA r,∀j,i<j->j<k->m9 r i j=aE]) (λk=>[(7,.iqz (k:Int))]) ae (λk=>aA r-k) λk=>[jb 17 8 (nxR r i k),jb 19 97 (!m9 r i k)])]]
  ) λr hp=>bD (aO (aW r) λF=>aO (aA r:Int) λO=>(qiq (O<3) (aK=fJ r) (qiq (40<O) (aK=fJ r) (aA r<=100000/\qbq (!near r) (aK=fJ r) ((3:Nat)<=(aA r)/\(aA r)<=40/\near r=aE))))/\
 (∀y:Unit,(3:Nat)<=(aA r)/\(aA r)<=40/\near r=aE->(0=(0:Int)/\(0:Nat)<=(aA r)/\aY (tp r) 0)/\
  (∀x:Nat,aO (x+1) λA=>aO (x:Int) λC=>aO (aI7 r x) λI=>aO (aI7 r (A % (aA r))) λK=>aO (aI7 r ((x+2) % (aA r))) λM=>x<=(aA r)/\aY (tp r) x->qiq (C<aA r) (ix C (aA r)/\aX (C+1)/\O≠0/\ix ((A % (aA r):Nat):Int) (aA r)/\aX (C+2)/\O≠0/\ix (((x+2) % (aA r):Nat):Int) (aA r)/\bd 1000000000 I/\bd 1000000000 K/\bd 1000000000 M/\qiq (turn I K M=0) (aK=fJ r) (qnr C x (x+1<=(aA r)/\aY (tp r) A/\(aA r)-A<aA r-x))) (aA r<=100000/\(0=(0:Int)/\(0:Nat)<=(aA r)/\aY (λi=>∀k:Nat,i<k->k<aA r->m9 r i k=aE) 0)/\
    (∀x_1:Nat,aO (x_1:Int) λD=>aO (az F x_1) λG=>aO (x_1+1:Nat) λN=>x_1<=(aA r)/\aY (λi=>∀k:Nat,i<k->k<aA r->m9 r i k=aE) x_1->qiq (D<aA r) (aX (D+1)/\(D+1=(N:Int)/\x_1<x_1+1/\x_1+1<=(aA r)/\(∀j:Nat,x_1<j->j<x_1+1->m9 r x_1 j=aE))/\
      (∀x_2:Nat,aO (x_2:Int) λE=>aO (az F x_2) λH=>aO (!nxR r x_1 x_2) λP=>aO (!m9 r x_1 x_2) λQ=>x_1<x_2/\x_2<=(aA r)/\(∀j:Nat,x_1<j->j<x_2->m9 r x_1 j=aE)->qiq (E<aA r) ((aX (D+1)/\qiq (E=x_1+1) (aE=nxR r x_1 x_2) (qiq (D=0) (aX (O-1)/\decide (E=aA r-1)=nxR r x_1 x_2) (aK=nxR r x_1 x_2)))/\
        (∀y_1:Unit,ix D (aA F)/\ix E (aA F)/\(qbq (nxR r x_1 x_2) (qiq (¬cK G H=1) (aE=Q) (qbq P (decide (¬cK G H=0)=Q) (aK=Q))) (qbq P (decide (¬cK G H=0)=Q) (aK=Q)))/\
         (∀y_2:Unit,qbq Q (aK=fJ r) (qnr E x_2 (x_1<x_2+1/\x_2+1<=(aA r)/\(∀j:Nat,x_1<j->j<x_2+1->m9 r x_1 j=aE)/\(aA r)-(x_2+1)<aA r-x_2))))) (aX (D+1)/\D+1=(N:Int)/\x_1+1<=(aA r)/\aY (λi=>∀k:Nat,i<k->k<aA r->m9 r i k=aE) (x_1+1)/\(aA r)-(x_1+1)<aA r-x_1))) (near r=aE/\(aA r)<=100000/\decide (0<area r)=fJ r)))))) (by
  change (aA r)<=100000 at hp;have iff:=CM r;have hf:(fJ r=aE->False)->aK=fJ r:=λh=>aH;have el:3<=aA r->aA (aW r)=aA r:=λh=>zO r aC;have en:near r=aE->∀i,i<aA r->bd 1000000000 (aI7 r i):=λh i hi=>o4 h hi;have hp':3<=aA r->∀i k,i<k->k<aA r->m9 r i k=if nxR r i k=aE then cK (az (aW r) i) (az (aW r) k)==1 else cK (az (aW r) i) (az (aW r) k)==0:=λh i k h1 h2=>by unfold m9 nxR;rw[zZ aC aC,zZ aC aC];grind
  have hE:3<=aA r->aA r<=40->near r=aE->∀x y:Nat,¬(x:Int)<aA r->¬(y:Int)<aA r->aY (tp r) x->aY (λi=>∀k:Nat,i<k->k<aA r->m9 r i k=aE) y->decide (0<area r)=fJ r:=λh1 h2 h3 x y hx hy h4 h5=>by rw[gR,iff,decide_eq_true_eq];exact⟨λh=>⟨h1,h2,h3,λi hi=>h4 i aC,λi k hi hk=>h5 i aC k hi hk,h⟩,λh=>h.2.2.2.2.2⟩
  repeat' first|with_reducible apply cJ|with_reducible intro
  all_goals repeat with_reducible cases‹_/\_›
  all_goals first|assumption|rfl|exact trivial|exact nb aJ|exact nb' aJ|omega|exact iX aC|(unfold ix;omega)|(unfold aX;omega)|exact iJ _|exact cO aJ aJ|(refine cO aJ ?_;simp_all;done)|exact en aJ _ aC|exact en aJ _ (cG _ aC)|(rw[el aJ];exact fS aC)|exact hE aJ aJ aJ _ _ aJ aJ aJ aJ|(refine hf λh=> ?_;have h:=iff.1 h;first|omega|(exact h.2.2.2.1 _ aC ‹_=0›)|(have h2:=h.2.2.2.2.1 _ _ aJ aC;simp_all;done)|(simp_all;done))|(refine cO aJ ?_;grind)|(unfold nxR;exact(decide_eq_true aC).symm)|(unfold nxR;exact(decide_eq_false aC).symm)|(unfold nxR;exact decide_eq_decide.2 aC)|(rw[hp' aJ _ _ aJ aC,‹nxR _ _ _=_›];grind)|(intro j h1 h2;omega)|grind)
def t91:=Ud.adk k91
def aI1:Con:=con (ac (aL .V) (a1 aT)) (λ(r,_)=>[aA r<=100000]) (λ(r,p)=> .iqz (fO r p))
def aHv:aI1.Okz 102:=bI t91 (λ(r,p)=>[jP 3 [fJ r=aE,dP p=aE],lp 6 7 (aA (aW r)) (λk=>[aY (λj=>onR (nE r j) p=aK) k]) [] (λk=>[(6,.bool (pr r p k))]) ae λk=>[(10012,.mk Unit (λ_ _=>aD ()) [] ae (λ_=>[(10,.bool (upR (nE r k) p)),(11,.bool (dnR (nE r k) p))]) ae (λ_=>0) λ_=>[]),jb 13 97 (mD (nE r k) p)]]
  ) λ(r,p) hp=>bD (aO (aW r) λD=>aO (!fJ r) λH=>aO (!dP p) λI=>(aA r<=100000/\qbq H (0=fO r p) (qbq I (0=fO r p) (fJ r=aE/\dP p=aE)))/\
 (∀y:Unit,fJ r=aE/\dP p=aE->aA r<=100000/\(0=(0:Int)/\aK=pr r p 0/\(0:Nat)<=(aA D)/\aY (λj=>onR (nE r j) p=aK) 0)/\
  (∀x:Nat,aO (x+1) λA=>aO (nE r x) λB=>aO (x:Int) λC=>aO (gi B p) λE=>aO (B.a.y*p.den) λF=>aO (B.b.y*p.den) λG=>aO ((x+1:Nat):Int) λJ=>x<=(aA D)/\aY (λj=>onR (nE r j) p=aK) x->qiq (C<aA D) (ix C (aA D)/\bd 10000 B.a/\bd 10000 B.b/\PtB p/\qbq (onR B p) (1=fO r p) (ix C (aA D)/\ix C (aA D)/\(aX F/\qiq (B.a.y*p.den<=p.y) (aX G/\aX G/\qiq (B.b.y*p.den<=p.y) (aX F/\decide (p.y<B.b.y*p.den)=upR B p/\decide (p.y<B.a.y*p.den)=dnR B p) (decide (p.y<B.b.y*p.den)=upR B p/\aK=dnR B p)) (aX G/\qiq (B.b.y*p.den<=p.y) (aX F/\aK=upR B p/\decide (p.y<B.a.y*p.den)=dnR B p) (aK=upR B p/\aK=dnR B p)))/\
    (∀y_1:Unit,(qbq (upR B p) (bd 10000 B.a/\bd 10000 B.b/\PtB p/\qiq (0<sgn E) (aE=mD B p) (qbq (dnR B p) (bd 10000 B.a/\bd 10000 B.b/\PtB p/\decide (sgn E<0)=mD B p) (aK=mD B p))) (qbq (dnR B p) (bd 10000 B.a/\bd 10000 B.b/\PtB p/\decide (sgn E<0)=mD B p) (aK=mD B p)))/\
     (∀y_2:Unit,qbq (mD B p) (aX (C+1)/\C+1=J/\(!pr r p x)=pr r p A/\x+1<=(aA D)/\aY (λj=>onR (nE r j) p=aK) A/\(aA D)-A<aA D-x) (aX (C+1)/\C+1=J/\pr r p x=pr r p A/\x+1<=(aA D)/\aY (λj=>onR (nE r j) p=aK) A/\(aA D)-A<aA D-x))))) (qbq (pr r p x) (2=fO r p) (0=fO r p))))) (by
  change (aA r)<=100000 at hp;have e0:pr r p 0=aK:=rfl;have es:∀k,k<aA (aW r)->pr r p (k+1)=(pr r p k !=mD (nE r k) p):=λk h=>Z0 h;have eh:∀e,mD e p=(upR e p&&decide (0<sgn (gi e p))||dnR e p&&decide (sgn (gi e p)<0)):=λe=>rfl;have hw0:fJ r=aK\/dP p=aK->0=fO r p:=λh=>by unfold fO;grind
  have hw:fJ r=aE->dP p=aE->fO r p=pB p (aW r) aK:=λh1 h2=>by unfold fO;simp[h1,h2]
  have eb:fJ r=aE->∀j,j<aA (aW r)->bd 2000 (nE r j).a/\bd 2000 (nE r j).b:=λh j hj=>SD h hj;have el:aA (aW r)<=100000:=by unfold aW;split<;>simp<;>omega
  have ey:fJ r=aE->dP p=aE->∀j,j<aA (aW r)->aX ((nE r j).a.y*p.den)/\aX ((nE r j).b.y*p.den):=λh1 h2 j hj=>⟨bP (by have:=(PtB.of h2).off (eb h1 j hj).1.mono;omega),bP (by have:=(PtB.of h2).off (eb h1 j hj).2.mono;omega)⟩;have s1:∀j,j<aA (aW r)->aY (λj=>onR (nE r j) p=aK) j->onR (nE r j) p=aE->pB p (aW r) aK=1:=λj h1 h2 h3=>PX aK h1 h2 h3;have s2:∀k:Nat,¬(k:Int)<aA (aW r)->k<=aA (aW r)->aY (λj=>onR (nE r j) p=aK) k->pB p (aW r) aK=if pr r p k=aE then 2 else 0:=λk h1 h2 h=>by obtain rfl:k=aA (aW r):=aC;rw[N8 aK h];unfold pr cY;grind
  repeat' first|with_reducible apply cJ|with_reducible intro
  all_goals repeat with_reducible cases‹_/\_›
  all_goals first|assumption|rfl|exact trivial|exact nb aJ|exact nb' aJ|omega|exact iX aC|(unfold ix;omega)|(unfold aX;omega)|exact iJ _|exact cO aJ aJ|(refine cO aJ ?_;simp_all;done)|exact(eb aJ _ aC).1.mono|exact(eb aJ _ aC).2.mono|exact(ey aJ aJ _ aC).1|exact(ey aJ aJ _ aC).2|exact PtB.of aJ|exact hw0 (.inl (nb' aJ))|exact hw0 (.inr (nb' aJ))|(rw[hw aJ aJ,s1 _ aC aJ aJ])|(rw[hw aJ aJ,s2 _ aJ aJ aJ,‹pr _ _ _=_›];rfl)|(rw[es _ aC,‹mD _ _=_›];simp;done)|(rw[eh,‹upR _ _=_›,‹dnR _ _=_›];grind)|(rw[eh,‹upR _ _=_›];simp_all;done)|(unfold upR;simp_all;done)|(unfold dnR;simp_all;done)|grind)
def VO:=t91.adk aHv
def c36:Con:=con (ac (aL .V) (a1 aV)) (λ(r,_)=>[aA r<=100000]) (λ(r,v)=> .iqz (ki r v)
 )
def k36:c36.Okz 36:=bI VO ae λ(r,v) hp=>bD (aO (!bF v 8000) λA=>(0:Int)<=8000/\(8000:Int)<=1000000000000/\qbq A (0=ki r v) (aA r<=100000/\fO r (fL v)=ki r v)) (by change (aA r)<=100000 at hp;unfold ki;grind)
def t36:=VO.adk k36
def c97:Con:=con (a1 aT) (λp=>[dP p=aE,p.den=1]) (λp=> .tup [.agg [.iqz p.x,.iqz p.y],.bool aE]
 )
def k97:c97.Okz 96:=bI t36 ae λp hp=>bD (aO (!dP p) λA=>qbq A (0=p.x/\0=p.y/\aK=aE) (qiq (¬p.den=1) (0=p.x/\0=p.y/\aK=aE) (p.x=p.x/\p.y=p.y/\aE=aE))) (by change dP p=aE/\p.den=1 at hp;grind)
def t97:=t36.adk k97
def c96:Con:=con (ac aS (a1 aS)) (λ(s,t)=>[cK s t=1]) (λ(s,t)=> .tup [aT.enc (fL (aI7 (fR s t) 0)),.bool aE]
 )
def k96:c96.Okz 95:=bI t97 ae λ(s,t) hp=>bD (qiq (cK s t=1) (ix 0 (aA (fR s t))/\(fL (aI7 (fR s t) 0)).x=(fL (aI7 (fR s t) 0)).x/\(fL (aI7 (fR s t) 0)).y=(fL (aI7 (fR s t) 0)).y/\(fL (aI7 (fR s t) 0)).den=(fL (aI7 (fR s t) 0)).den/\aE=aE) (qiq (cK s t=2) (bd 1000000000 s.b/\bd 1000000000 s.a/\bd 1000000000 t.b/\bd 1000000000 t.a/\bd 2000000000 (aJa s.b s.a)/\bd 2000000000 (aJa t.b t.a)/\bd 1000000000 t.a/\bd 1000000000 s.a/\bd 2000000000 (aJa t.a s.a)/\bd 2000000000 (aJa t.b t.a)/\aX (s.a.x*cross (aJa s.b s.a) (aJa t.b t.a))/\aX ((aJa s.b s.a).x*cross (aJa t.a s.a) (aJa t.b t.a))/\aX (s.a.x*cross (aJa s.b s.a) (aJa t.b t.a)+(aJa s.b s.a).x*cross (aJa t.a s.a) (aJa t.b t.a))/\aX (s.a.y*cross (aJa s.b s.a) (aJa t.b t.a))/\aX ((aJa s.b s.a).y*cross (aJa t.a s.a) (aJa t.b t.a))/\aX (s.a.y*cross (aJa s.b s.a) (aJa t.b t.a)+(aJa s.b s.a).y*cross (aJa t.a s.a) (aJa t.b t.a))/\False) (0=(fL (aI7 (fR s t) 0)).x/\0=(fL (aI7 (fR s t) 0)).y/\0=(fL (aI7 (fR s t) 0)).den/\aK=aE))) (by
 change cK s t=1 at hp;have hl:aA (fR s t)=1:=by unfold cK at hp;grind
 with_reducible ((repeat' first|apply cJ|intro);all_goals repeat cases‹_/\_›)
 all_goals grind)
def t96:=t97.adk k96
def tf(r:aU):∀k,dw r k<=k
 |0=>bR _
 |k+1=>by unfold dw;have:=tf r k;grind
def GY{r:aU}{k:Nat}(h:0<k):dw r k<k:=Geo.GY r k h
def aDP(r:aU)(k:Nat):dw r (k+1)=if cB (aI7 r k) (aI7 r (dw r k))=aE then k else dw r k:=rfl
def iu(r:aU):aU:=if fJ r then bo r else []
def aIx:Con:=con (a1 (aL .V)) (λr=>[aA r<=100000]) (λr=> .lst .V (bo r))
def aG0:aIx.Okz 121:=bI t96 (λr=>[lp 3 4 (aA r) ae [] (λk=>[(3,.iqz (dw r k))]) ae]
  ) λr hp=>bD (aO ([] :List V) λD=>(0=(0:Int)/\0=(dw r 0:Int)/\(0:Nat)<=aA r)/\
 (∀x:Nat,aO (x+1) λA=>aO (x:Int) λB=>aO (dw r x) λC=>aO (D++fE C r) λE=>aO ((x+1:Nat):Int) λF=>aO (dw r x:Int) λG=>aO (D++fE C r++ak C r) λH=>x<=aA r->qiq (B<aA r) (ix B (aA r)/\ix G (aA r)/\qbq (cB (aI7 r x) (aI7 r C)) (aX (B+1)/\B+1=F/\B=dw r A/\x+1<=(aA r)/\(aA r)-A<aA r-x) (aX (B+1)/\B+1=F/\G=dw r A/\x+1<=(aA r)/\(aA r)-A<aA r-x)) ((0<=G/\G<=aA r)/\(aA D)+aA (fE C r)<=1000000/\(0<=G/\G<=aA r)/\(aA E)=(aA E)/\(aA E)+aA (ak C r)<=1000000/\(aA H)=(aA H)/\D++fE C r++ak C r=bo r))) (by
  change (aA r)<=100000 at hp;have e0:dw r 0=0:=rfl;have es:=aDP r;have el:=tf r;have eb:([] :List V)++fE (dw r (aA r)) r++ak (dw r (aA r)) r=bo r:=rfl
  with_reducible ((repeat' first|apply cJ|intro);all_goals repeat cases‹_/\_›)
  all_goals grind)
def Uw:=t96.adk aG0
def c71:Con:=con (a1 (aL .V)) (λr=>[aA r<=100000]) (λr=> .lst .V (iu r)
 )
def k71:c71.Okz 55:=bI Uw ae λr hp=>bD (aO (!fJ r) λA=>aA r<=100000/\qbq A (iu r=([] :List V)) (aA r<=100000/\bo r=iu r)) (by change (aA r)<=100000 at hp;unfold iu;grind)
def t71:=Uw.adk k71
def aDi{a b:aU}{k:Nat}(h:¬aI7 a k=aI7 b k):aK=(a==b):=aH
def aBC{a b:aU}(hl:(aA a:Int)=aA b){k:Nat}(hk:¬(k:Int)<aA a)(h:aY (λj=>aI7 a j=aI7 b j) k):aE=(a==b):=by symm;rw[beq_iff_eq];refine wg aC λj h1 h2=> ?_;rw[<-nth_eq h1,<-nth_eq h2];exact h j aC
def c23:Con:=con (ac (aL .V) (a1 (aL .V))) (λ(a,_)=>[aA a<=1000000]) (λ(a,b)=> .bool (a==b))
def k23:c23.Okz 23:=bI t71 (λ(a,b)=>[cnt 4 5 (aA a) (aY λj=>aI7 a j=aI7 b j)]
 ) λ(a,b) hp=>bD (aO (a==b) λA=>aO (aA a:Int) λC=>qiq (¬C=aA b) (aK=A) ((0=(0:Int)/\(0:Nat)<=(aA a)/\aY (λj=>aI7 a j=aI7 b j) 0)/\
 (∀x:Nat,aO (x:Int) λB=>x<=(aA a)/\aY (λj=>aI7 a j=aI7 b j) x->qiq (B<aA a) (ix B (aA a)/\ix B (aA b)/\qiq (¬(aI7 a x)=(aI7 b x)) (aK=A) (qnr B x (x+1<=(aA a)/\aY (λj=>aI7 a j=aI7 b j) (x+1)/\(aA a)-(x+1)<aA a-x))) (aE=A)))) (by
 change (aA a)<=1000000 at hp
 with_reducible ((repeat' first|apply cJ|intro);all_goals repeat cases‹_/\_›)
 all_goals first|rfl|exact aDi ‹¬aI7 a _=_› |exact aBC aC aJ aJ|grind)
def t23:=t71.adk k23
def c76:Con:=con (ac (aL .V) (a1 (aL .V))) (λ(a,_)=>[aA a<=1000000]) (λ(a,b)=> .bool (a==b)
 )
def k76:c76.Okz 54:=bI t23 ae λ(a,b) hp=>bD (aA a<=1000000/\(a==b)=(a==b)) (by change (aA a)<=1000000 at hp;grind)
def t76:=t23.adk k76
def Fit(s:Shape):Prop:=aA s.outer<=1000/\(aA s.holes)<=900/\∀r∈s.holes,aA r<=1000
def Fit.rings{s:Shape}(hf:Fit s):∀r∈aR s,aA r<=1000:=by
 intro r hr;unfold aR at hr;rcases bO.1 hr with rfl|hr
 .exact hf.1
 .exact hf.2.2 r hr
def Fit.ring{s:Shape}(hf:Fit s){k:Nat}(hk:k<aA (aR s)):aA (aP (aR s) k)<=1000:=hf.rings _ (iU hk)
def Fit.hole{s:Shape}(hf:Fit s){k:Nat}(hk:k<aA s.holes):aA (aP s.holes k)<=1000:=hf.2.2 _ (iU hk)
def Fit.rlen{s:Shape}(hf:Fit s):aA (aR s)<=901:=by have:=hf.2.1;simp[aR];omega
def eS(s:Shape)(k:Nat):List S:=((aR s).take k).flatMap aW
def SF{s:Shape}{k:Nat}(h:k<aA (aR s)):eS s k++aW (aP (aR s) k)=eS s (k+1):=by unfold eS;rw[nO,fQ h,List.flatMap_append,jz h];simp
def AJ(r:aU):aA (aW r)<=aA r:=by unfold aW;grind
def J0{s:Shape}(hf:Fit s):∀k,k<=aA (aR s)->aA (eS s k)<=1000*k
 |0,_=>by simp[eS]
 |k+1,h=>by
  rw[<-SF aC,eR];have:=J0 hf k aC;have:=AJ (aP (aR s) k);have:=hf.ring (k:=k) aC;omega
def aFf(s:Shape):eS s (aA (aR s))=ao s:=by unfold eS;rw[ri];rfl
def aI3:Con:=con (a1 aSh) (λs=>[Fit s]) (λs=> .lst .R (aR s)
 )
def aHx:aI3.Okz 100:=bI t76 ae λs hp=>bD (aO ([s.outer] ++s.holes) λA=>[s.outer].length+aA s.holes<=1000000/\(aA A)=(aA A)/\[s.outer] ++s.holes=aR s) (by change Fit s at hp;have h:=hp.2.1;exact⟨eO,rfl,rfl⟩)
def VQ:=t76.adk aHx
def c33:Con:=con (a1 aSh) (λs=>[Fit s]) (λs=> .lst .S (ao s))
def k33:c33.Okz 33:=bI VQ (λs=>[lp 4 5 (aA (aR s)) ae [900] (λk=>[(3,.own 900 .S (aA (eS s k)))]) (λk=>[(900,.row 46 .S (eS s k))])]
  ) λs hp=>bD (aO (aR s) λC=>Fit s/\(0=(0:Int)/\(aA (eS s 0))=0/\eS s 0=([] :List S)/\(0:Nat)<=aA C)/\
 (∀x:Nat,aO (eS s x) λA=>aO (x:Int) λB=>aO (aP C x) λD=>x<=aA C->qiq (B<aA C) (ix B (aA C)/\(aA D)<=100000/\(aA A)=(aA A)/\(aA A)+aA (aW D)<=1000000/\qnr B x (aA (eS s x++aW D)=(aA (eS s (x+1)))/\eS s x++aW D=eS s (x+1)/\x+1<=(aA C)/\(aA C)-(x+1)<aA C-x)) (aA A=(aA A)/\eS s x=ao s))) (by
  change Fit s at hp;have e0:eS s 0=[] :=rfl;have ea:=aFf s;have er:=hp.rlen;have es:= @SF s;have eb:∀k,k<aA (aR s)->aA (eS s k)+aA (aW (aP (aR s) k))<=1000000:=λk h=>by have:=J0 hp (k+1) aC;grind
  have ek:= @Fit.ring s hp
  with_reducible ((repeat' first|apply cJ|intro);all_goals repeat cases‹_/\_›)
  all_goals grind)
def t33:=VQ.adk k33
section
def kj(a b:aU)(al:Bool):Bool:=if al=aE then rn a b else nT a b
def Yg{a b:aU}{al:Bool}{j:Nat}(hj:j<aA a)(h:(ki b (aI7 a j)==2)≠al):kj a b al= !al:=by
 unfold kj rn nT;cases al with
 |true=>rw[if_pos rfl];exact vF.2 ⟨_,dh hj,by simpa using h⟩
 |false=>rw[if_neg af];exact kX.2 ⟨_,dh hj,by simpa using h⟩
def Xd{a b:aU}{al:Bool}(h:∀j,j<aA a->(ki b (aI7 a j)==2)=al):kj a b al=al:=by
 unfold kj rn nT;cases al with
 |true=>
  rw[if_pos rfl];refine cC.2 λx hx=> ?_;obtain⟨j,hj,rfl⟩:=jQ hx;rw[<-nth_eq hj];exact h j hj
 |false=>
  rw[if_neg af];refine tW.2 λx hx=> ?_;obtain⟨j,hj,rfl⟩:=jQ hx;rw[<-nth_eq hj,h j hj];simp
def lP(s:Shape)(i:Nat):Bool:=fJ (aP s.holes i)&& !kS (aP s.holes i) s.outer&&rn (aP s.holes i) s.outer
def kR(s:Shape)(i k:Nat):Bool:= !kS (aP s.holes i) (aP s.holes k)&& !nT (aP s.holes i) (aP s.holes k)&& !nT (aP s.holes k) (aP s.holes i)
def lQ(s:Shape)(k:Nat):Nat:=aA s.outer+((s.holes.take k).map aA).sum
def GN(s:Shape):lQ s 0=aA s.outer:=by simp[lQ]
variable{s:Shape}{k:Nat}
def GO(h:k<aA s.holes):lQ s (k+1)=lQ s k+aA (aP s.holes k):=by unfold lQ;rw[nO,fQ h,dV,nM,jz h,<-Nat.add_assoc];rfl
def Nn(s:Shape):lQ s (aA s.holes)=jy s:=by unfold lQ jy aR;grind
def aAK(hf:Fit s)(k:Nat)(hk:k<=aA s.holes):lQ s k<=1000*(k+1):=by
 induction k with
 |zero=>have:=hf.1;rw[GN];omega
 |succ k ih=>
  rw[GO aC];have h1:=ih aC;have h2:=hf.2.2 _ (iU (aC:k<aA s.holes));omega
def zR(s:Shape):aj s=aE↔aA s.holes<=6/\fJ s.outer=aE/\(∀i,i<aA s.holes->lP s i=aE/\∀k,k<i->kR s i k=aE)/\jy s<=80:=by unfold aj;simp only[cD,decide_eq_true_eq,cC,cP];unfold lP kR;grind
variable{i:Nat}
def aB1{a b:aU}{j:Nat}(h:¬cK (az (aW a) i) (az (aW b) j)=0)(hi:i<aA (aW a))(hj:j<aA (aW b)):aE=kS a b:=by unfold kS;symm;exact kX.2 ⟨_,DB hi,kX.2 ⟨_,DB hj,by simpa using h⟩⟩
def E1(a b:aU)(i:Nat):Prop:=∀j,j<aA (aW b)->cK (az (aW a) i) (az (aW b) j)=0
def aB0{a b:aU}(hk:¬(k:Int)<aA (aW a))(h:aY (E1 a b) k):aK=kS a b:=by unfold kS;symm;refine tW.2 λx hx=> ?_;obtain⟨i,hi,rfl⟩:=jQ hx;rw[<-iV hi,Bool.not_eq_true];refine tW.2 λy hy=> ?_;obtain⟨j,hj,rfl⟩:=jQ hy;rw[<-iV hj,h i aC j hj];decide
def aDE{a b:aU}(hk:¬(k:Int)<aA (aW b))(h:aY (λj=>cK (az (aW a) i) (az (aW b) j)=0) k):E1 a b i:=λj hj=>h j aC
def aIM:Con:=con (ac (aL .V) (a1 (aL .V))) (λ(a,b)=>[aA a<=100000,aA b<=100000]) (λ(a,b)=> .bool (kS a b))
def aHf:aIM.Okz 128:=bI t33 (λ(a,b)=>[cnt 3 7 (aA (aW a)) (aY (E1 a b)) λi=>[cnt 6 8 (aA (aW b)) (aY λj=>cK (az (aW a) i) (az (aW b) j)=0)]]
  ) λ(a,b) hp=>bD (aO (E1 a b) λB=>aO (aW a) λD=>aO (aW b) λF=>aA a<=100000/\(aA b)<=100000/\(0=(0:Int)/\(0:Nat)<=(aA D)/\aY B 0)/\
 (∀x:Nat,aO (x:Int) λA=>aO (az D x) λE=>x<=(aA D)/\aY B x->qiq (A<aA D) ((0=(0:Int)/\(0:Nat)<=(aA F)/\aY (λj=>cK E (az F j)=0) 0)/\
   (∀x_1:Nat,aO (x_1:Int) λC=>x_1<=(aA F)/\aY (λj=>cK E (az F j)=0) x_1->qiq (C<aA F) (ix A (aA D)/\ix C (aA F)/\qiq (¬cK E (az F x_1)=0) (aE=kS a b) (qnr C x_1 (x_1+1<=(aA F)/\aY (λj=>cK E (az F j)=0) (x_1+1)/\(aA F)-(x_1+1)<aA F-x_1))) (qnr A x (x+1<=(aA D)/\aY B (x+1)/\(aA D)-(x+1)<aA D-x)))) (aK=kS a b))) (by
  change (aA a)<=100000/\(aA b)<=100000 at hp;have ha:=AJ a;have hb:=AJ b
  repeat' first|with_reducible apply cJ|with_reducible intro
  all_goals repeat with_reducible cases‹_/\_›
  all_goals first|assumption|rfl|exact trivial|exact nb aJ|exact nb' aJ|omega|exact iX aC|(unfold ix;omega)|(unfold aX;omega)|exact iJ _|exact cO aJ aJ|(refine cO aJ ?_;simp_all;done)|exact aB1 ‹¬cK _ _=0› aC aC|exact aB0 aJ aJ|exact cO aJ (aDE aJ aJ)|(refine cO aJ ?_;exact vE ‹¬¬_›)|grind)
def VA:=t33.adk aHf
def inQ(a b:aU)(al:Bool)(j:Nat):Prop:=(ki b (aI7 a j)==2)=al
def aIL:Con:=con (ac (aL .V) (ac (aL .V) (a1 aB))) (λ(a,b,_)=>[aA a<=100000,aA b<=100000]) (λ(a,b,al)=> .bool (kj a b al))
def aHe:aIL.Okz 129:=bI VA (λ(a,b,al)=>[cnt 2 7 (aA a) (aY (inQ a b al))]
  ) λ(a,b,al) hp=>bD (aO (inQ a b al) λB=>(0=(0:Int)/\(0:Nat)<=(aA a)/\aY B 0)/\
 (∀x:Nat,aO (x:Int) λA=>aO (decide (ki b (aI7 a x)=2) !=al) λC=>x<=(aA a)/\aY B x->qiq (A<aA a) (ix A (aA a)/\(aA b)<=100000/\qbq C ((!al)=kj a b al) (qnr A x (x+1<=(aA a)/\aY B (x+1)/\(aA a)-(x+1)<aA a-x))) (al=kj a b al))) (by
  change (aA a)<=100000/\(aA b)<=100000 at hp;have c1:∀j:Nat,(decide (ki b (aI7 a j)=2) !=al)=aE->j<aA a->(!al)=kj a b al:=λj h hj=>(Yg hj (bne_iff_ne.1 h)).symm;have c2:∀j:Nat,(decide (ki b (aI7 a j)=2) !=al)=aK->inQ a b al j:=λj h=>bne_eq_false_iff_eq.1 h;have e2:∀k:Nat,¬(k:Int)<aA a->aY (inQ a b al) k->kj a b al=al:=λk h1 h2=>Xd λj hj=>h2 j aC
  repeat' first|with_reducible apply cJ|with_reducible intro
  all_goals repeat with_reducible cases‹_/\_›
  all_goals first|assumption|rfl|exact trivial|exact nb aJ|exact nb' aJ|omega|exact iX aC|(unfold ix;omega)|(unfold aX;omega)|exact iJ _|exact cO aJ aJ|(refine cO aJ ?_;simp_all;done)|exact(e2 _ aJ aJ).symm|grind|exact cO aJ (c2 _ aJ)|grind)
def U9:=VA.adk aHe
def c58:Con:=con (a1 aSh) (λs=>[Fit s]) (λs=> .bool (aj s))
def k58:c58.Okz 59:=bI U9 (λs=>[jP 3 [aA s.holes<=6,fJ s.outer=aE],lp 5 4 (aA s.holes) (λk=>[aY (λi=>lP s i=aE/\∀k,k<i->kR s i k=aE) k]) [] (λk=>[(3,.iqz (lQ s k:Int))]) ae λi=>[jP 11 [lP s i=aE],cnt 12 6 i (aY λk=>kR s i k=aE)]]
  ) λs hp=>bD (aO (!fJ s.outer) λF=>aO (aA s.holes:Int) λH=>(qiq (6<H) (aK=aj s) (aA s.outer<=100000/\qbq F (aK=aj s) (aA s.holes<=6/\fJ s.outer=aE)))/\
 (∀y:Unit,aA s.holes<=6/\fJ s.outer=aE->(0=(0:Int)/\(aA s.outer:Int)=lQ s 0/\(0:Nat)<=(aA s.holes)/\aY (λi=>lP s i=aE/\(∀k:Nat,k<i->kR s i k=aE)) 0)/\
  (∀x:Nat,aO (x:Int) λA=>aO (lQ s x:Int) λC=>aO (aP s.holes x) λD=>aO (!fJ D) λE=>aO (!kj D s.outer aE) λI=>x<=(aA s.holes)/\aY (λi=>lP s i=aE/\(∀k:Nat,k<i->kR s i k=aE)) x->qiq (A<aA s.holes) (ix A (aA s.holes)/\aX (C+aA D)/\(aA D<=100000/\qbq E (aK=aj s) (aA D<=100000/\(aA s.outer)<=100000/\qbq (kS D s.outer) (aK=aj s) (aA D<=100000/\(aA s.outer)<=100000/\qbq I (aK=aj s) (lP s x=aE))))/\
    (∀y_1:Unit,lP s x=aE->(0=(0:Int)/\(0:Nat)<=x/\aY (λk=>kR s x k=aE) 0)/\
     (∀x_1:Nat,aO (x_1:Int) λB=>aO (aP s.holes x_1) λG=>x_1<=x/\aY (λk=>kR s x k=aE) x_1->qiq (B<x) (ix B (aA s.holes)/\(aA D)<=100000/\(aA G)<=100000/\qbq (kS D G) (aK=aj s) (ix B (aA s.holes)/\(aA D)<=100000/\(aA G)<=100000/\qbq (kj D G aK) (aK=aj s) (ix B (aA s.holes)/\(aA G)<=100000/\(aA D)<=100000/\qbq (kj G D aK) (aK=aj s) (qnr B x_1 (x_1+1<=x/\aY (λk=>kR s x k=aE) (x_1+1)/\x-(x_1+1)<x-x_1))))) (qnr A x (C+aA D=lQ s (x+1)/\x+1<=(aA s.holes)/\aY (λi=>lP s i=aE/\(∀k:Nat,k<i->kR s i k=aE)) (x+1)/\(aA s.holes)-(x+1)<aA s.holes-x))))) (decide (C<=80)=aj s)))) (by
  change Fit s at hp;have hf:(aj s=aE->False)->aK=aj s:=λh=>aH;have n1:∀i,lP s i=aK->i<aA s.holes->aK=aj s:=λi h hi=>hf λhv=>by rw[(((zR s).1 hv).2.2.1 i hi).1]at h;cases h
  have n2:∀i k,kR s i k=aK->k<i->i<aA s.holes->aK=aj s:=λi k h hk hi=>hf λhv=>by rw[(((zR s).1 hv).2.2.1 i hi).2 k hk]at h;cases h
  have a1:∀i,(!fJ (aP s.holes i))=aE->i<aA s.holes->aK=aj s:=λi h=>n1 i (by unfold lP;grind);have a2:∀i,kS (aP s.holes i) s.outer=aE->i<aA s.holes->aK=aj s:=λi h=>n1 i (by unfold lP;rw[h];simp);have a3:∀i,(!kj (aP s.holes i) s.outer aE)=aE->i<aA s.holes->aK=aj s:=λi h=>n1 i (by unfold lP;rw[show rn (aP s.holes i) s.outer=aK from nb' h];simp);have a4:∀i,(!fJ (aP s.holes i))=aK->kS (aP s.holes i) s.outer=aK->(!kj (aP s.holes i) s.outer aE)=aK->lP s i=aE:=λi h1 h2 h3=>by unfold lP;rw[nb h1,h2,show rn (aP s.holes i) s.outer=aE from nb h3];rfl
  have b1:∀i k,kS (aP s.holes i) (aP s.holes k)=aE->k<i->i<aA s.holes->aK=aj s:=λi k h=>n2 i k (by unfold kR;rw[h];rfl);have b2:∀i k,kj (aP s.holes i) (aP s.holes k) aK=aE->k<i->i<aA s.holes->aK=aj s:=λi k h=>n2 i k (by unfold kR;rw[show nT (aP s.holes i) (aP s.holes k)=aE from h];simp);have b3:∀i k,kj (aP s.holes k) (aP s.holes i) aK=aE->k<i->i<aA s.holes->aK=aj s:=λi k h=>n2 i k (by unfold kR;rw[show nT (aP s.holes k) (aP s.holes i)=aE from h];simp);have b4:∀i k,kS (aP s.holes i) (aP s.holes k)=aK->kj (aP s.holes i) (aP s.holes k) aK=aK->kj (aP s.holes k) (aP s.holes i) aK=aK->kR s i k=aE:=λi k h1 h2 h3=>by unfold kR;rw[h1,show nT (aP s.holes i) (aP s.holes k)=aK from h2,show nT (aP s.holes k) (aP s.holes i)=aK from h3];rfl
  have b5:∀i k:Nat,¬(k:Int)<i->aY (λk=>kR s i k=aE) k->∀k,k<i->kR s i k=aE:=λi k h1 h2 j hj=>h2 j aC;have e0:=GN s;have es:∀k,k<aA s.holes->(lQ s k:Int)+aA (aP s.holes k)=lQ s (k+1):=λk h=>by rw[GO h];rfl
  have el:∀k,k<aA s.holes->aX ((lQ s k:Int)+aA (aP s.holes k)):=λk h=>by rw[es k h];exact bP (by have:=aAK hp (k+1) aC;have:=hp.2.1;omega)
  have ef:aA s.holes<=6->fJ s.outer=aE->∀k:Nat,¬(k:Int)<aA s.holes->k<=aA s.holes->aY (λi=>lP s i=aE/\∀k,k<i->kR s i k=aE) k->decide ((lQ s k:Int)<=80)=aj s:=λh1 h2 k h3 h4 h5=>by obtain rfl:k=aA s.holes:=aC;rw[Nn,gR,zR,decide_eq_true_eq];exact⟨λh=>⟨h1,h2,h5,aC⟩,λh=>aC⟩
  have ho:=hp.1;have hh:= @Fit.hole s hp
  repeat' first|with_reducible apply cJ|with_reducible intro
  all_goals repeat with_reducible cases‹_/\_›
  all_goals first|assumption|rfl|exact trivial|exact nb aJ|exact nb' aJ|omega|exact iX aC|(unfold ix;omega)|(unfold aX;omega)|exact iJ _|exact cO aJ aJ|(refine cO aJ ?_;simp_all;done)|exact cZ (hh aC) bg|exact el _ aC|exact es _ aC|exact ef aJ aJ _ aJ aJ aJ|exact a1 _ aJ aC|exact a2 _ aJ aC|exact a3 _ aJ aC|exact a4 _ aJ aJ aJ|exact b1 _ _ aJ aC aC|exact b2 _ _ aJ aC aC|exact b3 _ _ aJ aC aC|exact cO aJ (b4 _ _ aJ aJ aJ)|exact cO aJ ⟨aJ,b5 _ _ aJ aJ⟩|exact hf λh=>by have h:=(zR s).1 h;first|omega|grind|grind)
def t58:=U9.adk k58
def Oi{p:Pt}{l:List aU}{w:Int}(hk:k<aA l)(h:∀j,j<k->fO (aP l j) p≠2/\fO (aP l j) p≠1):oC p l w=if fO (aP l k) p=2 then 0 else if fO (aP l k) p=1 then 1 else oC p (l.drop (k+1)) w:=by
 induction l generalizing k with
 |nil=>simp at hk
 |cons r l ih=>
  cases k with
  |zero=>rfl
  |succ k=>
   have h0:=h 0 aC;have e:aP (r::l) 0=r:=rfl;rw[e]at h0;have e1:oC p (r::l) w=(if fO r p=2 then 0 else if fO r p=1 then 1 else oC p l w):=rfl;rw[e1,if_neg h0.1,if_neg h0.2];exact ih (k:=k) aH (λj hj=>h (j+1) aC)
def Yk{p:Pt}{l:List aU}{w:Int}(h:∀j,j<aA l->fO (aP l j) p≠2/\fO (aP l j) p≠1):oC p l w=w:=by
 induction l with
 |nil=>rfl
 |cons r l ih=>
  have h0:=h 0 af;have e:aP (r::l) 0=r:=rfl;rw[e]at h0;unfold oC;rw[if_neg h0.1,if_neg h0.2];exact ih (λj hj=>h (j+1) aH)
def R3{X:List aU}{h:aU}:∀{k:Nat},k<=aA X->(∀j,j<k->cB (aI7 (aP X j) 0) (aI7 h 0)=aE)->(k<aA X->cB (aI7 (aP X k) 0) (aI7 h 0)=aK)->nH X h=X.take k++[h] ++X.drop k:=by
 induction X with
 |nil=>intro k hk _ _;simp[nH]
 |cons q r ih=>
  intro k hk h1 h2;cases k with
  |zero=>
   unfold nH;rw[if_neg (by rw[show cB (aI7 q 0) (aI7 h 0)=aK from h2 (by simp)];simp)];rfl
  |succ k=>
   unfold nH;rw[if_pos (show cB (aI7 q 0) (aI7 h 0)=aE from h1 0 (by omega)),ih (k:=k) (by grind) (λj hj=>h1 (j+1) aC) (λhh=>h2 aH)];rfl
def dZ(s:Shape)(i:Nat):List aU:=sf ((s.holes.take i).map bo)
def Ma(h:i<aA s.holes):dZ s (i+1)=nH (dZ s i) (bo (aP s.holes i)):=by unfold dZ sf;rw[nO,fQ h,dV,Bw,jz h];rfl
def Mb(s:Shape)(i:Nat):(dZ s i).Perm ((s.holes.take i).map bo):=nQ _
def ME(s:Shape)(i:Nat):aA (dZ s i)<=aA s.holes:=by rw[(Mb s i).length_eq,dq,List.length_take];omega
def M6{r:aU}(h:r∈dZ s i):∃q∈s.holes,r=bo q:=by have:=(Mb s i).mem_iff.1 h;grind
def YE(hp:∀r∈s.holes,0<aA r){j:Nat}(h:j<aA (dZ s i)):0<aA (aP (dZ s i) j):=by obtain⟨q,hq,e⟩:=M6 (iU h);rw[e,je];exact hp q hq
def hQ(s:Shape)(p:Pt)(j:Nat):Prop:=fO (aP s.holes j) p≠2/\fO (aP s.holes j) p≠1
def c73:Con:=con (ac aSh (a1 aT)) (λ(s,_)=>[Fit s]) (λ(s,p)=> .iqz (ir s p))
def k73:c73.Okz 73:=bI t58 (λ(s,p)=>[cnt 5 6 (aA s.holes) (aY (hQ s p))]
 ) λ(s,p) hp=>bD (aO (hQ s p) λA=>aO (!aj s) λC=>Fit s/\qbq C (0=ir s p) (aA s.outer<=100000/\(0=(0:Int)/\(0:Nat)<=(aA s.holes)/\aY A 0)/\
 (∀x:Nat,aO (x:Int) λB=>aO (aP s.holes x) λD=>x<=(aA s.holes)/\aY A x->qiq (B<aA s.holes) (ix B (aA s.holes)/\(aA D)<=100000/\qiq (fO D p=2) (0=ir s p) (qiq (fO D p=1) (1=ir s p) (qnr B x (x+1<=(aA s.holes)/\aY A (x+1)/\(aA s.holes)-(x+1)<aA s.holes-x)))) (fO s.outer p=ir s p)))) (by
 change Fit s at hp;have h0:(!aj s)=aE->0=ir s p:=λh=>by unfold ir;rw[if_pos h]
 have h1:(!aj s)=aK->ir s p=oC p s.holes (fO s.outer p):=λh=>by unfold ir;grind
 have c1:∀k,aY (hQ s p) k->fO (aP s.holes k) p=2->(!aj s)=aK->k<aA s.holes->0=ir s p:=λk h h2 h3 hk=>by rw[h1 h3,Oi hk h,if_pos h2]
 have c2:∀k,aY (hQ s p) k->¬fO (aP s.holes k) p=2->fO (aP s.holes k) p=1->(!aj s)=aK->k<aA s.holes->1=ir s p:=λk h h2 h3 h4 hk=>by rw[h1 h4,Oi hk h,if_neg h2,if_pos h3]
 have c3:∀k:Nat,¬(k:Int)<aA s.holes->aY (hQ s p) k->(!aj s)=aK->fO s.outer p=ir s p:=λk hk h h2=>by rw[h1 h2,Yk λj hj=>h j aC]
 have ho:=hp.1;have hl:=hp.2.1;have hh:= @Fit.hole s hp
 repeat' first|with_reducible apply cJ|with_reducible intro
 all_goals repeat with_reducible cases‹_/\_›
 all_goals first|assumption|rfl|exact trivial|exact nb aJ|exact nb' aJ|omega|exact iX aC|(unfold ix;omega)|(unfold aX;omega)|exact iJ _|exact cO aJ aJ|(refine cO aJ ?_;simp_all;done)|exact cZ (hh aC) bg|exact h0 aJ|exact c1 _ aJ aJ aJ aC|exact c2 _ aJ aJ aJ aJ aC|exact c3 _ aJ aJ aJ|exact cO aJ ⟨aJ,aJ⟩|grind)
def t73:=t58.adk k73
def aIw:Con:=con (ac aI (a1 aI)) (λ(a,b)=>[-9000000000000000000<=a,a<=9000000000000000000,-9000000000000000000<=b,b<=9000000000000000000]) (λ(a,b)=> .iqz ((bQ a.natAbs b.natAbs:Nat):Int))
def aGZ:aIw.Okz 146:=bI t73 (λ(a,b)=>[jU 3 [(0,.iqz (a.natAbs:Int))],jU 5 [(1,.iqz (b.natAbs:Int))],(5,.mk (Int×Int) (λF _=>Kv F 0 1) [] (λp=>[0<=p.1,0<=p.2,bQ p.1.natAbs p.2.natAbs=bQ a.natAbs b.natAbs]) (λp=>[(0,.iqz p.1),(1,.iqz p.2)]) ae (λp=>p.2.natAbs) ae)]
  ) λ(a,b) hp=>bD (aO (ce a) λA=>aO (ce b) λB=>aO (ce a:Int) λD=>aO (ce b:Int) λE=>(qiq (a<0) (aX (0-a)/\0-a=ce a) (a=ce a))/\
 (∀y:Unit,(qiq (b<0) (aX (0-b)/\0-b=ce b) (b=ce b))/\
  (∀y_1:Unit,(D=ce a/\E=ce b/\0<=D/\0<=E/\bQ (ce D) (ce E)=bQ A B)/\
   (∀x:Prod Int Int,aO (dA x.1 x.2) λC=>0<=x.1/\0<=x.2/\bQ (ce x.1) (ce x.2)=bQ A B->qiq (¬x.2=0) (x.2≠0/\x.2=x.2/\dA x.1 x.2=dA x.1 x.2/\0<=x.2/\0<=dA x.1 x.2/\bQ (ce x.snd) (ce C)=bQ A B/\ce C<ce x.2) (x.1=bQ A B))))) (by
  change-9000000000000000000<=a/\a<=9000000000000000000/\ -9000000000000000000<=b/\b<=9000000000000000000 at hp;have e1:∀x y:Int,0<=x->0<=y->bQ y.natAbs (dA x y).natAbs=bQ x.natAbs y.natAbs:=λx y _ _=>by rw[Bx,By,<-Nat.gcd_rec,By]
  have e2:∀x y:Int,0<=x->¬y=0->(dA x y).natAbs<y.natAbs:=λx y _ h=>by rw[Bx];exact cG _ aC
  have e3:∀x y:Int,0<=x->0<=dA x y:=λx y h=>Int.tmod_nonneg _ h
  repeat' first|with_reducible apply cJ|with_reducible intro
  all_goals repeat with_reducible cases‹_/\_›
  all_goals first|assumption|rfl|exact trivial|exact nb aJ|exact nb' aJ|omega|exact iX aC|(unfold ix;omega)|(unfold aX;omega)|exact iJ _|exact cO aJ aJ|(refine cO aJ ?_;simp_all;done)|exact e3 _ _ aJ|exact e2 _ _ aJ aJ|(rw[e1 _ _ aJ aJ];assumption)|grind|grind)
def Uv:=t73.adk aGZ
def Gs{l:List V}(h:k<aA l):ib (l.take (k+1))=ib (l.take k)+(aI7 l k).x:=by unfold ib;rw[nO,fQ h,dV,nM,nth_eq h];simp
def Gr{l:List V}(h:k<aA l):ia (l.take (k+1))=ia (l.take k)+(aI7 l k).y:=by unfold ia;rw[nO,fQ h,dV,nM,nth_eq h];simp
def Qu{x:Int}{g:Nat}{B:Int}(h: -B<=x/\x<=B): -B<=x.tdiv (g:Int)/\x.tdiv (g:Int)<=B:=by
 have h1:(x.tdiv (g:Int)).natAbs<=x.natAbs:=by rw[Int.natAbs_tdiv];exact Nat.div_le_self _ _
 omega
def Qy{l:List V}(hm:∀v∈l,bd 10000 v):∀k:Nat,k<=aA l->(-(10000*(k:Int))<=ib (l.take k)/\ib (l.take k)<=10000*(k:Int))/\(-(10000*(k:Int))<=ia (l.take k)/\ia (l.take k)<=10000*(k:Int))
 |0,_=>by simp[ib,ia]
 |k+1,h=>by
  have:=Qy hm k aC;have h2:=hm _ (dh (aC:k<aA l));rw[Gs aC,Gr aC];unfold bd at h2;omega
def c74:Con:=con (a1 (aL .V)) (λl=>[0<aA l,aA l<=1000,(∀v∈l,bd 10000 v)]) (λl=>aT.enc (kO l))
def k74:c74.Okz 74:=bI Uv (λl=>[lp 3 4 (aA l) ae [] ae (λk=>[(4,.box 76 [.iqz (ib (l.take k)),.iqz (ia (l.take k)),.iqz (aA l:Int)])])]
  ) λl hp=>bD (aO (kO l) λH=>aO (ak 0 l) λI=>aO (aA l:Int) λJ=>aO (ce J) λK=>(0=(0:Int)/\0=ib I/\0=ia I/\J=(aA l)/\(0:Nat)<=aA l)/\
 (∀x:Nat,aO (x:Int) λA=>aO (aI7 l x) λB=>aO (ak x l) λC=>aO (ib C) λD=>aO (ia C) λE=>aO (bQ (ce D) (ce E):Int) λL=>aO (ce L) λM=>aO (bQ M K:Int) λN=>aO (ak (x+1) l) λO=>aO ((aA l)/bQ M K:Nat) λP=>x<=aA l->qiq (A<aA l) (ix A (aA l)/\aX (ib C+B.x)/\ix A (aA l)/\aX (ia C+B.y)/\qnr A x (ib C+B.x=ib O/\ia C+B.y=ia O/\J=(aA l)/\x+1<=(aA l)/\(aA l)-(x+1)<aA l-x)) (-9000000000000000000<=ib C/\ib C<=9000000000000000000/\ -9000000000000000000<=ia C/\ia C<=9000000000000000000/\ -9000000000000000000<=L/\L<=9000000000000000000/\ -9000000000000000000<=J/\J<=9000000000000000000/\N≠0/\aX (fe D N)/\N≠0/\aX (fe E N)/\N≠0/\aX (P:Int)/\fe D N=H.x/\fe E N=H.y/\(P:Int)=H.den))) (by
  change 0<(aA l)/\(aA l)<=1000/\((∀v∈l,bd 10000 v))at hp;obtain⟨h0,h1,hm⟩:=hp;simp only[Int.natAbs_natCast];have et:∀x:Nat,¬(x:Int)<aA l->x<=aA l->ak x l=l:=λx h1 h2=>jB aC;have hg:∀n m,((bQ (bQ n m) (aA l):Nat):Int)≠0:=λn m=>by have:=Nat.gcd_pos_of_pos_right (bQ n m) h0;omega
  have hs:=Qy hm;have hd:∀x n m,x<=aA l->aX (fe (ib (ak x l)) (bQ (bQ n m) (aA l):Int))/\aX (fe (ia (ak x l)) (bQ (bQ n m) (aA l):Int)):=λx n m h=>by have:=hs x h;exact⟨bP (by have:=Qu (x:=ib (ak x l)) (g:=bQ (bQ n m) (aA l)) (B:=10000*x) this.1;omega),bP (by have:=Qu (x:=ia (ak x l)) (g:=bQ (bQ n m) (aA l)) (B:=10000*x) this.2;omega)⟩
  have ha:∀x,x<aA l->aX (ib (ak x l)+(aI7 l x).x)/\aX (ia (ak x l)+(aI7 l x).y):=λx h=>by rw[<-Gs h,<-Gr h];have:=hs (x+1) aC;exact⟨bP aC,bP aC⟩
  have hq:∀n m,aX (((aA l)/bQ (bQ n m) (aA l):Nat):Int):=λn m=>bP (by have:=Nat.div_le_self (aA l) (bQ (bQ n m) (aA l));grind);have hn:∀n m B:Nat,n<=B->m<=B->bQ n m<=B:=λn m B h1 h2=>by
   rcases Nat.eq_zero_or_pos n with e|e
   .grind
   .exact cZ (Nat.gcd_le_left m e) h1
  have hk:∀x,x<=aA l->((bQ (ib (ak x l)).natAbs (ia (ak x l)).natAbs:Nat):Int)<=9000000000000000000:=λx h=>by have:=hn (ib (ak x l)).natAbs (ia (ak x l)).natAbs 10000000 (by have:=hs x h;omega) (by have:=hs x h;omega);omega
  repeat' first|with_reducible apply cJ|with_reducible intro
  all_goals repeat with_reducible cases‹_/\_›
  all_goals first|assumption|rfl|exact trivial|exact nb aJ|exact nb' aJ|omega|exact iX aC|(unfold ix;omega)|(unfold aX;omega)|exact iJ _|exact cO aJ aJ|(refine cO aJ ?_;simp_all;done)|exact hk _ aJ|exact(ha _ aC).1|exact(ha _ aC).2|exact hg _ _|exact(hd _ _ _ aJ).1|exact(hd _ _ _ aJ).2|exact hq _ _|exact(Gs aC).symm|exact(Gr aC).symm|(have:=hs _ aJ;omega)|(rw[et _ aJ aJ];rfl)|grind)
def t74:=Uv.adk k74
def Gj:∀{a b:aU} {k:Nat},(∀j,j<k->cQ (aI7 a j) (aI7 b j)=0)->cQ (aI7 a k) (aI7 b k)≠0->k<aA a->k<aA b->cg a b=cQ (aI7 a k) (aI7 b k)
 |[],_,k,_,_,h,_=>by simp at h
 |_::_,[],k,_,_,_,h=>by simp at h
 |x::a,y::b,0,_,h,_,_=>by
  have e:cQ x y≠0:=h;unfold cg;rw[if_pos e];rfl
 |x::a,y::b,k+1,h3,h4,h1,h2=>by
  have e:cQ x y=0:=h3 0 aC;unfold cg;rw[if_neg (λhne=>hne e)];exact Gj (a:=a) (b:=b) (k:=k) (λj hj=>h3 (j+1) aC) h4 aH aH
def CK:∀{a b:aU} {k:Nat},k<=aA a->k<=aA b->(k=(aA a)\/k=aA b)->(∀j,j<k->cQ (aI7 a j) (aI7 b j)=0)->cg a b=sgn ((aA a:Int)-(aA b:Int))
 |[],[],_,_,_,_,_=>rfl
 |[],y::b,k,_,_,_,_=>by unfold cg sgn;grind
 |x::a,[],k,_,_,_,_=>by unfold cg sgn;grind
 |x::a,y::b,0,_,_,h,_=>by simp at h
 |x::a,y::b,k+1,h1,h2,h3,h4=>by
  have e:cQ x y=0:=h4 0 aC;unfold cg;rw[if_neg (λhne=>hne e)];rw[CK (a:=a) (b:=b) (k:=k) aH aH aH (λj hj=>h4 (j+1) aC)];grind
def c27:Con:=con (ac (aL .V) (a1 (aL .V))) (λ(a,b)=>[aA a<=1000000,aA b<=1000000]) (λ(a,b)=> .iqz (cg a b))
def k27:c27.Okz 27:=bI t74 (λ(a,b)=>[lp 2 5 (aA a) (λk=>[k<=aA b,aY (λj=>cQ (aI7 a j) (aI7 b j)=0) k]) [] ae ae]
  ) λ(a,b) hp=>bD (aO ((aA a:Int)-aA b) λE=>(0=(0:Int)/\(0:Nat)<=(aA a)/\(0:Nat)<=(aA b)/\aY (λj=>cQ (aI7 a j) (aI7 b j)=0) 0)/\
 (∀x:Nat,aO (x:Int) λA=>aO (aI7 a x) λB=>aO (aI7 b x) λC=>x<=(aA a)/\x<=(aA b)/\aY (λj=>cQ (aI7 a j) (aI7 b j)=0) x->qiq (A<aA a) (qiq (A<aA b) (ix A (aA a)/\ix A (aA b)/\qiq (¬cQ B C=0) (cQ B C=cg a b) (qnr A x (x+1<=(aA a)/\x+1<=(aA b)/\aY (λj=>cQ (aI7 a j) (aI7 b j)=0) (x+1)/\(aA a)-(x+1)<aA a-x))) (aX E/\sgn E=cg a b)) (aX E/\sgn E=cg a b))) (by
  change (aA a)<=1000000/\(aA b)<=1000000 at hp
  repeat' first|with_reducible apply cJ|with_reducible intro
  all_goals repeat with_reducible cases‹_/\_›
  all_goals first|assumption|rfl|exact trivial|exact nb aJ|exact nb' aJ|omega|exact iX aC|(unfold ix;omega)|(unfold aX;omega)|exact iJ _|exact cO aJ aJ|(refine cO aJ ?_;simp_all;done)|exact(Gj aJ aJ aC aC).symm|exact(CK aJ aJ aC aJ).symm|exact cO aJ (vE ‹¬¬_›)|grind)
def t27:=t74.adk k27
def XP(hv:aj s=aE):0<(aA s.outer)/\∀r∈s.holes,0<aA r:=by have h:=(zR s).1 hv;refine⟨by have:=((CM s.outer).1 h.2.1).1;omega,λr hr=> ?_⟩;obtain⟨i,hi,rfl⟩:=uA hr;have h2:=(h.2.2.1 i hi).1;unfold lP at h2;simp only[BI]at h2;have:=((CM _).1 h2.1.1).1;omega
def O6(s:Shape):cn s=⟨bo s.outer,dZ s (aA s.holes)⟩:=by unfold cn dZ;grind
def HW(hf:Fit s):Fit (cn s):=by
 rw[O6];refine⟨by dsimp only;rw[je];exact hf.1,?_,λr hr=> ?_⟩
 .have:=ME s (aA s.holes);have:=hf.2.1;grind
 .obtain⟨q,hq,rfl⟩:=M6 hr;rw[je];exact hf.2.2 q hq
def Ng{L:List aU}(hk:k<aA L):(L.take (k+1)).flatten=(L.take k).flatten++aP L k:=by rw[nO,List.flatten_append,fQ hk,jz hk];simp
def aCq{L:List aU}(h:∀r∈L,aA r<=1000)(k:Nat)(hk:k<=aA L):aA ((L.take k).flatten)<=1000*k:=by
 induction k with
 |zero=>simp
 |succ k ih=>
  rw[Ng aC,eR];have h1:=ih aC;have h3:=h _ (iU (aC:k<aA L));omega
def qSU(s:Shape)(i j:Nat):Prop:=cB (aI7 (aP (dZ s i) j) 0) (aI7 (bo (aP s.holes i)) 0)=aE
def jSU(s:Shape)(i j:Nat):List aU:=(dZ s i).take j++[bo (aP s.holes i)] ++(dZ s i).drop j
def Sq{j:Nat}(h:dZ s (i+1)=jSU s i j):([] :List (List V))++ak j (fE 0 (dZ s i))++[bo (aP s.holes i)] ++ak (aA (dZ s i)-j) (fE j (dZ s i))=dZ s (i+1):=by have e:ak (aA (dZ s i)-j) (fE j (dZ s i))=fE j (dZ s i):=jB af;rw[h,e];unfold jSU;simp
def aIK:Con:=con (a1 aSh) (λs=>[Fit s,0<aA s.outer,(∀r∈s.holes,0<aA r)]) (λs=> .agg [.lst .V (bo s.outer),.lst .R (dZ s (aA s.holes))])
def aHd:aIK.Okz 130:=bI t27 (λs=>[lp 3 4 (aA s.holes) ae [900] ae (λk=>[(6,.box 26 [.lst .V (bo s.outer),.own 900 .R (aA (dZ s k))]),(900,.row 23 .R (dZ s k))]) λi=>[cnt 7 6 (aA (dZ s i)) (aY (qSU s i)),jN 9 6 λj=>[j<=aA (dZ s i),dZ s (i+1)=jSU s i j]]]
  ) λs hp=>bD (aO ([] :List (List V)) λH=>aA s.outer<=100000/\(0=(0:Int)/\bo s.outer=bo s.outer/\(aA (dZ s 0))=0/\dZ s 0=H/\(0:Nat)<=aA s.holes)/\
 (∀x:Nat,aO (x+1) λA=>aO (x:Int) λB=>aO (qSU s x) λD=>aO (dZ s x) λF=>aO (fE 0 F) λJ=>aO (aP s.holes x) λM=>aO (bo M) λN=>x<=aA s.holes->qiq (B<aA s.holes) (ix B (aA s.holes)/\(aA M)<=100000/\((0=(0:Int)/\(0:Nat)<=(aA F)/\aY D 0)/\
    (∀x_1:Nat,aO (x_1:Int) λE=>aO (aP F x_1) λL=>x_1<=(aA F)/\aY D x_1->qiq (E<aA F) (ix E (aA F)/\x_1<(aA F)/\ix 0 (aA L)/\ix 0 (aA N)/\qbq (cB (aI7 L 0) (aI7 N 0)) (qnr E x_1 (x_1+1<=(aA F)/\aY D (x_1+1)/\(aA F)-(x_1+1)<aA F-x_1)) (E=x_1/\x_1<=(aA F)/\dZ s A=jSU s x x_1)) (E=x_1/\x_1<=(aA F)/\dZ s A=jSU s x x_1)))/\
   (∀y:Nat,aO (y:Int) λC=>aO (aA F-y) λI=>aO (fE y F) λK=>aO (H++ak y J) λO=>aO (H++ak y J++[bo M]) λP=>y<=(aA F)/\dZ s A=jSU s x y->(0<=C/\C<=aA F)/\0+y<=(aA F)/\(aA H)+aA (ak y J)<=1000000/\(aA O)=(aA O)/\(aA O)+[bo M].length<=1000000/\(0<=C/\C<=aA F)/\(aA P)=(aA P)/\y+I<=(aA F)/\(aA P)+aA (ak I K)<=1000000/\qnr B x (bo s.outer=bo s.outer/\(aA (H++ak y J++[bo M] ++ak I K))=(aA (dZ s A))/\H++ak y J++[bo M] ++ak I K=dZ s A/\x+1<=(aA s.holes)/\(aA s.holes)-A<aA s.holes-x))) (aA F=(aA F)/\bo s.outer=bo s.outer/\dZ s x=dZ s (aA s.holes)))) (by
  change Fit s/\0<(aA s.outer)/\((∀r∈s.holes,0<aA r))at hp;obtain⟨hf,hpo,hph⟩:=hp;have h1:=hf.1;have h2:=hf.2.1;have hh:= @Fit.hole s hf;have i0:dZ s 0=[] :=rfl;have hl:=ME s;have kf:∀k:Nat,¬(k:Int)<aA s.holes->k<=aA s.holes->dZ s k=dZ s (aA s.holes):=λk h1 h2=>aH;have kl:∀i j:Nat,(j:Int)<aA (dZ s i)->aX ((j:Int)+1):=λi j h=>bP aH;have hb:∀i,i<aA s.holes->ix 0 (aA (bo (aP s.holes i))):=λi h=>fS (by rw[je];exact hph _ (iU h));have hq:∀i j,j<aA (dZ s i)->ix 0 (aA (aP (dZ s i) j)):=λi j h=>fS (YE hph h);have hj1:∀i j:Nat,¬(j:Int)<aA (dZ s i)->j<=aA (dZ s i)->aY (qSU s i) j->i<aA s.holes->dZ s (i+1)=jSU s i j:=λi j h1 h2 h3 h=>by rw[Ma h];exact R3 h2 h3 (λh=>aC)
  have hj2:∀i j:Nat,cB (aI7 (aP (dZ s i) j) 0) (aI7 (bo (aP s.holes i)) 0)=aK->j<=aA (dZ s i)->aY (qSU s i) j->i<aA s.holes->dZ s (i+1)=jSU s i j:=λi j h1 h2 h3 h=>by rw[Ma h];exact R3 h2 h3 (λ_=>h1)
  repeat' first|with_reducible apply cJ|with_reducible intro
  all_goals repeat with_reducible cases‹_/\_›
  all_goals first|assumption|rfl|exact trivial|exact nb aJ|exact nb' aJ|omega|exact iX aC|(unfold ix;omega)|(unfold aX;omega)|exact iJ _|exact cO aJ aJ|(refine cO aJ ?_;simp_all;done)|exact kf _ aJ aJ|exact kl _ _ aJ|exact cZ (hh aC) bg|exact hb _ aC|exact hq _ _ aC|exact hj1 _ _ aJ aJ aJ aC|exact hj2 _ _ aJ aJ aJ aC|exact Sq aJ|exact congrArg aA (Sq aJ)|(simp;omega)|grind)
def U8:=t27.adk aHd
def c59:Con:=con (a1 aSh) (λs=>[Fit s,aj s=aE]) (λs=>aSh.enc (cn s)
 )
def k59:c59.Okz 60:=bI U8 ae λs hp=>bD (aO (cn s) λA=>aO (!aj s) λB=>Fit s/\qbq B (A.outer=([] :List V)/\A.holes=([] :List (List V))) (Fit s/\(0:Nat)<(aA s.outer)/\(∀r:aU,r∈s.holes->(0:Nat)<aA r)/\bo s.outer=A.outer/\dZ s (aA s.holes)=A.holes)) (by change Fit s/\aj s=aE at hp;have h:=XP hp.2;have e:=O6 s;grind)
def t59:=U8.adk k59
def vOf(s:Shape):List V:=if aj s=aE then bW (cn s)else []
def eOf(s:Shape):Int:=if aj s=aE then 0 else 11
def vU(s:Shape)(k:Nat):List V:=((aR (cn s)).take (k+1)).flatten
def Ii(h:k<aA (cn s).holes):vU s k++aP (cn s).holes k=vU s (k+1):=by unfold vU;rw[Ng (L:=aR (cn s)) (k:=k+1) (by simp[aR];omega)];rfl
def c18:Con:=con (a1 aSh) (λs=>[Fit s]) (λs=> .tup [.lst .V (vOf s),.iqz (eOf s)])
def k18:c18.Okz 18:=bI t59 (λs=>[lp 6 6 (aA (cn s).holes) ae [13] (λk=>[(5,.own 13 .V (aA (vU s k)))]) (λk=>[(13,.row 44 .V (vU s k))])]
 ) λs hp=>bD (aO (cn s) λC=>aO (!aj s) λD=>aO ([] :List V) λE=>Fit s/\qbq D (vOf s=E/\11=eOf s) (Fit s/\aj s=aE/\(aA E)+aA C.outer<=1000000/\(0=(0:Int)/\(aA (E++C.outer))=(aA (vU s 0))/\E++C.outer=vU s 0/\(0:Nat)<=aA C.holes)/\
 (∀x:Nat,aO (vU s x) λA=>aO (x:Int) λB=>x<=aA C.holes->qiq (B<aA C.holes) (ix B (aA C.holes)/\(aA A)=(aA A)/\(aA A)+aA (aP C.holes x)<=1000000/\qnr B x (aA (vU s x++aP C.holes x)=(aA (vU s (x+1)))/\vU s x++aP C.holes x=vU s (x+1)/\x+1<=(aA C.holes)/\(aA C.holes)-(x+1)<aA C.holes-x)) (aA A=(aA A)/\vU s x=vOf s/\0=eOf s)))) (by
 change Fit s at hp;have hc:=HW hp;have h1:=hc.1;have h2:=hc.2.1;have e0:vU s 0=[] ++(cn s).outer:=by simp[vU,aR]
 have el:∀k,k<aA (cn s).holes->aA (vU s k)+aA (aP (cn s).holes k)<=1000000:=λk h=>by have:=aCq hc.rings (k+2) (by simp[aR];omega);rw[<-eR,Ii h];exact cZ this aC
 have ea:∀k:Nat,¬(k:Int)<aA (cn s).holes->k<=aA (cn s).holes->(!aj s)=aK->vU s k=vOf s:=λk h1 h2 h3=>by obtain rfl:k=aA (cn s).holes:=aC;unfold vOf;rw[nb h3,if_pos rfl];unfold vU bW;rw[jB (by simp[aR])]
 have hv0:(!aj s)=aE->vOf s=[]/\eOf s=11:=λh=>by unfold vOf eOf;grind
 have hv1:(!aj s)=aK->eOf s=0:=λh=>by unfold eOf;grind
 repeat' first|with_reducible apply cJ|with_reducible intro
 all_goals repeat with_reducible cases‹_/\_›
 all_goals first|assumption|rfl|exact trivial|exact nb aJ|exact nb' aJ|omega|exact iX aC|(unfold ix;omega)|(unfold aX;omega)|exact iJ _|exact cO aJ aJ|(refine cO aJ ?_;simp_all;done)|exact Ii aC|exact congrArg aA (Ii aC)|exact el _ aC|exact ea _ aJ aJ aJ|exact(hv0 aJ).1.symm|exact(hv0 aJ).1|exact(hv0 aJ).2.symm|exact(hv1 aJ).symm|(rw[e0];done)|(simp;omega)|grind)
def t18:=t59.adk k18
end
section
variable{d e:S}
def Nm(h:cK d e=2\/cK d e=3):iA d e=aK:=by unfold iA;rw[if_pos h]
def F6(h:cK d e=1):iA d e=(aI7 (fR d e) 0==d.a||aI7 (fR d e) 0==d.b):=by unfold iA;grind
def Xq(h2:cK d e≠2)(h3:cK d e≠3)(h1:cK d e≠1):iA d e=aE:=by unfold iA;grind
def Wy(h:cK d e=1):bF (aI7 (fR d e) 0) 4000=aE:=by
 obtain⟨⟨hd,he⟩,z,hz,_,_,hc⟩:=Cg (by rw[qq];exact h);rw[hc];show bF z 4000=aE;unfold bX at hd he;simp only[cD]at hd he;rcases(lv d e z).1 hz with rfl|rfl|rfl|rfl
 .exact hd.1
 .exact hd.2
 .exact he.1
 .exact he.2
variable{l:List S}{q:S->Bool}{j:Nat}
def aCX(hj:j<aA l)(h:q (az l j)=aK):l.all q=aK:=vF.2 ⟨_,DB hj,by rw[h];simp⟩
def ZG(h:∀j,j<aA l->q (az l j)=aE):l.all q=aE:=by rw[cC];intro x hx;obtain⟨j,hj,rfl⟩:=jQ hx;rw[<-iV hj,h j hj]
def aCV(hj:j<aA l)(h:q (az l j)=aE):l.any q=aE:=kX.2 ⟨_,DB hj,h⟩
def ZD(h:∀j,j<aA l->q (az l j)=aK):l.any q=aK:=by rw[tW];intro x hx;obtain⟨j,hj,rfl⟩:=jQ hx;rw[<-iV hj,h j hj];simp
variable{s:Shape}
def Oy(hf:Fit s):aA (ao s)<=901000:=by have h:=J0 hf _ (bR _);unfold eS at h;rw[ri]at h;have h2:=hf.rlen;have h3:ao s=mL aW (aR s):=rfl;grind
def c31:Con:=con (ac aSh (ac aV (a1 aV))) (λ(s,a,b)=>[Fit s,bd 10000 a,bd 10000 b]) (λ(s,a,b)=> .bool (jH s ⟨a,b⟩))
def k31:c31.Okz 31:=bI t18 (λ(s,a,b)=>[cnt 4 9 (aA (ao s)) (aY λj=>iA ⟨a,b⟩ (az (ao s) j)=aE) λk=>[jP 5 [iA ⟨a,b⟩ (az (ao s) k)=aE]]]) λ(s,a,b) hp=>bD (aO (!aE) λA=>aO (ao s) λC=>aO (⟨a,b⟩:S) λE=>Fit s/\(0=(0:Int)/\(0:Nat)<=(aA C)/\aY (λj=>iA E (az C j)=aE) 0)/\
 (∀x:Nat,aO (x:Int) λB=>aO (az C x) λD=>aO (aI7 (fR E D) 0) λG=>aO (fL G) λH=>x<=(aA C)/\aY (λj=>iA E (az C j)=aE) x->qiq (B<aA C) ((ix B (aA C)/\qiq (cK E D=2) (qiq (cK E D=2) (aK=jH s E) (qiq (cK E D=1) (ix B (aA C)/\cK E D=1/\dP H=aE/\H.den=1/\qbq A (aK=jH s E) (qiq (¬G=a) (qiq (¬G=b) (aK=jH s E) (iA E D=aE)) (iA E D=aE))) (iA E D=aE))) (qiq (cK E D=3) (aK=jH s E) (qiq (cK E D=1) (ix B (aA C)/\cK E D=1/\dP H=aE/\H.den=1/\qbq A (aK=jH s E) (qiq (¬G=a) (qiq (¬G=b) (aK=jH s E) (iA E D=aE)) (iA E D=aE))) (iA E D=aE))))/\
   (∀y:Unit,iA E D=aE->qnr B x (x+1<=(aA C)/\aY (λj=>iA E (az C j)=aE) (x+1)/\(aA C)-(x+1)<aA C-x))) (qiq (¬a=b) ((0:Nat)<[a,b].length/\[a,b].length<=1000/\(∀v:V,v∈[a,b]->bd 10000 v)/\Fit s/\decide (ir s (kO [a,b])=2)=jH s E) (aK=jH s E)))) (by
  change Fit s/\bd 10000 a/\bd 10000 b at hp;obtain⟨hf,ha,hb⟩:=hp;have hm:∀v∈[a,b],bd 10000 v:=λv hv=>aH;have hel:=Oy hf;have hE:jH s ⟨a,b⟩=((ao s).all (λe=>iA ⟨a,b⟩ e)&&(a !=b&&ir s (kO [a,b])==2)):=rfl;have hX:∀x:Nat,iA ⟨a,b⟩ (az (ao s) x)=aK->x<aA (ao s)->aK=jH s ⟨a,b⟩:=λx h hx=>by rw[hE,aCX hx h,Bool.false_and]
  have hY:∀x:Nat,aY (λj=>iA ⟨a,b⟩ (az (ao s) j)=aE) x->¬(x:Int)<aA (ao s)->jH s ⟨a,b⟩=(a !=b&&ir s (kO [a,b])==2):=λx h hx=>by rw[hE,ZG (λj hj=>h j aC),Bool.true_and]
  have hZ:∀x,cK ⟨a,b⟩ (az (ao s) x)=1->¬aI7 (fR ⟨a,b⟩ (az (ao s) x)) 0=a->¬aI7 (fR ⟨a,b⟩ (az (ao s) x)) 0=b->iA ⟨a,b⟩ (az (ao s) x)=aK:=λx h h1 h2=>by rw[F6 h];simp[h1,h2]
  have hZ2:∀x,cK ⟨a,b⟩ (az (ao s) x)=1->¬(¬aI7 (fR ⟨a,b⟩ (az (ao s) x)) 0=a)->iA ⟨a,b⟩ (az (ao s) x)=aE:=λx h h1=>by rw[F6 h];grind
  have hZ3:∀x,cK ⟨a,b⟩ (az (ao s) x)=1->¬(¬aI7 (fR ⟨a,b⟩ (az (ao s) x)) 0=b)->iA ⟨a,b⟩ (az (ao s) x)=aE:=λx h h1=>by rw[F6 h];grind
  with_reducible ((repeat' first|apply cJ|intro);all_goals repeat cases‹_/\_›)
  all_goals first|rfl|with_reducible solve_by_elim|exact Xq aC aC aJ|exact hX _ (Nm (.inl aJ)) aC|exact hX _ (Nm (.inr aJ)) aC|exact hX _ (hZ _ aJ aJ aJ) aC|(rw[B9];exact Wy aJ)|(rw[hY _ aJ aJ];simp_all;done)|exact Bool.noConfusion ‹(!aE)=aE› |grind)
def t31:=t18.adk k31
def jn(a b:V)(e:S):Bool:=(e.a==a&&e.b==b)||(e.a==b&&e.b==a)
def aHA{a b:V}(h:¬e.a=a)(h2:e.a=b):decide (e.b=a)=jn a b e:=by
 have h1:(e.a==a)=aK:=by simpa using h
 have h3:(e.a==b)=aE:=by simpa using h2
 unfold jn;grind
def aHz{a b:V}(h:¬e.b=b)(h2:e.a=b):decide (e.b=a)=jn a b e:=by
 have h1:(e.b==b)=aK:=by simpa using h
 have h3:(e.a==b)=aE:=by simpa using h2
 unfold jn;grind
def c69:Con:=con (ac (aL .S) (ac aV (a1 aV))) (λ(l,_,_)=>[aA l<=1000000]) (λ(l,a,b)=> .bool (jh l a b))
def k69:c69.Okz 70:=bI t31 (λ(l,a,b)=>[cnt 2 7 (aA l) (aY λj=>jn a b (az l j)=aK) λk=>[jb 5 47 (jn a b (az l k))]]
  ) λ(l,a,b) hp=>bD ((0=(0:Int)/\(0:Nat)<=(aA l)/\aY (λj=>jn a b (az l j)=aK) 0)/\
 (∀x:Nat,aO (x:Int) λA=>aO (az l x) λB=>x<=(aA l)/\aY (λj=>jn a b (az l j)=aK) x->qiq (A<aA l) ((ix A (aA l)/\qiq (B.a=a) (ix A (aA l)/\qiq (B.b=b) (aE=jn a b B) (ix A (aA l)/\qiq (B.a=b) (ix A (aA l)/\decide (B.b=a)=jn a b B) (aK=jn a b B))) (ix A (aA l)/\qiq (B.a=b) (ix A (aA l)/\decide (B.b=a)=jn a b B) (aK=jn a b B)))/\
   (∀y:Unit,qbq (jn a b B) (aE=jh l a b) (qnr A x (x+1<=(aA l)/\aY (λj=>jn a b (az l j)=aK) (x+1)/\(aA l)-(x+1)<aA l-x)))) (aK=jh l a b))) (by
  change (aA l)<=1000000 at hp;have hE:jh l a b=l.any (jn a b):=rfl;have h1:∀x:Nat,jn a b (az l x)=aE->x<aA l->aE=jh l a b:=λx h hx=>by rw[hE];exact(aCV hx h).symm
  have h2:∀x:Nat,aY (λj=>jn a b (az l j)=aK) x->¬(x:Int)<aA l->aK=jh l a b:=λx h hx=>by rw[hE];exact(ZD λj hj=>h j aC).symm
  with_reducible ((repeat' first|apply cJ|intro);all_goals repeat cases‹_/\_›)
  all_goals first|rfl|exact h1 _ aJ aC|exact h2 _ aJ aJ|(unfold jn;simp_all;done)|exact aHA aJ aJ|exact aHz aJ aJ|grind)
def t69:=t31.adk k69
def R0{X:List aU}{h:aU}:∀{k:Nat},k<=aA X->(∀j,j<k->cg (aP X j) h<0)->(k<aA X->¬cg (aP X k) h<0)->il X h=X.take k++[h] ++X.drop k:=by
 induction X with
 |nil=>intro k hk _ _;simp[il]
 |cons q r ih=>
  intro k hk h1 h2;cases k with
  |zero=>
   unfold il;rw[if_neg (show¬cg q h<0 from h2 (by simp))];rfl
  |succ k=>
   unfold il;rw[if_pos (show cg q h<0 from h1 0 (by omega)),ih (k:=k) (by grind) (λj hj=>h1 (j+1) aC) (λhh=>h2 aH)];rfl
def c75:Con:=con (ac (aL .R) (a1 (aL .V))) (λ(l,r)=>[aA l<=999999,aA r<=100000,(∀q∈l,aA q<=100000)]) (λ(l,r)=> .lst .R (il l r))
def k75:c75.Okz 75:=bI t69 (λ(l,r)=>[cnt 2 5 (aA l) (aY λj=>cg (aP l j) r<0),jN 4 5 λk=>[k<=aA l,il l r=l.take k++[r] ++l.drop k]]
  ) λ(l,r) hp=>bD (aO ([] :List (List V)) λD=>((0=(0:Int)/\(0:Nat)<=(aA l)/\aY (λj=>cg (aP l j) r<0) 0)/\
  (∀x:Nat,aO (x:Int) λA=>aO (aP l x) λE=>x<=(aA l)/\aY (λj=>cg (aP l j) r<0) x->qiq (A<aA l) (ix A (aA l)/\(aA E)<=1000000/\(aA r)<=1000000/\qiq (cg E r<0) (qnr A x (x+1<=(aA l)/\aY (λj=>cg (aP l j) r<0) (x+1)/\(aA l)-(x+1)<aA l-x)) (A=x/\x<=(aA l)/\il l r=ak x l++[r] ++fE x l)) (A=x/\x<=(aA l)/\il l r=ak x l++[r] ++fE x l)))/\
 (∀y:Nat,aO (y:Int) λB=>aO (D++ak y l) λF=>aO (D++ak y l++[r]) λG=>aO (D++ak y l++[r] ++fE y l) λH=>y<=(aA l)/\il l r=ak y l++[r] ++fE y l->(0<=B/\B<=aA l)/\(aA D)+aA (ak y l)<=1000000/\(aA F)=(aA F)/\(aA F)+[r].length<=1000000/\(0<=B/\B<=aA l)/\(aA G)=(aA G)/\(aA G)+aA (fE y l)<=1000000/\(aA H)=(aA H)/\D++ak y l++[r] ++fE y l=il l r)) (by
  change (aA l)<=999999/\(aA r)<=100000/\((∀q∈l,aA q<=100000))at hp;obtain⟨h1,h2,h3⟩:=hp;have e1:∀x:Nat,aY (λj=>cg (aP l j) r<0) x->¬(x:Int)<aA l->x<=aA l->il l r=l.take x++[r] ++l.drop x:=λx h4 h5 h6=>R0 h6 h4 (λh=>aC);have e2:∀x:Nat,aY (λj=>cg (aP l j) r<0) x->¬cg (aP l x) r<0->x<=aA l->il l r=l.take x++[r] ++l.drop x:=λx h4 h5 h6=>R0 h6 h4 (λ_=>h5);have e3:∀x,x<aA l->aA (aP l x)<=1000000:=λx h=>cZ (h3 _ (iU h)) bg
  with_reducible ((repeat' first|apply cJ|intro);all_goals repeat cases‹_/\_›)
  all_goals grind)
def t75:=t69.adk k75
def l8(r:aU)(p:V):Bool:=p !=aI7 r 0&&p !=aI7 r 1&&p !=aI7 r 2&&ki r p !=0
def aCW{l:List V}{q:V->Bool}(hj:j<aA l)(h:q (aI7 l j)=aK):l.all q=aK:=vF.2 ⟨_,dh hj,by rw[h];simp⟩
def ZF{l:List V}{q:V->Bool}(h:∀j,j<aA l->q (aI7 l j)=aE):l.all q=aE:=by rw[cC];intro x hx;obtain⟨j,hj,rfl⟩:=jQ hx;rw[<-nth_eq hj,h j hj]
def c72:Con:=con (ac (aL .V) (a1 (aL .V))) (λ(r,v)=>[3<=aA r,aA r<=100000,aA v<=100000]) (λ(r,v)=> .bool (o9 r v))
def k72:c72.Okz 72:=bI t75 (λ(r,v)=>[cnt 2 5 (aA v) (aY λj=>l8 r (aI7 v j)=aK) λk=>[jb 5 48 (l8 r (aI7 v k))]]
  ) λ(r,v) hp=>bD ((0=(0:Int)/\(0:Nat)<=(aA v)/\aY (λj=>l8 r (aI7 v j)=aK) 0)/\
 (∀x:Nat,aO (x:Int) λA=>aO (aI7 v x) λB=>x<=(aA v)/\aY (λj=>l8 r (aI7 v j)=aK) x->qiq (A<aA v) ((ix A (aA v)/\ix 0 (aA r)/\qiq (¬B=(aI7 r 0)) (ix A (aA v)/\ix 1 (aA r)/\qiq (¬B=(aI7 r 1)) (ix A (aA v)/\ix 2 (aA r)/\qiq (¬B=(aI7 r 2)) (ix A (aA v)/\(aA r)<=100000/\decide (¬ki r B=0)=l8 r B) (aK=l8 r B)) (aK=l8 r B)) (aK=l8 r B))/\
   (∀y:Unit,qbq (l8 r B) (aK=o9 r v) (qnr A x (x+1<=(aA v)/\aY (λj=>l8 r (aI7 v j)=aK) (x+1)/\(aA v)-(x+1)<aA v-x)))) (aE=o9 r v))) (by
  change 3<=(aA r)/\(aA r)<=100000/\(aA v)<=100000 at hp;have hE:o9 r v=v.all λp=> !l8 r p:=rfl;have iw:∀{p:V},¬p=aI7 r 0->¬p=aI7 r 1->¬p=aI7 r 2->decide (¬ki r p=0)=l8 r p:=λh0 h1 h2=>by unfold l8;grind
  have e1:∀x:Nat,l8 r (aI7 v x)=aE->x<aA v->aK=o9 r v:=λx h hx=>by rw[hE];exact(aCW hx (by rw[h];rfl)).symm
  have e2:∀x:Nat,aY (λj=>l8 r (aI7 v j)=aK) x->¬(x:Int)<aA v->aE=o9 r v:=λx h hx=>by rw[hE];exact(ZF λj hj=>by rw[h j aC];rfl).symm
  with_reducible ((repeat' first|apply cJ|intro);all_goals repeat cases‹_/\_›)
  all_goals first|rfl|exact e1 _ aJ aC|exact e2 _ aJ aJ|(unfold l8;simp_all;done)|grind)
def t72:=t75.adk k72
def PE(h:VS s):aA (bW (cn s))<=80:=by have h1:=(qY s).length_eq;have h2:=h.corners;unfold jy at h2;rw[h1];unfold bW;grind
def Qk(h:VS s):∀x∈bW (cn s),bF x 2000=aE:=by intro x hx;have hx:=(qY s).subset hx;unfold bW at hx;obtain⟨r,hr,hxr⟩:=List.mem_flatten.1 hx;have hn:=(h.ring hr).near;unfold near at hn;grind
def vsR(hv:aj s=aE):VS s:=(rj s).1 (by rw[jv];exact hv)
def q7(c:Bool)(out:List S)(d:S)(k:Nat):Bool:=c&&(out.take k).all λe=>cK e d !=2
def Xk(c:Bool)(out:List S)(d:S):q7 c out d 0=c:=by simp[q7]
variable{out:List S}{k:Nat}
def Xl{c:Bool}(hk:k<aA out):q7 c out d (k+1)=(q7 c out d k&&cK (az out k) d !=2):=by unfold q7;rw[nO,fQ hk,List.all_append,iV hk,Bool.and_assoc];simp
def Xm{c:Bool}(hk:aA out<=k):q7 c out d k=(c&&out.all λe=>cK e d !=2):=by unfold q7;rw[jB hk]
def XC{c:Bool}(h:q7 c out d k=aK):(c&&out.all λe=>cK e d !=2)=aK:=by unfold q7 at h;grind
def GB(s:Shape)(v:List V)(acc:List S)(i:Nat):∀m,aA (tH s v acc i m)<=aA acc+m
 |0=>by simp[tH]
 |m+1=>by
  have h:=GB s v acc i m;unfold tH q9;grind
def Fw(s:Shape)(v:List V):∀i,aA (jG s v i)<=i*aA v
 |0=>by simp[jG]
 |i+1=>by
  have h1:=Fw s v i;have h2:=GB s v (jG s v i) i (aA v-(i+1));unfold jG;grind
def dOf(s:Shape):List S:=if aj s=aE then oL s (vOf s)else []
def dJ(s:Shape)(v:List V)(i j:Nat):List S:=tH s v (jG s v i) i (j-(i+1))
def SG(s:Shape)(v:List V)(i:Nat):dJ s v i (i+1)=jG s v i:=by unfold dJ;rw[FQ];rfl
variable{v:List V}{i:Nat}
def S6(hj:¬(j:Int)<aA v)(h:j<=aA v):dJ s v i j=jG s v (i+1):=by obtain rfl:j=aA v:=aC;rfl
def S5(hv:aA v<=80)(hi:i<aA v)(hj:j<=aA v):aA (dJ s v i j)<=10000:=by have h3:=GB s v (jG s v i) i (j-(i+1));have h4:=Fw s v i;have h5:i*aA v<=80*80:=rZ aC hv;unfold dJ;omega
def dW(s:Shape)(v:List V)(i j:Nat)(k:Nat):Bool:=q7 (jH s ⟨aI7 v i,aI7 v j⟩) (dJ s v i j) ⟨aI7 v i,aI7 v j⟩ k
def aD8(s:Shape)(v:List V)(i j:Nat):dW s v i j 0=jH s ⟨aI7 v i,aI7 v j⟩:=Xk _ _ _
def aD9(h:dW s v i j k=aE)(hk:k<aA (dJ s v i j)):decide (¬cK (az (dJ s v i j) k) ⟨aI7 v i,aI7 v j⟩=2)=dW s v i j (k+1):=by have e:dW s v i j (k+1)=(dW s v i j k&&cK (az (dJ s v i j) k) ⟨aI7 v i,aI7 v j⟩ !=2):=Xl hk;grind
def SH(hi:i<j):dJ s v i (j+1)=q9 s v (dJ s v i j) i j:=by unfold dJ;rw[show j+1-(i+1)=(j-(i+1))+1 by omega];show q9 s v _ i (i+1+(j-(i+1)))=_;grind
def S4(hb:dW s v i j k=aE)(hk:¬(k:Int)<aA (dJ s v i j))(hi:i<j):dJ s v i j++[⟨aI7 v i,aI7 v j⟩] =dJ s v i (j+1):=by rw[SH hi];unfold q9;rw[if_pos];rw[<-Xm (k:=k) aC];exact hb
def Tm(hb:dW s v i j k=aK)(hi:i<j):dJ s v i j=dJ s v i (j+1):=by rw[SH hi];unfold q9;rw[if_neg];rw[XC hb];simp
def mv(s:Shape):aA (vOf s)<=80:=by
 unfold vOf;split
 .exact PE (vsR aJ)
 .simp
def qv(h:i<aA (vOf s)){M:Int}(hM:2000<=M:=by decide):bd M (aI7 (vOf s) i):=by
 by_cases hv:aj s=aE
 .have e:vOf s=bW (cn s):=if_pos hv;rw[e]at h|-;exact s9 (Qk (vsR hv) _ (dh h)) hM
 .have e:vOf s=[] :=if_neg hv;grind
def Sy(h:¬eOf s=0):dOf s=[]/\vOf s=[] :=by
 unfold eOf at h;split at h
 .omega
 .exact⟨if_neg aJ,if_neg aJ⟩
def uO(h:¬¬eOf s=0):aj s=aE:=by unfold eOf at h;grind
def c20:Con:=FD (a1 aSh) (λs=>[Fit s]) 46 .S (λs=>dOf s) (λs=>[.iqz (eOf s)])
def k20:c20.Okz 20:=JN (qO t72.o) (raw:=wC) (λs=>[lp 6 7 (aA (vOf s)) ae [900] (λk=>[(6,.own 900 .S (aA (jG s (vOf s) k)))]) (λk=>[(900,.row 46 .S (jG s (vOf s) k))]) λi=>[(9,.mk Nat (λF _=>nA F 8) [900] (λj=>[i<j,j<=aA (vOf s)]) (λj=>[(8,.iqz (j:Int)),(6,.own 900 .S (aA (dJ s (vOf s) i j)))]) (λj=>[(900,.row 46 .S (dJ s (vOf s) i j))]) (λj=>aA (vOf s)-j) λj=>[lp 14 11 (aA (dJ s (vOf s) i j)) ae [] (λk=>[(10,.bool (dW s (vOf s) i j k))]) ae])]]
 ) (λ_=>⟨[_],rfl⟩) λs hp=>bD (aO (vOf s) λA=>aO ([] :List S) λO=>Fit s/\qiq (¬eOf s=0) (dOf s=O/\eOf s=eOf s) ((0=(0:Int)/\(aA (jG s A 0))=0/\jG s A 0=O/\(0:Nat)<=aA A)/\
 (∀x:Nat,aO (x+1) λB=>aO (x:Int) λD=>aO (aI7 A x) λI=>aO (jG s A x) λP=>aO ((x+1:Nat):Int) λQ=>x<=aA A->qiq (D<aA A) (aX (D+1)/\(D+1=Q/\(aA P)=(aA (dJ s A x B))/\jG s A x=dJ s A x B/\x<x+1/\x+1<=aA A)/\
   (∀x_1:Nat,aO (x_1+1) λC=>aO (x_1:Int) λE=>aO (E+1) λF=>aO (dJ s A x C) λH=>aO (dJ s A x x_1) λJ=>aO (aI7 A x_1) λK=>aO ((x_1+1:Nat):Int) λM=>aO (⟨I,K⟩:S) λN=>aO (dJ s A x x_1++[N]) λR=>x<x_1/\x_1<=aA A->qiq (E<aA A) (ix D (aA A)/\ix E (aA A)/\ix D (aA A)/\ix E (aA A)/\Fit s/\bd 10000 I/\bd 10000 K/\(0=(0:Int)/\jH s N=dW s A x x_1 0/\(0:Nat)<=aA J)/\
     (∀x_2:Nat,aO (x_2:Int) λG=>x_2<=aA J->qiq (G<aA J) (qbq (dW s A x x_1 x_2) (ix G (aA J)/\x_2<(aA J)/\qnr G x_2 (decide (¬cK (az J x_2) N=2)=dW s A x x_1 (x_2+1)/\x_2+1<=(aA J)/\(aA J)-(x_2+1)<aA J-x_2)) (qbq (dW s A x x_1 x_2) (aA J=(aA J)/\(aA J)+[N].length<=1000000/\aX F/\E+1=M/\(aA R)=(aA H)/\dJ s A x x_1++[N] =dJ s A x C/\x<x_1+1/\x_1+1<=(aA A)/\(aA A)-C<aA A-x_1) (aX F/\E+1=M/\(aA J)=(aA H)/\dJ s A x x_1=dJ s A x C/\x<x_1+1/\x_1+1<=(aA A)/\(aA A)-C<aA A-x_1))) (qbq (dW s A x x_1 x_2) (aA J=(aA J)/\(aA J)+[N].length<=1000000/\aX F/\E+1=M/\(aA R)=(aA H)/\dJ s A x x_1++[N] =dJ s A x C/\x<x_1+1/\x_1+1<=(aA A)/\(aA A)-C<aA A-x_1) (aX F/\E+1=M/\(aA J)=(aA H)/\dJ s A x x_1=dJ s A x C/\x<x_1+1/\x_1+1<=(aA A)/\(aA A)-C<aA A-x_1)))) (aX (D+1)/\D+1=Q/\(aA J)=(aA (jG s A B))/\dJ s A x x_1=jG s A B/\x+1<=(aA A)/\(aA A)-B<aA A-x))) (jG s A x=dOf s/\(aA P)=(aA P)/\0=eOf s)))) (by
 change Fit s at hp;have hl:=mv s;have gL:∀x:Nat,(x:Int)<aA (vOf s)->aX ((x:Int)+1):=λx h=>bP aC;have gJ:∀i j (e:S),i<aA (vOf s)->j<=aA (vOf s)->aA (dJ s (vOf s) i j)+[e].length<=1000000:=λi j e h1 h2=>by have:=S5 (s:=s) hl h1 h2;simp;omega
 have gK:∀i j k:Nat,(k:Int)<aA (dJ s (vOf s) i j)->i<aA (vOf s)->j<=aA (vOf s)->aX ((k:Int)+1):=λi j k h h1 h2=>by have:=S5 (s:=s) hl h1 h2;exact bP aC
 have gE:∀x:Nat,¬(x:Int)<aA (vOf s)->x<=aA (vOf s)->¬¬eOf s=0->jG s (vOf s) x=dOf s:=λx h1 h2 h3=>by unfold dOf;rw[if_pos (uO h3),(aC:x=aA (vOf s))];rfl
 with_reducible ((repeat' first|apply cJ|intro);all_goals repeat cases‹_/\_›)
 all_goals first|rfl|omega|exact(Sy aJ).1|exact gL _ aJ|exact(SG _ _ _).symm|exact congrArg aA (SG _ _ _).symm|exact qv aC|exact(aD8 _ _ _ _).symm|exact aD9 aJ aC|exact gK _ _ _ aJ aC aJ|exact gJ _ _ _ aC aJ|exact S4 aJ aJ aJ|exact Tm aJ aJ|exact congrArg aA (S4 aJ aJ aJ)|exact congrArg aA (Tm aJ aJ)|exact S6 aJ aJ|exact congrArg aA (S6 aJ aJ)|exact gE _ aJ aJ aJ|grind)
def t20:=t72.adk k20
end
section
section
def se(s:Shape)(v:List aI8)(T:aJd)(i j:Nat)(acc:List aU)(k:Nat):List aU:=
 if T i k&&(T j k&&m7 s v i j k)then acc++[db (aI7 v i) (aI7 v j) (aI7 v k)]else acc
def qT(s:Shape)(v:List aI8)(T:aJd)(i j:Nat)(acc:List aU):Nat->List aU
 |0=>acc
 |m+1=>se s v T i j (qT s v T i j acc m) (j+1+m)
def pQ(s:Shape)(v:List aI8)(T:aJd)(i:Nat)(acc:List aU):Nat->List aU
 |0=>acc
 |m+1=>if T i (i+1+m)then qT s v T i (i+1+m) (pQ s v T i acc m) (aA v-(i+1+m+1))else pQ s v T i acc m
def kD(s:Shape)(v:List aI8)(T:aJd):Nat->List aU
 |0=>[]
 |i+1=>pQ s v T i (kD s v T i) (aA v-(i+1))
def TI(s:Shape)(v:List aI8)(T:aJd):List aU:=kD s v T (aA v)
variable (s:Shape) (v:List aI8) (T:aJd)
def X9(a b c:aI8):aA (db a b c)<=1000:=by unfold db dX;split<;>split<;>first|(rw[je];simp)|simp
def GI(i j:Nat)(acc:List aU):∀m,aA (qT s v T i j acc m)<=aA acc+m
 |0=>bR _
 |m+1=>by
  have:=GI i j acc m;unfold qT se;grind
def GJ(i:Nat)(acc:List aU):∀m,aA (pQ s v T i acc m)<=aA acc+m*aA v
 |0=>by simp[pQ]
 |m+1=>by
  have h1:=GJ i acc m;have h2:=GI s v T i (i+1+m) (pQ s v T i acc m) (aA v-(i+1+m+1));unfold pQ;grind
def Mo:∀i,aA (kD s v T i)<=i*(aA v*aA v)
 |0=>by simp[kD]
 |i+1=>by
  have h1:=Mo i;have h2:=GJ s v T i (kD s v T i) (aA v-(i+1));have h3:(aA v-(i+1))*aA v<=aA v*aA v:=Nat.mul_le_mul_right _ aC;unfold kD;grind
def Ga(i j:Nat)(acc:List aU)(h:∀r∈acc,aA r<=1000):∀m,∀r∈qT s v T i j acc m,aA r<=1000
 |0=>h
 |m+1=>by
  have h1:=Ga i j acc h m;unfold qT se;split
  .intro r hr;rcases bz.1 hr with hr|hr
   .exact h1 r hr
   .rw[cI.1 hr];exact X9 _ _ _
  .exact h1
def Gb(i:Nat)(acc:List aU)(h:∀r∈acc,aA r<=1000):∀m,∀r∈pQ s v T i acc m,aA r<=1000
 |0=>h
 |m+1=>by
  have h1:=Gb i acc h m;unfold pQ;split
  .exact Ga s v T i _ _ h1 _
  .exact h1
def Na:∀i,∀r∈kD s v T i,aA r<=1000
 |0=>by simp[kD]
 |i+1=>Gb s v T i _ (Na i) _
end
def YF(l:List aU)(r:aU):dG (l++[r])=il (dG l) r:=by unfold dG;grind
def ZA(r:aU):iu r=dX r:=by unfold iu dX;rw[tw]
def Xx{r:aU}{x:aI8}(h:x∈iu r):x∈r:=by
 unfold iu at h;split at h
 .exact(oe r).mem_iff.1 h
 .simp at h
def Y9(r:aU):aA (iu r)<=aA r:=by
 unfold iu;split
 .rw[je];omega
 .simp
def XF(s:Shape)(v:List aI8)(h:aA v<=80):aA (oL s v)<=6400:=by have h1:=Fw s v (aA v);have h2:aA v*aA v<=80*80:=rZ h h;unfold oL;omega
def tJ(s:Shape)(v:List aI8)(T:aJd)(i j:Nat):List aU:=pQ s v T i (kD s v T i) (j-(i+1))
def tK(s:Shape)(v:List aI8)(T:aJd)(i j k:Nat):List aU:=qT s v T i j (tJ s v T i j) (k-(j+1))
section
variable {s:Shape} {v:List aI8} {T:aJd} {i j k:Nat}
def aC4:tJ s v T i (i+1)=kD s v T i:=by unfold tJ;rw[FQ];rfl
def aEB(hj:¬(j:Int)<aA v)(h:j<=aA v):tJ s v T i j=kD s v T (i+1):=by obtain rfl:j=aA v:=aC;rfl
def aC3:tK s v T i j (j+1)=tJ s v T i j:=by unfold tK;rw[FQ];rfl
def Io(h:j<k):tK s v T i j (k+1)=se s v T i j (tK s v T i j k) k:=by unfold tK;rw[show k+1-(j+1)=(k-(j+1))+1 by omega];show se s v T i j _ (j+1+(k-(j+1)))=_;grind
def Qw(h:i<j):tJ s v T i (j+1)=if T i j then qT s v T i j (tJ s v T i j) (aA v-(j+1))else tJ s v T i j:=by unfold tJ;rw[show j+1-(i+1)=(j-(i+1))+1 by omega];show(if T i (i+1+(j-(i+1)))=aE then qT s v T i (i+1+(j-(i+1))) _ (aA v-(i+1+(j-(i+1))+1))else _)=_;grind
def aFt(hT:T i j=aK)(h:i<j):tJ s v T i j=tJ s v T i (j+1):=by rw[Qw h,hT];rfl
def aEA(hk:¬(k:Int)<aA v)(hT:T i j=aE)(h:i<j)(h2:k<=aA v):tK s v T i j k=tJ s v T i (j+1):=by obtain rfl:k=aA v:=aC;rw[Qw h,hT];rfl
def TN(hT:(T i k&&T j k)=aK)(h:j<k):tK s v T i j k=tK s v T i j (k+1):=by rw[Io h];unfold se;grind
def aEx(hT:m7 s v i j k=aK)(h:j<k):tK s v T i j k=tK s v T i j (k+1):=by rw[Io h];unfold se;grind
def aFs(hE:m7 s v i j k=aE)(hT:(T i k&&T j k)=aE)(h:j<k):il (dG (tK s v T i j k)) (db (aI7 v i) (aI7 v j) (aI7 v k))=dG (tK s v T i j (k+1)):=by rw[cD]at hT;rw[Io h];unfold se;rw[if_pos aH,YF]
def aEz(hv:aA v<=80)(hi:i<aA v)(hj:j<aA v)(hk:k<=aA v):aA (dG (tK s v T i j k))<=600000:=by rw[(vJ _).length_eq];have h1:=GI s v T i j (tJ s v T i j) (k-(j+1));have h2:=GJ s v T i (kD s v T i) (j-(i+1));have h3:=Mo s v T i;have h4:aA v*aA v<=80*80:=rZ hv hv;have h5:i*(aA v*aA v)<=80*(80*80):=rZ aC h4;have h6:(j-(i+1))*aA v<=80*80:=rZ aC hv;unfold tK;unfold tJ at h1|-;omega
def aEy:∀r∈dG (tK s v T i j k),aA r<=100000:=λr hr=>by have:=Ga s v T i j _ (Gb s v T i _ (Na s v T i) _) _ r ((vJ _).mem_iff.1 hr);omega
end
def tri(a b c:aI8):aU:=if turn a b c<0 then [a,c,b]else [a,b,c]
def vP(a b c:aI8):iu (tri a b c)=db a b c:=by rw[ZA];unfold tri db;split<;>rfl
def aC1{a b c x:aI8}(h:x∈db a b c):x=a\/x=b\/x=c:=by rw[<-vP]at h;have h:=Xx h;unfold tri at h;grind
def tT(s:Shape):aJd:=JC s (vOf s)
def tOf(s:Shape):List aU:=if aj s=aE then dG (TI s (vOf s) (tT s))else []
variable{s:Shape}
def uK(h:aj s=aE):vOf s=bW (cn s):=if_pos h
def Dk(h:aj s=aE):dOf s=oL s (vOf s):=if_pos h
def TK(h:aj s=aE){i k:Nat}(hi:i<aA (vOf s))(hk:k<aA (vOf s)):jh (dOf s++ao s) (aI7 (vOf s) i) (aI7 (vOf s) k)=tT s i k:=by unfold tT;rw[Dk h];rw[uK h]at hi hk|-;exact(aAj (vsR h) hi hk).symm
def TO(h:aj s=aE){i j k:Nat}(hi:i<aA (vOf s))(hj:j<aA (vOf s))(hk:k<aA (vOf s)):l6 s (vOf s) (db (aI7 (vOf s) i) (aI7 (vOf s) j) (aI7 (vOf s) k))=m7 s (vOf s) i j k:=by rw[uK h]at hi hj hk|-;exact(aCy (Qk (vsR h)) ((qY s).nodup_iff.2 (vsR h).nodup) hi hj hk).symm
def aEa(s:Shape):aA (dOf s)<=6400:=by
 unfold dOf;split
 .exact XF s _ (mv s)
 .simp
def c22:Con:=con (a1 aSh) (λs=>[Fit s]) (λs=> .tup [.lst .R (tOf s),.iqz (eOf s)])
def k22:c22.Okz 22:=yF (qO t20.o) (raw:=λr i=>bZ r 6&&bZ i 0) (λs=>[lp 8 9 (aA (vOf s)) ae [] (λi=>[(8,.lst .R (dG (kD s (vOf s) (tT s) i)))]) ae λi=>
 [(11,.mk Nat (λF _=>nA F 10) [] (λj=>[i<j,j<=aA (vOf s)]) (λj=>[(10,.int .i64 (j:Int)),(8,.lst .R (dG (tJ s (vOf s) (tT s) i j)))]) ae (λj=>aA (vOf s)-j) λj=>
 [(15,.mk Nat (λF _=>nA F 11) [] (λk=>[j<k,k<=aA (vOf s)]) (λk=>[(11,.int .i64 (k:Int)),(8,.lst .R (dG (tK s (vOf s) (tT s) i j k)))]) ae (λk=>aA (vOf s)-k) λk=>
 [jP 18 [(tT s i k&&tT s j k)=aE],jR 21 12 67 44 .V (tri (aI7 (vOf s) i) (aI7 (vOf s) j) (aI7 (vOf s) k)),jb 23 143 (l6 s (vOf s) (db (aI7 (vOf s) i) (aI7 (vOf s) j) (aI7 (vOf s) k)))])])]]
 ) (λ_=>⟨_,rfl⟩) λs hp=>bD (aO (tT s) λA=>aO (vOf s) λB=>aO (3:Nat) λF=>aO (aA (dOf s)) λK=>aO (dOf s++ao s) λZ=>aO ([] :List (List aI8)) λd=>Fit s/\qiq (¬eOf s=0) (tOf s=d/\eOf s=eOf s) (Fit s/\Fit s/\K=K/\K+aA (ao s)<=1000000/\(0=(0:Int)/\dG (kD s B A 0)=d/\(0:Nat)<=aA B)/\
 (∀x:Nat,aO (x:Int) λC=>aO (aI7 B x) λJ=>aO ((x+1:Nat):Int) λY=>x<=aA B->qiq (C<aA B) (aX (C+1)/\(C+1=Y/\dG (kD s B A x)=dG (tJ s B A x (x+1))/\x<x+1/\x+1<=aA B)/\
   (∀x_1:Nat,aO (x_1+1) λE=>aO (x_1:Int) λI=>aO (aI7 B x_1) λL=>aO ((x_1+1:Nat):Int) λS=>aO (tJ s B A x x_1) λU=>aO (!jh Z J L) λa=>x<x_1/\x_1<=aA B->qiq (I<aA B) (ix C (aA B)/\ix I (aA B)/\(aA Z)=(aA Z)/\(aA Z)<=1000000/\qbq a (aX (I+1)/\I+1=S/\dG U=dG (tJ s B A x E)/\x<x_1+1/\x_1+1<=(aA B)/\(aA B)-E<aA B-x_1) (aX (I+1)/\(I+1=S/\dG U=dG (tK s B A x x_1 E)/\x_1<x_1+1/\x_1+1<=aA B)/\
     (∀x_2:Nat,aO (x_2+1) λD=>aO (x_2:Int) λG=>aO (G+1) λH=>aO (aI7 B x_2) λM=>aO (tri J L M) λN=>aO (iu N) λO=>aO ((x_2+1:Nat):Int) λQ=>aO (db J L M) λT=>aO (aA O:Int) λV=>aO (tK s B A x x_1 D) λW=>aO (tK s B A x x_1 x_2) λX=>aO (!jh Z J M) λb=>aO (!jh Z L M) λc=>aO (tT s x x_2&&tT s x_1 x_2) λe=>x_1<x_2/\x_2<=aA B->qiq (G<aA B) ((ix C (aA B)/\ix G (aA B)/\(aA Z)=(aA Z)/\(aA Z)<=1000000/\qbq b (aX H/\G+1=Q/\dG X=dG W/\x_1<x_2+1/\x_2+1<=(aA B)/\(aA B)-D<aA B-x_2) (ix I (aA B)/\ix G (aA B)/\(aA Z)=(aA Z)/\(aA Z)<=1000000/\qbq c (aX H/\G+1=Q/\dG X=dG W/\x_1<x_2+1/\x_2+1<=(aA B)/\(aA B)-D<aA B-x_2) (e=aE)))/\
       (∀y:Unit,e=aE->ix C (aA B)/\ix I (aA B)/\ix G (aA B)/\(ix C (aA B)/\ix I (aA B)/\ix G (aA B)/\bd 1000000000 J/\bd 1000000000 L/\bd 1000000000 M/\qiq (turn J L M<0) (ix C (aA B)/\ix G (aA B)/\ix I (aA B)/\F=(aA N)/\[J,M,L] =tri J L M) (F=(aA N)/\[J,L,M] =tri J L M))/\
        (∀y_1:Unit,aA N=(aA N)/\(aA N)<=100000/\(qiq (V=3) (F<=(aA O)/\(aA O)<=100000/\(aA B)<=100000/\qbq (o9 O B) ((0:Nat)<(aA O)/\(aA O)<=1000/\(∀v:aI8,v∈iu N->bd 10000 v)/\Fit s/\decide (ir s (kO O)=2)=l6 s B T) (aK=l6 s B T)) (aK=l6 s B T))/\
         (∀y_2:Unit,qbq (l6 s B T) (aA (dG X)<=999999/\(aA O)<=100000/\(∀q:aU,q∈dG X->aA q<=100000)/\aX H/\G+1=Q/\il (dG X) O=dG W/\x_1<x_2+1/\x_2+1<=(aA B)/\(aA B)-D<aA B-x_2) (aX H/\G+1=Q/\dG X=dG W/\x_1<x_2+1/\x_2+1<=(aA B)/\(aA B)-D<aA B-x_2))))) (aX (I+1)/\I+1=S/\dG X=dG (tJ s B A x E)/\x<x_1+1/\x_1+1<=(aA B)/\(aA B)-E<aA B-x_1)))) (aX (C+1)/\C+1=Y/\dG U=dG (kD s B A (x+1))/\x+1<=(aA B)/\(aA B)-(x+1)<aA B-x))) (dG (kD s B A x)=tOf s/\0=eOf s)))) (by
 change Fit s at hp;have hl:=mv s;have hel:=Oy hp;have hdl:=aEa s;have hsd:aA (dOf s++ao s)<=1000000:=by rw[eR];omega
 have gL:∀x:Nat,(x:Int)<aA (vOf s)->aX ((x:Int)+1):=λx h=>bP aC;have hno:¬eOf s=0->tOf s=[] :=λh=>by
  unfold eOf at h;split at h
  .omega
  .exact if_neg aJ
 have hE:∀x:Nat,¬(x:Int)<aA (vOf s)->x<=aA (vOf s)->¬¬eOf s=0->dG (kD s (vOf s) (tT s) x)=tOf s:=λx h1 h2 h3=>by unfold tOf;rw[if_pos (uO h3),(aC:x=aA (vOf s))];rfl
 have gT:∀i k:Nat,¬¬eOf s=0->i<aA (vOf s)->k<aA (vOf s)->jh (dOf s++ao s) (aI7 (vOf s) i) (aI7 (vOf s) k)=tT s i k:=λi k h hi hk=>TK (uO h) hi hk;have gN:∀i j:Nat,(!jh (dOf s++ao s) (aI7 (vOf s) i) (aI7 (vOf s) j))=aE->¬¬eOf s=0->i<j->j<aA (vOf s)->dG (tJ s (vOf s) (tT s) i j)=dG (tJ s (vOf s) (tT s) i (j+1)):=λi j h h0 hi hj=>by rw[gT i j h0 aC hj]at h;rw[aFt (nb' h) hi]
 have gY:∀i j k:Nat,¬(k:Int)<aA (vOf s)->(!jh (dOf s++ao s) (aI7 (vOf s) i) (aI7 (vOf s) j))=aK->¬¬eOf s=0->i<j->j<k->k<=aA (vOf s)->(j:Int)<aA (vOf s)->dG (tK s (vOf s) (tT s) i j k)=dG (tJ s (vOf s) (tT s) i (j+1)):=λi j k hk h h0 hi hj hk2 hj2=>by rw[gT i j h0 aC aC]at h;rw[aEA hk (nb h) hi hk2]
 have gA:∀i j k:Nat,(!jh (dOf s++ao s) (aI7 (vOf s) i) (aI7 (vOf s) k))=aE->¬¬eOf s=0->i<j->j<k->k<aA (vOf s)->dG (tK s (vOf s) (tT s) i j k)=dG (tK s (vOf s) (tT s) i j (k+1)):=λi j k h h0 hi hj hk=>by rw[gT i k h0 aC hk]at h;rw[TN aH hj]
 have gB:∀i j k:Nat,(!jh (dOf s++ao s) (aI7 (vOf s) j) (aI7 (vOf s) k))=aE->¬¬eOf s=0->i<j->j<k->k<aA (vOf s)->dG (tK s (vOf s) (tT s) i j k)=dG (tK s (vOf s) (tT s) i j (k+1)):=λi j k h h0 hi hj hk=>by rw[gT j k h0 aC hk]at h;rw[TN aH hj]
 have gC:∀i j k:Nat,(!jh (dOf s++ao s) (aI7 (vOf s) i) (aI7 (vOf s) k))=aK->(!jh (dOf s++ao s) (aI7 (vOf s) j) (aI7 (vOf s) k))=aK->¬¬eOf s=0->i<j->j<k->k<aA (vOf s)->(tT s i k&&tT s j k)=aE:=λi j k h h1 h0 hi hj hk=>aH;have gD:∀a b c:aI8,aA (tri a b c)=3:=λa b c=>by unfold tri;split<;>rfl
 have gR1:∀{a b c:aI8},turn a b c<0->[a,c,b] =tri a b c:=λh=>by unfold tri;rw[if_pos h]
 have gR2:∀{a b c:aI8},¬turn a b c<0->[a,b,c] =tri a b c:=λh=>by unfold tri;rw[if_neg h]
 have gM:∀a b c:aI8,aA (iu (tri a b c))<=3:=λa b c=>by have:=Y9 (tri a b c);grind
 have gO1:∀a b c:aI8,(aA (iu (tri a b c)):Int)=3->o9 (iu (tri a b c)) (vOf s)=aE->decide (ir s (kO (iu (tri a b c)))=2)=l6 s (vOf s) (db a b c):=λa b c h1 h2=>by
  have h1:aA (db a b c)=3:=by rw[<-vP];omega
  rw[vP]at h2|-;unfold l6;grind
 have gO2:∀a b c:aI8,o9 (iu (tri a b c)) (vOf s)=aK->aK=l6 s (vOf s) (db a b c):=λa b c h2=>by rw[vP]at h2;unfold l6;grind
 have gO3:∀a b c:aI8,¬(aA (iu (tri a b c)):Int)=3->aK=l6 s (vOf s) (db a b c):=λa b c h2=>by
  have h1:(aA (db a b c)==3)=aK:=by rw[<-vP,beq_eq_false_iff_ne];omega
  unfold l6;grind
 have gW:∀(i j k:Nat) (v:aI8),v∈iu (tri (aI7 (vOf s) i) (aI7 (vOf s) j) (aI7 (vOf s) k))->i<aA (vOf s)->j<aA (vOf s)->k<aA (vOf s)->bd 10000 v:=λi j k v h hi hj hk=>by
  rw[vP]at h;rcases aC1 h with rfl|rfl|rfl
  .exact qv hi
  .exact qv hj
  .exact qv hk
 have gS:∀i j k:Nat,i<j->j<k->k<=aA (vOf s)->aA (dG (tK s (vOf s) (tT s) i j k))<=999999:=λi j k h1 h2 h3=>cZ (aEz hl aC aC h3) bg;have gI:∀i j k:Nat,l6 s (vOf s) (db (aI7 (vOf s) i) (aI7 (vOf s) j) (aI7 (vOf s) k))=aE->(tT s i k&&tT s j k)=aE->¬¬eOf s=0->i<j->j<k->(k:Int)<aA (vOf s)->il (dG (tK s (vOf s) (tT s) i j k)) (iu (tri (aI7 (vOf s) i) (aI7 (vOf s) j) (aI7 (vOf s) k)))=dG (tK s (vOf s) (tT s) i j (k+1)):=λi j k h h2 h0 hi hj hk=>by rw[TO (uO h0) aC aC aC]at h;rw[vP];exact aFs h h2 hj
 have gX:∀i j k:Nat,l6 s (vOf s) (db (aI7 (vOf s) i) (aI7 (vOf s) j) (aI7 (vOf s) k))=aK->¬¬eOf s=0->i<j->j<k->(k:Int)<aA (vOf s)->dG (tK s (vOf s) (tT s) i j k)=dG (tK s (vOf s) (tT s) i j (k+1)):=λi j k h h0 hi hj hk=>by rw[TO (uO h0) aC aC aC]at h;rw[aEx h hj]
 with_reducible ((repeat' first|apply cJ|intro);all_goals repeat cases‹_/\_›)
 all_goals first|assumption|rfl|exact trivial|exact nb aJ|exact nb' aJ|omega|exact iX aC|(unfold ix;omega)|(unfold aX;omega)|exact iJ _|exact cO aJ aJ|(refine cO aJ ?_;simp_all;done)|exact hno aJ|exact hE _ aJ aJ aJ|exact gL _ aJ|exact congrArg dG aC4.symm|exact congrArg dG aC3.symm|exact congrArg dG (aEB aJ aJ)|exact gN _ _ aJ aJ aC aC|exact gY _ _ _ aJ aJ aJ aC aJ aJ aJ|exact qv aC|exact qv aC bg|exact gA _ _ _ aJ aJ aJ aJ aC|exact gB _ _ _ aJ aJ aJ aJ aC|exact gC _ _ _ aJ aJ aJ aJ aJ aC|exact(gD _ _ _).symm|exact gR1 aJ|exact gR2 aJ|(rw[gD];decide)|exact gO1 _ _ _ aJ aJ|exact gO2 _ _ _ aJ|exact gO3 _ _ _ aJ|exact gW _ _ _ _ aJ aC aC aC|exact cZ (gM _ _ _) bg|exact gS _ _ _ aJ aJ aJ|exact aEy _ aJ|exact gI _ _ _ aJ aJ aJ aJ aJ aJ|grind|grind)
def t22:=t20.adk k22
end
def aBW{a b:List aU}(hl:aA a=aA b)(h:∀j,j<aA a->aP a j=aP b j):a=b:=wg hl λi h1 h2=>by rw[<-jz h1,<-jz h2];exact h i h1
def mX(s:Shape):Nat->Int
 |0=>aA s.outer
 |k+1=>kJ.wrap (mX s k+(aA (aP s.holes k):Int))
def NN:∀{l:List Nat} {x:Nat},x∈l->x<=l.sum
 |y::l,x,h=>by
  rcases bO.1 h with rfl|h
  .simp
  .have:=NN h;simp;omega
def mE(s:Shape):Bool:=decide (mX s (aA s.holes)<=20)&&decide ((aA s.holes:Int)<=3)
def pJ(s:Shape):Prop:=aA s.outer<=1000000000000000000/\(aA s.holes)<=1000000000000000000/\∀r∈s.holes,aA r<=1000000000000000000
def Nh{s:Shape}(hB:pJ s):∀k,k<=aA s.holes->k<=3->mX s k=(lQ s k:Int)/\mX s k<=1000000000000000000*((k:Int)+1)
 |0,_,_=>by have:=hB.1;rw[GN];exact⟨rfl,by show(aA s.outer:Int)<=_;omega⟩
 |k+1,h1,h2=>by
  obtain⟨g1,g2⟩:=Nh hB k aC aC;have h3:=hB.2.2 _ (iU (aC:k<aA s.holes));have h4:mX s (k+1)=kJ.wrap (mX s k+(aA (aP s.holes k):Int)):=rfl;rw[h4,IntWalk.i64_in _ aC,GO aC];omega
def QP{s:Shape}(hB:pJ s)(h:mE s=aE):Fit s:=by unfold mE at h;simp only[BI]at h;have h1:=(Nh hB (aA s.holes) (bR _) aC).1;rw[h1,Nn]at h;have h2:jy s<=20:=aC;unfold jy at h2;have h3:∀r∈aR s,aA r<=20:=λr hr=>cZ (NN (bn.2 ⟨r,hr,rfl⟩)) h2;exact⟨by have:=h3 s.outer (by simp[aR]);omega,aC,λr hr=>by have:=h3 r (by simp[aR,hr]);omega⟩
def c25:Con:=con (ac (aL .R) (a1 (aL .R))) (λ(a,_)=>[aA a<=1000000,(∀r∈a,aA r<=100000)]) (λ(a,b)=> .bool (a==b))
def k25:c25.Okz 25:=bI t22 (λ(a,b)=>[cnt 4 5 (aA a) (aY λj=>aP a j=aP b j)]
 ) λ(a,b) hp=>bD (aO (a==b) λA=>aO (aA a:Int) λC=>qiq (¬C=aA b) (aK=A) ((0=(0:Int)/\(0:Nat)<=(aA a)/\aY (λj=>aP a j=aP b j) 0)/\
 (∀x:Nat,aO (x:Int) λB=>aO (!aP a x==aP b x) λD=>x<=(aA a)/\aY (λj=>aP a j=aP b j) x->qiq (B<aA a) (ix B (aA a)/\ix B (aA b)/\(aA (aP a x))<=1000000/\qbq D (aK=A) (qnr B x (x+1<=(aA a)/\aY (λj=>aP a j=aP b j) (x+1)/\(aA a)-(x+1)<aA a-x))) (aE=A)))) (by
 change (aA a)<=1000000/\((∀r∈a,aA r<=100000))at hp;have h0:∀x,x<aA a->aA (aP a x)<=1000000:=λx h=>cZ (hp.2 _ (iU h)) bg;have h1:¬(aA a:Int)=aA b->aK=(a==b):=λh=>aH;have h2:∀{x},(!aP a x==aP b x)=aE->aK=(a==b):=λh=>aH;have h3:∀x:Nat,¬(x:Int)<aA a->aY (λj=>aP a j=aP b j) x->¬¬(aA a:Int)=aA b->aE=(a==b):=λx h1 h2 h3=>by symm;rw[beq_iff_eq];exact aBW aC λj hj=>h2 j aC
 have h4:∀{x},(!aP a x==aP b x)=aK->aP a x=aP b x:=λh=>by simpa using h
 with_reducible ((repeat' first|apply cJ|intro);all_goals repeat cases‹_/\_›)
 all_goals grind)
def t25:=t22.adk k25
def c16:Con:=con (a1 aSh) (λs=>[pJ s]) (λs=> .bool (mE s))
def k16:c16.Okz 16:=yF (qO t25.o) (raw:=λr i=>bZ r 5&&bZ i 7) (λs=>[lp 3 4 (aA s.holes) ae [] (λk=>[(3,.int .i64 (mX s k))]) ae]
  ) (λ_=>⟨_,rfl⟩) λs hp=>bD ((0=(0:Int)/\(aA s.outer:Int)=mX s 0/\(0:Nat)<=aA s.holes)/\
 (∀x:Nat,aO (x:Int) λA=>x<=aA s.holes->qiq (A<aA s.holes) (ix A (aA s.holes)/\qnr A x (IntKind.wrap kJ (mX s x+aA (aP s.holes x))=mX s (x+1)/\x+1<=(aA s.holes)/\(aA s.holes)-(x+1)<aA s.holes-x)) (qiq (mX s x<=20) (decide ((aA s.holes:Int)<=3)=mE s) (aK=mE s)))) (by
  change pJ s at hp;have hh:=hp.2.1;have e1:∀k:Nat,¬(k:Int)<aA s.holes->k<=aA s.holes->mX s k=mX s (aA s.holes):=λk h1 h2=>aH;have e2:∀k:Nat,mX s k<=20->¬(k:Int)<aA s.holes->k<=aA s.holes->decide ((aA s.holes:Int)<=3)=mE s:=λk h h1 h2=>by unfold mE;grind
  have e3:∀k:Nat,¬mX s k<=20->¬(k:Int)<aA s.holes->k<=aA s.holes->aK=mE s:=λk h h1 h2=>by unfold mE;grind
  with_reducible ((repeat' first|apply cJ|intro);all_goals repeat cases‹_/\_›)
  all_goals first|rfl|exact e2 _ aJ aJ aJ|grind)
def t16:=t25.adk k16
end Go.Proofs.YthbofdolalagjaaGreat
