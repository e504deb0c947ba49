/- What the statements about triangulations stand on: contracts of functions, plain laws. Part 3 of 6, no condition of its own. (X12 X5 X6 X7 X11 N25 X13 X8 X9 X10 Shelf2 L1 K1 K2 K3 K4 K5) -/
import Derived.Test.YtdaeofhdgabhjaaGreatCC2
import Derived.ChangeKeysEq
import Derived.Shelf.SlSortCmp.NoneTotal
import Derived.Shelf.SlicesE.DeleteFunc
import Derived.Ground.SlsfProg
import Derived.Ground.SlgfProg
import Derived.Test.YtdaeofhdgabhjaaGreatProg
import Derived.Lib.SliceRun
namespace Go.Proofs.YtdaeofhdgabhjaaGreat
noncomputable section
theorem uZ{m:Rf}{l r:List AV}(h:dP m l r):cX m (fD l) (fD r):=by
 unfold fD;cases hl:cR l with
 |some q=>
  have e:=eW hl;subst e;have:∀(q:List PV) (r:List AV),dP m (q.map .p) r->r=q.map .p:=by
   intro q;induction q with
   |nil=>intro r h;unfold dP at h;exact h
   |cons x q ih=>intro r h;rw[List.map_cons]at h;unfold dP at h;obtain⟨y,r',rfl,h1,h2⟩:=h;unfold cX at h1;rw[h1,ih r' h2];rfl
  rw[this q r h,cB];dsimp only;unfold cX;rfl
 |none=>
  dsimp only;unfold cX;cases hr:cR r with
  |some q=>exact⟨r,.inr ⟨q,rfl,eW hr⟩,h⟩
  |none=>exact⟨r,.inl rfl,h⟩
theorem zM{m:Rf}{l r:List AV}(h:dP m l r):cX m (nB l) (nB r):=by
 unfold nB;cases hl:cR l with
 |some q=>
  have e:=eW hl;subst e;have:∀(q:List PV) (r:List AV),dP m (q.map .p) r->r=q.map .p:=by
   intro q;induction q with
   |nil=>intro r h;unfold dP at h;exact h
   |cons x q ih=>intro r h;rw[List.map_cons]at h;unfold dP at h;obtain⟨y,r',rfl,h1,h2⟩:=h;unfold cX at h1;rw[h1,ih r' h2];rfl
  rw[this q r h,cB];dsimp only;unfold cX;rfl
 |none=>
  dsimp only;unfold cX;cases hr:cR r with
  |some q=>exact⟨r,.inr ⟨q,rfl,eW hr⟩,h⟩
  |none=>exact⟨r,.inl rfl,h⟩
theorem dD{m:Rf}{x:PV}{y:AV}(h:y= .p x):cX m (.p x) y:=by unfold cX;exact h
theorem eX(m:Rf):∀q:List PV,dP m (q.map .p) (q.map .p)
 |[] =>by simp only[List.map_nil];unfold dP;rfl
 |x::q=>by simp only[List.map_cons];unfold dP;exact⟨_,_,rfl,dD rfl,eX m q⟩
theorem qH{m:Rf}{α:Type}(f g:α->AV):∀l:List α,(∀x∈l,cX m (f x) (g x))->dP m (l.map f) (l.map g)
 |[],_=>by simp only[List.map_nil];unfold dP;rfl
 |x::l,h=>by
  simp only[List.map_cons];unfold dP;exact⟨_,_,rfl,h x List.mem_cons_self,qH f g l fun y hy=>h y (List.mem_cons_of_mem _ hy)⟩
mutual
def SV.ren(f:Nat->Nat):SV->SV
 | .agg l=> .agg (Gl f l)
 | .tup l=> .tup (Gl f l)
 | .fn g a b=> .fn g (Gl f a) (Gl f b)
 | .ptr s o=> .ptr (f s) o
 | .pte s t i o=> .pte (f s) t i o
 | .own s t n=> .own (f s) t n
 | .owns s t o n=> .owns (f s) t o n
 | .ownx s n=> .ownx (f s) n
 | .ownf s t a n=> .ownf (f s) t a n
 | .ptef s t a i o=> .ptef (f s) t a i o
 | .ptf s a=> .ptf (f s) a
 | .owF s n=> .owF (f s) n
 | .mp s=> .mp (f s)
 | .any=> .any
 | .undef=> .undef
 | .nil=> .nil
 | .int k n=> .int k n
 | .bool b=> .bool b
 | .lit b=> .lit b
 | .prop p d=> .prop p d
 | .str s=> .str s
 | .lst t l=> .lst t l
 | .sl n cs=> .sl n cs
 | .pe t l i o=> .pe t l i o
 | .pro cs o=> .pro cs o
 | .fnp g a b=> .fnp g a b
 | .clo1 pv t q dom=> .clo1 pv t q dom
 | .clo2 pv t q dom=> .clo2 pv t q dom
 | .ptb F n o=> .ptb F n o
 | .junk=> .junk
def Gl(f:Nat->Nat):List SV->List SV
 |[] =>[]
 |x::l=>x.ren f::Gl f l
end
def Hp(m:Rf)(f:Nat->Nat):Prop:=∀y a,m (inn (f y) a)=some (some (inn y a))
theorem Hp.n{m:Rf}{f:Nat->Nat}(h:Hp m f)(y:Nat):m (bD (f y))=some (some (bD y)):=h y 0
mutual
theorem Vq{m:Rf}{f:Nat->Nat}(hm:Hp m f):∀v:SV,cX m (v.ren f).av v.av
 | .any=>by simp only[SV.ren,SV.av];unfold cX;trivial
 | .undef=>by simp only[SV.ren,SV.av];unfold cX;rfl
 | .nil=>by simp only[SV.ren,SV.av];unfold cX;rfl
 | .int _ _=>dD rfl
 | .bool _=>dD rfl
 | .lit _=>dD rfl
 | .prop _ _=>dD rfl
 | .str _=>dD rfl
 | .lst _ _=>dD rfl
 | .pe _ _ _ _=>dD rfl
 | .clo1 _ _ _ _=>dD rfl
 | .clo2 _ _ _ _=>dD rfl
 | .ptb _ _ _=>dD rfl
 | .junk=>dD rfl
 | .sl n cs=>by
   simp only[SV.ren,SV.av];split
   ·exact dD rfl
   ·unfold cX;trivial
 | .pro cs off=>by
   simp only[SV.ren,SV.av];split
   ·exact dD rfl
   ·unfold cX;trivial
 | .fnp g a b=>by
   simp only[SV.ren,SV.av];split
   ·exact dD rfl
   ·unfold cX;trivial
 | .agg l=>by simp only[SV.ren,SV.av];exact uZ (oM hm l)
 | .tup l=>by simp only[SV.ren,SV.av];exact zM (oM hm l)
 | .fn g a b=>by simp only[SV.ren,SV.av];unfold cX;exact⟨_,_,rfl,oM hm a,oM hm b⟩
 | .ptr s off=>by simp only[SV.ren,SV.av];unfold cX;exact⟨_,hm.n s,rfl⟩
 | .pte s t i off=>by simp only[SV.ren,SV.av];unfold cX;exact⟨_,hm.n s,rfl⟩
 | .ptf s a=>by simp only[SV.ren,SV.av];unfold cX;exact⟨_,hm.n s,rfl⟩
 | .ptef s t a i off=>by simp only[SV.ren,SV.av];unfold cX;exact⟨_,hm s (a+1),rfl⟩
 | .own s t n=>by simp only[SV.ren,SV.av];unfold cX;exact .inl ⟨_,hm.n s,rfl⟩
 | .owns s t o n=>by simp only[SV.ren,SV.av];unfold cX;exact .inl ⟨_,hm.n s,rfl⟩
 | .ownx s n=>by simp only[SV.ren,SV.av];unfold cX;exact .inl ⟨_,hm.n s,rfl⟩
 | .owF s n=>by simp only[SV.ren,SV.av];unfold cX;exact .inl ⟨_,hm.n s,rfl⟩
 | .ownf s t a n=>by simp only[SV.ren,SV.av];unfold cX;exact .inl ⟨_,hm s (a+1),rfl⟩
 | .mp s=>by simp only[SV.ren,SV.av];unfold cX;exact⟨_,hm.n s,rfl⟩
theorem oM{m:Rf}{f:Nat->Nat}(hm:Hp m f):∀l:List SV,dP m (avs (Gl f l)) (avs l)
 |[] =>by simp only[Gl,avs];unfold dP;rfl
 |x::l=>by simp only[Gl,avs];unfold dP;exact⟨_,_,rfl,Vq hm x,oM hm l⟩
end
def SOb.ren(f:Nat->Nat):SOb->SOb
 | .box ty cs=> .box ty (Gl f cs)
 | .arr ty ez cs=> .arr ty ez (Gl f cs)
 | .row ty t l=> .row ty t l
 | .fam ty ity t L ov=> .fam ty ity t L (ov.map fun q=>(q.1,q.2.ren f))
 | .mp ks=> .mp ks
def sJ:SOb->Bool
 | .box ty _=> !(Nat.beq ty 0)
 | .fam _ _ _ _ ov=>ov.isEmpty
 | .arr _ ez _=> !(Nat.beq ez 0)
 |_=>true
theorem Yg{m:Rf}{f:Nat->Nat}(hm:Hp m f)(k:Nat){o:SOb}(ho:sJ o=true):xH m ((o.ren f).ob (f k)) (o.ob k):=by
 cases o with
 |box ty cs=>exact⟨rfl,rfl,oM hm cs⟩
 |arr ty ez cs=>exact⟨rfl,rfl,oM hm cs⟩
 |row ty t l=>exact⟨rfl,rfl,eX m _⟩
 |mp ks=>refine⟨rfl,rfl,?_⟩;show dP m (lO (nD ks)) (lO (nD ks));rw[lZ];exact eX m _
 |fam ty ity t L ov=>
  have:ov=[] :=List.isEmpty_iff.1 ho;subst this;refine⟨rfl,rfl,qH _ _ _ fun i _=> ?_⟩
  show cX m (.own (inn (f k) (i+1)) 0 _) (.own (inn k (i+1)) 0 _);unfold cX;exact .inl ⟨_,hm k (i+1),rfl⟩
def Jk(x:Nat)(ob:SOb):List (Nat×Option Ob):=(bD x,some (ob.ob x))::match ob with
 | .fam _ ity t L _=>(List.range L.length).map fun a=>(inn x (a+1),some ⟨ity,t.w,(t.enc (L.getD a [])).map .p⟩)
 |_=>[]
theorem Fg{α:Type}{g0:Nat->Nat}(hg:∀a b,g0 a=g0 b->a=b)(h0:Nat->α):∀(l:List Nat) (a:Nat),(l.map fun i=>(g0 i,h0 i)).lookup (g0 a)=if a∈l then some (h0 a)else none
 |[],a=>rfl
 |i::l,a=>by
  rw[List.map_cons,List.lookup_cons,Fg hg h0 l a];by_cases e:a=i
  ·subst e;rw[beq_iff_eq.2 rfl,if_pos List.mem_cons_self]
  ·rw[beq_eq_false_iff_ne.2 (fun h=>e (hg _ _ h))]
   by_cases h2:a∈l
   ·rw[if_pos h2,if_pos (List.mem_cons_of_mem _ h2)]
   ·rw[if_neg h2,if_neg (fun h3=>(List.mem_cons.1 h3).elim e h2)]
theorem mU{α:Type}{s:Nat}:∀{l:List (Nat×α)},(∀q∈l,q.1≠s)->l.lookup s=none
 |[],_=>rfl
 |q::l,h=>by rw[List.lookup_cons,beq_eq_false_iff_ne.2 (fun e=>h q List.mem_cons_self e.symm)];exact mU fun q hq=>h q (List.mem_cons_of_mem _ hq)
theorem rF{α:Type}{s:Nat}:∀{l r:List (Nat×α)},(l++r).lookup s=(match l.lookup s with|some x=>some x|none=>r.lookup s)
 |[],r=>rfl
 |q::l,r=>by
  rw[List.cons_append,List.lookup_cons,List.lookup_cons];cases s==q.1 with
  |true=>rfl
  |false=>exact rF
theorem aB6{ob:SOb}(ho:sJ ob=true)(a:Nat):ob.inner a=(match ob with| .fam _ ity t L _=>if a<L.length then some ⟨ity,t.w,(t.enc (L.getD a [])).map .p⟩else none|_=>none):=by
 cases ob<;>try rfl
 rename_i ty ity t L ov;have:ov=[] :=List.isEmpty_iff.1 ho;subst this;show((L[a]?).map fun l=>(⟨ity,t.w,(t.enc l).map .p⟩:Ob))=_
 by_cases h:a<L.length
 ·dsimp only;rw[if_pos h,List.getElem?_eq_getElem h,List.getD_eq_getElem?_getD,List.getElem?_eq_getElem h];rfl
 ·dsimp only;rw[if_neg h,List.getElem?_eq_none (by omega)];rfl
theorem Xo(x y:Nat)(ob:SOb):(Jk x ob).lookup (bD y)=if y=x then some (some (ob.ob x))else none:=by
 unfold Jk;rw[List.lookup_cons];by_cases e:y=x
 ·subst e;rw[beq_iff_eq.2 rfl,if_pos rfl]
 ·rw[beq_eq_false_iff_ne.2 (fun h=>e (gW h)),if_neg e]
  refine mU fun q hq=> ?_
  split at hq
  ·obtain⟨a,_,rfl⟩:=List.mem_map.1 hq;exact fun h=>by have:=(dO h).2;omega
  ·cases hq
theorem aBw(x y a:Nat){ob:SOb}(ho:sJ ob=true):(Jk x ob).lookup (inn y (a+1))=if y=x then(ob.inner a).map some else none:=by
 have e0:inn y (a+1)≠bD x:=fun h=>by have:=(dO h).2;omega
 rw[aB6 ho a];unfold Jk;rw[List.lookup_cons,beq_eq_false_iff_ne.2 e0];cases ob with
 |fam ty ity t L ov=>
  dsimp only;by_cases e:y=x
  ·subst e;rw[if_pos rfl,Fg (g0:=fun a=>inn y (a+1)) (fun a b h=>by have:=(dO h).2;omega)]
   by_cases h:a<L.length
   ·rw[if_pos (List.mem_range.2 h),if_pos h];rfl
   ·rw[if_neg (fun hh=>h (List.mem_range.1 hh)),if_neg h];rfl
  ·rw[if_neg e];refine mU fun q hq=> ?_
   obtain⟨b,_,rfl⟩:=List.mem_map.1 hq;exact fun h=>e (dO h).1.symm
 |_=>dsimp only;split<;>rfl
theorem aC2(x:Nat)(ob:SOb){s:Nat}(h:∀x a,s≠inn x a):(Jk x ob).lookup s=none:=by
 refine mU fun q hq=> ?_
 unfold Jk at hq;rcases List.mem_cons.1 hq with rfl|hq
 ·exact fun e=>h x 0 e.symm
 ·split at hq
  ·obtain⟨a,_,rfl⟩:=List.mem_map.1 hq;exact fun e=>h x (a+1) e.symm
  ·cases hq
def vP(W:List (Nat×SOb)):List (Nat×Option Ob):=W.flatMap fun q=>Jk q.1 q.2
theorem oQ(y:Nat):∀W:List (Nat×SOb),(vP W).lookup (bD y)=(W.lookup y).map fun ob=>some (ob.ob y)
 |[] =>rfl
 |q::W=>by
  unfold vP;rw[List.flatMap_cons,rF,Xo,List.lookup_cons];by_cases e:y=q.1
  ·rw[if_pos e,beq_iff_eq.2 e,e];rfl
  ·rw[if_neg e,beq_eq_false_iff_ne.2 e];exact oQ y W
theorem qN(y a:Nat):∀{W:List (Nat×SOb)},(∀q∈W,sJ q.2=true)->(W.map (·.1)).Nodup->(vP W).lookup (inn y (a+1))=((W.lookup y).bind (SOb.inner a)).map some
 |[],_,_=>rfl
 |q::W,h,hn=>by
  rw[List.map_cons,List.nodup_cons]at hn;have ih:=qN y a (W:=W) (fun q hq=>h q (List.mem_cons_of_mem _ hq)) hn.2
  unfold vP;rw[List.flatMap_cons,rF,aBw _ _ _ (h q List.mem_cons_self),List.lookup_cons];by_cases e:y=q.1
  ·rw[if_pos e,beq_iff_eq.2 e];have hno:W.lookup y=none:=mU fun r hr e2=>hn.1 (by rw[<-e,<-e2];exact List.mem_map_of_mem hr)
   cases hi:q.2.inner a with
   |some ob=>simp[hi]
   |none=>
    have ih':(List.flatMap (fun q=>Jk q.1 q.2) W).lookup (inn y (a+1))=none:=by
     have:=ih;unfold vP at this;rw[this,hno];rfl
    simp[hi,ih']
  ·rw[if_neg e,beq_eq_false_iff_ne.2 e];exact ih
theorem tB{s:Nat}(h:∀x a,s≠inn x a):∀W:List (Nat×SOb),(vP W).lookup s=none
 |[] =>rfl
 |q::W=>by
  unfold vP;rw[List.flatMap_cons,rF,aC2 _ _ h];exact tB h W
theorem Be(W:List (Nat×SOb))(y:Nat):((W.map fun q=>(q.1,some q.2)).lookup y:Option (Option SOb))=(W.lookup y).map some:=by
 induction W with
 |nil=>rfl
 |cons q W ih=>
  rw[List.map_cons,List.lookup_cons,List.lookup_cons];cases y==q.1 with
  |true=>rfl
  |false=>exact ih
theorem cW.news{σ:Sg}{W:List (Nat×SOb)}(hW:∀q∈W,sJ q.2=true)(hn:(W.map (·.1)).Nodup)(hσ:∀q∈W,σ q.1=none):cW σ [] (W.map fun q=>(q.1,some q.2)) [] (vP W):=by
 refine⟨fun s hs=>(List.not_mem_nil hs).elim,fun s hs=> ?_,?_⟩
 ·obtain⟨⟨t,ob⟩,hq,rfl⟩:=List.mem_map.1 hs;unfold vP at hq;obtain⟨q,hq1,hq2⟩:=List.mem_flatMap.1 hq;have:cls t=ncl q.1:=by
   unfold Jk at hq2;rcases List.mem_cons.1 hq2 with e|hq2
   ·cases e;exact dT _ 0
   ·split at hq2
    ·obtain⟨a,_,e⟩:=List.mem_map.1 hq2;cases e;exact dT _ _
    ·cases hq2
  show cls t∈_;rw[this,List.map_map];exact List.mem_map_of_mem hq1
 ·funext s
  unfold cG;have hno:∀y,W.lookup y≠none->σ y=none:=by
   intro y hy;rcases Option.ne_none_iff_exists'.1 hy with⟨ob,hob⟩
   have:(y,ob)∈W:=by
    clear hn hW hσ hy;induction W with
    |nil=>cases hob
    |cons q W ih=>
     rw[List.lookup_cons]at hob;split at hob
     ·rename_i e;cases hob;rw[beq_iff_eq.1 e];exact List.mem_cons_self
     ·exact List.mem_cons_of_mem _ (ih hob)
   exact hσ _ this
  rcases eL s with⟨y,rfl⟩|⟨y,b,rfl⟩|hns
  ·rw[Sg.cL,Sg.cL,oQ];unfold bM.up;rw[Be];cases hl:W.lookup y with
   |none=>rfl
   |some ob=>rfl
  ·rw[Sg.gK,Sg.gK,qN y b hW hn];unfold bM.up;rw[Be];cases hl:W.lookup y with
   |none=>rfl
   |some ob=>
    show(match((SOb.inner b ob).map some:Option (Option Ob))with|some x=>x|none=>(σ y).bind (SOb.inner b))=SOb.inner b ob
    cases hi:SOb.inner b ob with
    |some o=>rfl
    |none=>show(σ y).bind (SOb.inner b)=none;rw[hno y (by rw[hl];simp)];rfl
  ·rw[Sg.sF _ hns,Sg.sF _ hns,tB hns]
def mu(n y:Nat):Nat:=n+NM*(y+1)
def muR(n:Nat):Rf:=fun s=>if inn (nm s) (sub s)=s then(if mu n (nm s/NM-1)=nm s then some (some (inn (nm s/NM-1) (sub s)))else none)else none
theorem Rr{n:Nat}(hn:n<NM)(y:Nat):mu n y/NM-1=y:=by
 unfold mu;rw[Nat.add_mul_div_left _ _ (show 0<NM by unfold NM;omega),Nat.div_eq_of_lt hn];omega
theorem aFu{n:Nat}(hn:n<NM)(y:Nat):ncl (mu n y)=n:=by
 unfold ncl mu;rw[Nat.add_mul_mod_self_left,Nat.mod_eq_of_lt hn]
theorem aGO{n y z:Nat}(hn:n<NM)(h:mu n y=mu n z):y=z:=by rw[<-Rr hn y,h,Rr hn z]
theorem vD{n:Nat}(hn:n<NM):Hp (muR n) (mu n):=by
 intro y a;unfold muR;rw[wH,qY,if_pos rfl,Rr hn,if_pos rfl]
theorem Dx{n s:Nat}{x:Option Nat}(h:muR n s=some x):∃y a,s=inn (mu n y) a/\x=some (inn y a):=by
 unfold muR at h;split at h
 ·rename_i h1;split at h
  ·rename_i h2;cases h;exact⟨_,_,by rw[h2];exact h1.symm,rfl⟩
  ·cases h
 ·cases h
def Xa:List Nat->Nat->Bool
 |[],_=>false
 |x::l,s=>match Nat.beq s x with|true=>true|false=>Xa l s
theorem xY{s:Nat}:∀{l:List Nat},Xa l s=false->s∉l
 |[],_=>List.not_mem_nil
 |x::l,h=>by
  unfold Xa at h;cases hb:Nat.beq s x with
  |true=>rw[hb]at h;cases h
  |false=>
   rw[hb]at h;intro hm;rcases List.mem_cons.1 hm with rfl|hm
   ·exact absurd rfl (Nat.ne_of_beq_eq_false hb)
   ·exact xY h hm
def Ms(σ:Sg)(n:Nat):bM->Option (List (Nat×SOb))
 |[] =>some []
 |(y,some ob)::W=>(match sJ ob,σ (mu n y),Xa (W.map (·.1)) y,Ms σ n W with
  |true,none,false,some l=>some ((mu n y,ob.ren (mu n))::l)
  |_,_,_,_=>none)
 |_::_=>none
theorem aBK{f:Nat->Nat}{ob:SOb}(h:sJ ob=true):sJ (ob.ren f)=true:=by
 cases ob<;>first|exact h|skip
 rename_i ty ity t L ov;have:ov=[] :=List.isEmpty_iff.1 h;subst this;rfl
theorem Yf{f:Nat->Nat}{ob:SOb}(h:sJ ob=true)(a:Nat):(ob.ren f).inner a=ob.inner a:=by
 cases ob<;>first|rfl|skip
 rename_i ty ity t L ov;have:ov=[] :=List.isEmpty_iff.1 h;subst this;rfl
theorem Em{σ:Sg}{n:Nat}(hn:n<NM):∀{W:bM} {l:List (Nat×SOb)},Ms σ n W=some l->
  (∀q∈l,sJ q.2=true/\σ q.1=none)/\(l.map (·.1)).Nodup/\l.map (·.1)=W.map (fun q=>mu n q.1)/\∀z obr,l.lookup z=some obr->∃y ob,z=mu n y/\obr=ob.ren (mu n)/\sJ ob=true/\bM.at W y=some ob
 |[],l,h=>by cases h;exact⟨fun q hq=>(by cases hq),List.nodup_nil,rfl,fun z obr h=>(by cases h)⟩
 |(y,none)::W,l,h=>by unfold Ms at h;cases h
 |(y,some ob)::W,l,h=>by
  unfold Ms at h;split at h<;>cases h;rename_i l' h1 h2 h3 h4;obtain⟨g1,g2,g3,g4⟩:=Em hn h4;have hy:=xY h3;have hnot:mu n y∉l'.map (·.1):=by
   rw[g3];intro hm;obtain⟨q,hq,e⟩:=List.mem_map.1 hm;exact hy (by rw[<-aGO hn e];exact List.mem_map_of_mem hq)
  refine⟨fun q hq=> ?_,?_,?_,?_⟩
  ·rcases List.mem_cons.1 hq with rfl|hq
   ·exact⟨aBK h1,h2⟩
   ·exact g1 q hq
  ·rw[List.map_cons,List.nodup_cons];exact⟨hnot,g2⟩
  ·rw[List.map_cons,List.map_cons,g3]
  ·intro z obr hz;rw[List.lookup_cons]at hz;by_cases e:z=mu n y
   ·rw[beq_iff_eq.2 e]at hz;cases hz;exact⟨y,ob,e,rfl,h1,by unfold bM.at;rw[Nat.beq_refl]⟩
   ·rw[beq_eq_false_iff_ne.2 e]at hz;obtain⟨y2,ob2,k1,k2,k3,k4⟩:=g4 z obr hz;refine⟨y2,ob2,k1,k2,k3,?_⟩;unfold bM.at;have:Nat.beq y2 y=false:=by
     cases hb:Nat.beq y2 y with
     |false=>rfl
     |true=>exact absurd (by rw[k1,Nat.eq_of_beq_eq_true hb]) e
    rw[this];exact k4
def Xd:SV->Option Nat
 | .fnp f [] [] =>some f
 |_=>none
theorem Oi{α:Type}{z:Nat}{ob:α}:∀{l:List (Nat×α)},l.lookup z=some ob->z∈l.map (·.1)
 |[],h=>by cases h
 |q::l,h=>by
  rw[List.lookup_cons]at h;rw[List.map_cons];split at h
  ·rename_i e;rw[beq_iff_eq.1 e];exact List.mem_cons_self
  ·exact List.mem_cons_of_mem _ (Oi h)
def aAj(X:Cx)(n:Nat)(σ:Sg)(fv:SV)(xs:List SV):SR:=match Xd fv with
 |none=>none
 |some f=>(match X.T f with
  |some ⟨_,dec,pre,.tree res obs⟩=>(match cR (avs xs),dec xs,Nat.blt n NM with
   |some _,some x,true=>(match Ms σ n (obs x)with
    |some l=>some (pre x,(res x).ren (mu n),[],l.map fun q=>(q.1,some q.2))
    |none=>none)
   |_,_,_=>none)
  |_=>none)
theorem Cf{fv:SV}{f:Nat}(h:Xd fv=some f):fv.av= .p (.fn (.func f) [] []):=by
 unfold Xd at h;split at h<;>cases h;rfl
def Bs(P:Program)(n:Nat)(o:Oper)(E:SE)(σ:Sg)(R:SR):Prop:=
 ∀ps r rd W,R=some (ps,r,rd,W)->(∀p∈ps,p)->(∃R' W',bX P o E.a σ.a n r.av R' W'/\cW σ rd W R' W')/\r.ok
theorem aBq{X:Cx}(hX:X.Ok){n:Nat}{o:Oper}{E:SE}{σ:Sg}{c:Call}{f:Operand}(ho:o.op= .call c)(hc:c.callee= .value f):Bs X.P n o E σ (Hk (aAj X n σ (E f) (c.args.toList.map E))):=by
 intro ps r rd W h hp;obtain⟨h,hr⟩:=wW h;refine⟨?_,hr⟩;unfold aAj at h;split at h
 ·cases h
 rename_i fid hf;split at h
 case h_2=>cases h
 rename_i Y dec pre res obs hT;split at h
 case h_2=>cases h
 rename_i A' x hA' hx hn;split at h<;>cases h;rename_i l hl;have hn:n<NM:=Nat.le_of_ble_eq_true hn;obtain⟨A,h1,h2⟩:=hX.1 fid _ hT _ x hx hp;obtain⟨g1,g2,g3,g4⟩:=Em hn hl;have avl:avs (c.args.toList.map E)=c.args.toList.map E.a:=by rw[fL,List.map_map];rfl
 refine⟨[],vP l,?_,cW.news (fun q hq=>(g1 q hq).1) g2 (fun q hq=>(g1 q hq).2)⟩
 have hinner:∀{ob:SOb} {a:Nat} {o':Ob},ob.inner a=some o'->∃(ity:TypeId) (wd:Nat) (q:List PV),wd≠0/\o'=⟨ity,wd,q.map .p⟩:=by
  intro ob a o' hi;cases ob<;>try (cases hi;done)
  rename_i ty ity t L ov;unfold SOb.inner at hi;dsimp only at hi;split at hi
  ·cases hi
  ·cases hL:L[a]? with
   |none=>rw[hL]at hi;cases hi
   |some r=>rw[hL]at hi;cases hi;exact⟨ity,t.w,_,Nat.ne_of_gt t.oC,rfl⟩
 have hcls:∀z∈l.map (·.1),ncl z=n:=by
  intro z hz;rw[g3]at hz;obtain⟨q,_,rfl⟩:=List.mem_map.1 hz;exact aFu hn _
 have hmem:∀z,l.lookup z≠none->z∈l.map (·.1):=by
  intro z hz;rcases Option.ne_none_iff_exists'.1 hz with⟨ob,hob⟩
  exact Oi hob
 refine Zm (A:=A) (m1:=muR n) ho hc (by show(E f).av=_;exact Cf hf) (by rw[<-avl,h1,cB]) h2 ?_ ?_ ⟨?_,?_⟩ ?_ (Vq (vD hn) _)
 ·intro s x hs;obtain⟨y,a,rfl,_⟩:=Dx hs;rw[dT,aFu hn]
 ·intro s hs;rcases eL s with⟨z,rfl⟩|⟨z,b,rfl⟩|hno
  ·rw[oQ]at hs|-;have hz:l.lookup z≠none:=fun e=>by rw[e]at hs;exact hs rfl
   refine⟨by rw[show cls (bD z)=ncl z from dT z 0];exact hcls z (hmem z hz),?_⟩
   cases hl2:l.lookup z with
   |none=>exact absurd hl2 hz
   |some ob=>simp
  ·rw[qN z b (fun q hq=>(g1 q hq).1) g2]at hs|-
   have hz:l.lookup z≠none:=fun e=>by rw[e]at hs;exact hs rfl
   refine⟨by rw[dT];exact hcls z (hmem z hz),?_⟩
   cases(l.lookup z).bind (SOb.inner b)<;>simp
  ·exact absurd (tB hno l) hs
 ·intro s s' o1 e1 e2;obtain⟨y,a,rfl,k1⟩:=Dx e1;obtain⟨y',a',rfl,k2⟩:=Dx e2;rw[Option.some.inj k1]at k2;obtain⟨rfl,rfl⟩:=dO (Option.some.inj k2);rfl
 ·intro s ob' hs;dsimp only at hs;rcases eL s with⟨z,rfl⟩|⟨z,b,rfl⟩|hno
  ·rw[oQ]at hs;cases hl2:l.lookup z with
   |none=>rw[hl2]at hs;cases hs
   |some obr=>
    rw[hl2]at hs;have hs:some (obr.ob z)=some ob':=hs;cases hs;obtain⟨y,ob,rfl,rfl,k3,k4⟩:=g4 z obr hl2;rw[(vD hn).n y];exact⟨ob.ob y,by rw[Sg.cL,k4];rfl,Yg (vD hn) y k3⟩
  ·rw[qN z b (fun q hq=>(g1 q hq).1) g2]at hs
   cases hl2:l.lookup z with
   |none=>rw[hl2]at hs;cases hs
   |some obr=>
    rw[hl2]at hs;obtain⟨y,ob,rfl,rfl,k3,k4⟩:=g4 z obr hl2;have hs:((SOb.inner b (ob.ren (mu n))).map some).join=some ob':=hs;rw[Yf k3]at hs;cases hi:ob.inner b with
    |none=>rw[hi]at hs;cases hs
    |some o'=>
     rw[hi]at hs;have hs:some o'=some ob':=hs;cases hs;rw[vD hn y (b+1)];refine⟨ob',by rw[Sg.gK,k4];exact hi,?_⟩
     obtain⟨ity,wd,q,_,rfl⟩:=hinner hi;exact⟨rfl,rfl,eX _ q⟩
  ·rw[tB hno]at hs;cases hs
 ·intro s ob' hs;rcases eL s with⟨z,rfl⟩|⟨z,b,rfl⟩|hno
  ·rw[oQ]at hs;cases hl2:l.lookup z with
   |none=>rw[hl2]at hs;cases hs
   |some obr=>
    rw[hl2]at hs;have hs:some (some (obr.ob z))=some (some ob'):=hs;cases hs;obtain⟨y,ob,rfl,rfl,k3,k4⟩:=g4 z obr hl2;cases ob with
    |box ty cs=>
     intro⟨_,e⟩;have e:ty=0:=e;subst e;cases k3
    |arr ty ez cs=>
     intro⟨e,_⟩;have e:ez=0:=e;subst e;cases k3
    |row ty t l=>intro⟨e,_⟩;exact absurd e (Nat.ne_of_gt t.oC)
    |fam ty ity t L ov=>intro⟨e,_⟩;cases e
    |mp ks=>intro⟨_,e⟩;cases e
  ·rw[qN z b (fun q hq=>(g1 q hq).1) g2]at hs
   cases hb:(l.lookup z).bind (SOb.inner b)with
   |none=>rw[hb]at hs;cases hs
   |some o'=>
    rw[hb]at hs;have hs:some (some o')=some (some ob'):=hs;cases hs;obtain⟨ob,_,hi⟩:=Option.bind_eq_some_iff.1 hb;obtain⟨ity,wd,q,hw,rfl⟩:=hinner hi;intro⟨e,_⟩;exact hw e
  ·rw[tB hno]at hs;cases hs
def wC(f:SV->Option SV):List SV->Option (List SV)
 |[] =>some []
 |x::l=>(match f x,wC f l with|some y,some m=>some (y::m)|_,_=>none)
def kZ:Nat->Sg->SV->Option SV
 |_,_,.nil=>some (.sl 0 [])
 |_,_,.own .. =>some .junk
 |_,_,.owns .. =>some .junk
 |_,_,.ownx .. =>some .junk
 |_,_,.owF .. =>some .junk
 |_,_,.ownf .. =>some .junk
 |_,_,.any=>some .junk
 |0,_,.ptr .. =>some .junk
 |d+1,σ,.ptr s off=>(match σ s with
  |some (.box _ cs)=>(match wC (kZ d σ) cs with|some m=>some (.pro m off)|none=>none)
  |_=>none)
 |d+1,σ,.agg l=>(match wC (kZ d σ) l with|some m=>some (.agg m)|none=>none)
 |d+1,σ,.fn f a b=>(match wC (kZ d σ) a,wC (kZ d σ) b with|some x,some y=>some (.fnp f x y)|_,_=>none)
 |_,_,x=>(match x.av with| .p _=>some x|_=>none)
def fZ:Nat->Sg->SV->List Nat
 |0,_,_=>[]
 |d+1,σ,.ptr s _=>s::(match σ s with|some (.box _ cs)=>bT (fZ d σ) cs|_=>[])
 |d+1,σ,.agg l=>bT (fZ d σ) l
 |d+1,σ,.fn _ a b=>bT (fZ d σ) a++bT (fZ d σ) b
 |_,_,_=>[]
theorem Kp(d:Nat)(σ:Nat->Option Ob)(x:PV):iS d σ (.p x)=some x:=by cases d<;>rfl
theorem aA1(d:Nat)(σ:Nat->Option Ob):∀l:List PV,iC (iS d σ) (l.map .p)=some l
 |[] =>rfl
 |x::l=>by simp only[List.map_cons,iC,Kp,aA1 d σ l]
theorem Ku(d:Nat)(σ:Nat->Option Ob)(x:PV):gR d σ (.p x)=[] :=by cases d<;>rfl
theorem Wm(d:Nat)(σ:Nat->Option Ob):∀l:List PV,bT (gR d σ) (l.map .p)=[]
 |[] =>rfl
 |x::l=>by simp only[List.map_cons,bT,Ku,Wm d σ l,List.append_nil]
theorem Pp{d:Nat}{σ:Sg}{x:SV}{y:SV}(h:(match x.av with| .p _=>some x|_=>none)=some y):(∃q,iS d σ.a x.av=some q/\y.av= .p q)/\gR d σ.a x.av=[] :=by
 split at h<;>cases h;rename_i q e;rw[e];exact⟨⟨q,Kp _ _ _,rfl⟩,Ku _ _ _⟩
theorem Eu{d:Nat}{σ:Sg}{x:SV}{y:SV}(h:(match x.av with| .p _=>some x|_=>none)=some y)(hr:fZ d σ x=[]):(∃q,iS d σ.a x.av=some q/\y.av= .p q)/\gR d σ.a x.av=(fZ d σ x).map bD:=by
 rw[hr];exact Pp h
def JOk(d:Nat)(σ:Sg):Prop:=∀x y,kZ d σ x=some y->(∃q,iS d σ.a x.av=some q/\y.av= .p q)/\gR d σ.a x.av=(fZ d σ x).map bD
theorem nJ{d:Nat}{σ:Sg}(hf:JOk d σ):∀{l m:List SV},wC (kZ d σ) l=some m->(∃q,iC (iS d σ.a) (avs l)=some q/\avs m=q.map .p)/\bT (gR d σ.a) (avs l)=(bT (fZ d σ) l).map bD
 |[],m,h=>by cases h;exact⟨⟨[],rfl,rfl⟩,rfl⟩
 |x::l,m,h=>by
  unfold wC at h;split at h<;>cases h;rename_i y m' h1 h2;obtain⟨⟨u,e1,e2⟩,e3⟩:=hf x y h1;obtain⟨⟨v,e4,e5⟩,e6⟩:=nJ hf h2;refine⟨⟨u::v,?_,by rw[avs,e2,e5];rfl⟩,?_⟩
  ·rw[avs,iC,e1,e4]
  ·rw[avs,bT,bT,e3,e6,List.map_append]
theorem uU{σ:Sg}:∀d:Nat,JOk d σ:=by
 intro d;induction d with
 |zero=>
  intro x y h;cases x<;>first
   |(change some (SV.sl 0 [])=some y at h;cases h;exact⟨⟨.sl 0 [],rfl,rfl⟩,rfl⟩)
   |(change some SV.junk=some y at h;cases h;exact⟨⟨.junk,rfl,rfl⟩,rfl⟩)
   |exact Eu h rfl
 |succ d ih=>
  intro x y h;cases x with
  |nil=>change some (SV.sl 0 [])=some y at h;cases h;exact⟨⟨.sl 0 [],rfl,rfl⟩,rfl⟩
  |own s t n=>change some SV.junk=some y at h;cases h;exact⟨⟨.junk,rfl,rfl⟩,rfl⟩
  |owns s t o n=>change some SV.junk=some y at h;cases h;exact⟨⟨.junk,rfl,rfl⟩,rfl⟩
  |ownx s n=>change some SV.junk=some y at h;cases h;exact⟨⟨.junk,rfl,rfl⟩,rfl⟩
  |owF s n=>change some SV.junk=some y at h;cases h;exact⟨⟨.junk,rfl,rfl⟩,rfl⟩
  |ownf s t a n=>change some SV.junk=some y at h;cases h;exact⟨⟨.junk,rfl,rfl⟩,rfl⟩
  |any=>change some SV.junk=some y at h;cases h;exact⟨⟨.junk,rfl,rfl⟩,rfl⟩
  |ptr s off=>
   change (match σ s with|some (.box _ cs)=>(match wC (kZ d σ) cs with|some m=>some (SV.pro m off)|none=>none)|_=>none)=_ at h
   split at h
   case h_2=>cases h
   rename_i ty cs hs;split at h<;>cases h;rename_i m hm;obtain⟨⟨q,e1,e2⟩,e3⟩:=nJ ih hm;have e0:Sg.a σ (bD s)=some ⟨ty,0,avs cs⟩:=by rw[Sg.cL,hs];rfl
   refine⟨⟨.pro q off,?_,by show(match cR (avs m)with|some q=>AV.p (.pro q off)|none=> .any)=_;rw[e2,cB]⟩,?_⟩
   ·show iS (d+1) (Sg.a σ) (.ptr (bD s) off)=_;unfold iS;rw[e0];simp only[Option.bind_some,e1,Option.map_some]
   ·show gR (d+1) (Sg.a σ) (.ptr (bD s) off)=_;unfold gR fZ;rw[e0,hs];dsimp only;rw[e3];rfl
  |agg l=>
   change (match wC (kZ d σ) l with|some m=>some (SV.agg m)|none=>none)=_ at h
   split at h<;>cases h;rename_i m hm;obtain⟨⟨q,e1,e2⟩,e3⟩:=nJ ih hm;refine⟨⟨.agg q,?_,by show fD (avs m)=_;rw[e2,kH]⟩,?_⟩
   ·show iS (d+1) (Sg.a σ) (fD (avs l))=_;unfold fD;cases hq:cR (avs l)with
    |some q'=>
     rw[eW hq,aA1]at e1;cases e1;exact Kp _ _ _
    |none=>dsimp only;unfold iS;rw[e1];rfl
   ·show gR (d+1) (Sg.a σ) (fD (avs l))=(bT (fZ d σ) l).map bD;rw[<-e3];unfold fD;cases hq:cR (avs l)with
    |some q'=>rw[eW hq,Wm];exact Ku _ _ _
    |none=>rfl
  |fn f a b=>
   change (match wC (kZ d σ) a,wC (kZ d σ) b with|some x,some y=>some (SV.fnp f x y)|_,_=>none)=_ at h
   split at h<;>cases h;rename_i x y h1 h2;obtain⟨⟨u,e1,e2⟩,e3⟩:=nJ ih h1;obtain⟨⟨v,e4,e5⟩,e6⟩:=nJ ih h2;refine⟨⟨.fn (.func f) u v,?_,by show(match cR (avs x),cR (avs y)with|some x,some y=>AV.p (.fn (.func f) x y)|_,_=> .any)=_;rw[e2,e5,cB,cB]⟩,?_⟩
   ·show iS (d+1) (Sg.a σ) (.fn (.func f) (avs a) (avs b))=_;unfold iS;rw[e1,e4];rfl
   ·show bT (gR d σ.a) (avs a)++bT (gR d σ.a) (avs b)=(bT (fZ d σ) a++bT (fZ d σ) b).map bD;rw[e3,e6,List.map_append]
  |_=>exact Eu h rfl
theorem Bd(l:List Nat):inC (l.map bD) (l.map ncl):=by
 intro s hs;obtain⟨x,hx,rfl⟩:=List.mem_map.1 hs;rw[show cls (bD x)=ncl x from dT x 0]
 exact List.mem_map_of_mem hx
def Ao:LT->Bool
 | .R| .Q=>false
 |_=>true
theorem Aa{t:LT}(h:Ao t=true)(l:List t.ty):(t.enc l).all flat1=true:=by
 refine List.all_eq_true.2 fun x hx=> ?_
 unfold LT.enc at hx;obtain⟨e,_,hx⟩:=List.mem_flatMap.1 hx;cases t<;>first|(cases h;done)|skip
 all_goals (simp[LT.rowP]at hx;rcases hx with rfl|rfl|rfl|rfl<;>rfl)
theorem cW.rset{σ:Sg}{z a:Nat}{ty ity:TypeId}{lt:LT}{L:List (List lt.ty)}{ov:List (Nat×SV)}{l':List lt.ty}{rd R:List Nat}(hs:σ z=some (.fam ty ity lt L ov))(ho:ov.lookup a=none)(ha:a<L.length)(hl:l'.length=(L.getD a []).length)(hR:inC R (rd.map ncl)):
  cW σ rd [(z,some (.fam ty ity lt (L.set a l') ov))] R [(inn z (a+1),some ⟨ity,lt.w,(lt.enc l').map .p⟩)] :=by
 refine⟨hR,fun s hm=> ?_,?_⟩
 ·have hm:s=inn z (a+1):=by simpa using hm
  subst hm;rw[dT];exact List.mem_cons_self
 ·funext s
  unfold cG;rcases eL s with⟨y,rfl⟩|⟨y,b,rfl⟩|hno
  ·rw[Sg.cL,Sg.cL,List.lookup_cons,beq_eq_false_iff_ne.2 (show bD y≠inn z (a+1)from fun h=>by have:=(dO h).2;omega)]
   unfold bM.up;dsimp only;rw[List.lookup_cons];by_cases e:y=z
   ·subst e;rw[beq_iff_eq.2 rfl,hs];show some (⟨ty,1,_⟩:Ob)=some ⟨ty,1,_⟩
    congr 2
    rw[List.length_set];refine List.map_congr_left fun i hi=> ?_
    unfold qB;cases ov.lookup i with
    |some v=>rfl
    |none=>
     dsimp only
     congr 1
     by_cases hi:i=a
     ·subst hi;rw[List.getD_eq_getElem?_getD (l:=L.set i l'),List.getElem?_set,if_pos rfl,if_pos ha];exact hl.symm
     ·rw[List.getD_eq_getElem?_getD (l:=L.set a l'),List.getElem?_set,if_neg (fun h=>hi h.symm),<-List.getD_eq_getElem?_getD]
   ·rw[beq_eq_false_iff_ne.2 e];rfl
  ·rw[Sg.gK,Sg.gK,List.lookup_cons];unfold bM.up;rw[List.lookup_cons];by_cases e:y=z
   ·subst e;rw[beq_iff_eq.2 rfl,hs];by_cases hb:b=a
    ·subst hb;rw[beq_iff_eq.2 rfl];show some _=SOb.inner b (.fam ty ity lt (L.set b l') ov);unfold SOb.inner;dsimp only;rw[ho,List.getElem?_set,if_pos rfl,if_pos ha];rfl
    ·rw[beq_eq_false_iff_ne.2 (show inn y (b+1)≠inn y (a+1)from fun h=>hb (by have:=(dO h).2;omega))]
     show SOb.inner b (.fam ty ity lt L ov)=SOb.inner b (.fam ty ity lt (L.set a l') ov);unfold SOb.inner;dsimp only;rw[List.getElem?_set,if_neg (fun h=>hb h.symm)]
   ·rw[beq_eq_false_iff_ne.2 e,beq_eq_false_iff_ne.2 (show inn y (b+1)≠inn z (a+1)from fun h=>e (dO h).1)];rfl
  ·rw[Sg.sF _ hno,Sg.sF _ hno,List.lookup_cons,beq_eq_false_iff_ne.2 (hno z (a+1))];rfl
def aAm(X:Cx)(n:Nat)(σ:Sg)(fv:SV)(xs:List SV):SR:=match Xd fv with
 |none=>none
 |some f=>(match X.T f with
  |some ⟨_,dec,pre,.rowB t ty l'⟩=>(match xs with
   | .own s _ m::rest=>(match σ s,wC (kZ 3 σ) rest,frs σ n,Xa (bT (fZ 3 σ) rest) s with
     |some (.row ty' t' l),some bs,true,false=>(match decEq t' t,Nat.beq ty' ty with
      | .isTrue h,true=>(match dec (.lst t (h▸l)::bs)with
        |some x=>some ((m=l.length)::(0<m)::pre x,.own n t (l' x).length,s::bT (fZ 3 σ) rest,[(s,none),(n,some (.row ty t (l' x)))])
        |none=>none)
      |_,_=>none)
     |_,_,_,_=>none)
   | .ownf z _ a m::rest=>(match σ z,wC (kZ 3 σ) rest,frs σ n with
     |some (.fam tyo ity t' L ov),some bs,true=>(match decEq t' t,Nat.beq ity ty with
      | .isTrue h,true=>(match dec (.lst t ((h▸L:List (List t.ty)).getD a [])::bs)with
        |some x=>some ((a<L.length)::(m=(L.getD a []).length)::(0<m)::(Bo ov a++pre x),.own n t (l' x).length,z::bT (fZ 3 σ) rest,[(z,some (.fam tyo ity t' L ((a,.ownf z t' a m)::ov))),(n,some (.row ty t (l' x)))])
        |none=>none)
      |_,_=>none)
     |_,_,_=>none)
   |_=>none)
  |_=>none)
theorem aCw(x:SV)(l:List SV):avs (x::l)=x.av::avs l:=rfl
theorem aBt{X:Cx}(hX:X.Ok){n:Nat}{o:Oper}{E:SE}{σ:Sg}{c:Call}{f:Operand}(ho:o.op= .call c)(hc:c.callee= .value f):Bs X.P n o E σ (aAm X n σ (E f) (c.args.toList.map E)):=by
 intro ps r rd W h hp;unfold aAm at h;split at h
 ·cases h
 rename_i fid hf;split at h
 case h_2=>cases h
 rename_i Y dec pre t ty l' hT;have hfv:E.a f= .p (.fn (.func fid) [] []):=Cf hf;have avl:c.args.toList.map E.a=avs (c.args.toList.map E):=by rw[fL,List.map_map];rfl
 have hC:=hX.1 fid _ hT;split at h
 ·rename_i s lt m rest hxs;split at h
  case h_2=>cases h
  rename_i ty' t' l bs hs hbs hfr hmem;split at h
  case h_2=>cases h
  rename_i ht hty hb;subst ht;split at h<;>cases h;rename_i x hx;have hb:=Nat.eq_of_beq_eq_true hb;subst hb;have e1:m=l.length:=hp _ List.mem_cons_self;have e2:0<m:=hp _ (List.mem_cons_of_mem _ List.mem_cons_self);obtain⟨A,h1,h2⟩:=hC l bs x hx (fun p hq=>hp p (List.mem_cons_of_mem _ (List.mem_cons_of_mem _ hq)))
  obtain⟨⟨q,k1,k2⟩,k3⟩:=nJ (uU 3) hbs;have hqA:q=A:=by
   have:=congrArg cR (k2.symm.trans h1);rw[cB,cB]at this;cases this;rfl
  subst hqA;obtain⟨hn1,hn2⟩:=jY hfr;subst e1;refine⟨⟨(s::bT (fZ 3 σ) rest).map bD,bM.sto [(s,none),(n,some (.row ty' t' (l' x)))],?_,?_⟩,trivial⟩
  rotate_left
  ·exact cW.flat (rd:=s::bT (fZ 3 σ) rest) (W:=[(s,none),(n,some (.row ty' t' (l' x)))]) fun q hq=>by
    rcases List.mem_cons.1 hq with rfl|hq
    ·rw[hs];exact⟨rfl,rfl⟩
    ·rw[List.mem_singleton.1 hq,hn2];exact⟨rfl,rfl⟩
  have:=Jg (σ:=σ.a) (n:=n) (k:=l.length) (s:=bD s) (rest:=avs rest) (A:=q) ho hc hfv (by rw[avl,hxs];rfl) (by rw[Sg.cL,hs];rfl) (Nat.ne_of_gt t'.oC) e2 k1 (by
   rw[k3];intro hm;obtain⟨y,hy,e⟩:=List.mem_map.1 hm;exact xY hmem (by rw[<-gW e];exact hy)) h2
  rw[k3]at this;show bX _ _ _ _ _ _ (bD s::_) [(bD s,none),(bD n,some _)];rw[hn1];show bX _ _ _ _ _ (.own (bD n) 0 _) _ _;rw[hn1];exact this
 ·rename_i z lt a m rest hxs;split at h
  case h_2=>cases h
  rename_i tyo ity t' L ov bs hs hbs hfr;split at h
  case h_2=>cases h
  rename_i ht hty hb;subst ht;split at h<;>cases h;rename_i x hx;have hb:=Nat.eq_of_beq_eq_true hb;subst hb;have e0:a<L.length:=hp _ List.mem_cons_self;have e1:m=(L.getD a []).length:=hp _ (List.mem_cons_of_mem _ List.mem_cons_self);have e2:0<m:=hp _ (List.mem_cons_of_mem _ (List.mem_cons_of_mem _ List.mem_cons_self));have hov:ov.lookup a=none:=lW fun p hq=>hp p (List.mem_cons_of_mem _ (List.mem_cons_of_mem _ (List.mem_cons_of_mem _ (List.mem_append_left _ hq))))
  obtain⟨A,h1,h2⟩:=hC _ bs x hx (fun p hq=>hp p (List.mem_cons_of_mem _ (List.mem_cons_of_mem _ (List.mem_cons_of_mem _ (List.mem_append_right _ hq)))))
  obtain⟨⟨q,k1,k2⟩,k3⟩:=nJ (uU 3) hbs;have hqA:q=A:=by
   have:=congrArg cR (k2.symm.trans h1);rw[cB,cB]at this;cases this;rfl
  subst hqA;obtain⟨hn1,hn2⟩:=jY hfr;have hob:Sg.a σ (inn z (a+1))=some ⟨ity,t'.w,(t'.enc (L.getD a [])).map .p⟩:=by
   rw[Sg.gK,hs];show SOb.inner a (.fam tyo ity t' L ov)=_;unfold SOb.inner;dsimp only;rw[hov,List.getD_eq_getElem?_getD,List.getElem?_eq_getElem e0];rfl
  refine⟨⟨inn z (a+1)::bT (gR 3 σ.a) (avs rest),_,?_,cW.take (n:=n) (ob:= .row ity t' (l' x)) hs hov e1 hn2 rfl ?_⟩,trivial⟩
  ·have:=Jg (σ:=σ.a) (n:=n) (k:=m) (s:=inn z (a+1)) (rest:=avs rest) (A:=q) ho hc hfv (by rw[avl,hxs];rfl) hob (Nat.ne_of_gt t'.oC) e2 k1 (by
    rw[k3];intro hm;obtain⟨y,hy,e⟩:=List.mem_map.1 hm;have:=(dO e).2;omega) (by rw[e1];exact h2)
   show bX _ _ _ _ _ (.own (bD n) 0 _) _ [(inn z (a+1),none),(bD n,some _)];rw[hn1];exact this
  ·intro t ht;rcases List.mem_cons.1 ht with rfl|ht
   ·rw[dT];exact List.mem_cons_self
   ·rw[k3]at ht;exact List.mem_cons_of_mem _ (Bd _ t ht)
 ·cases h
def aAl(X:Cx)(σ:Sg)(fv:SV)(xs:List SV):SR:=match Xd fv with
 |none=>none
 |some f=>(match X.T f with
  |some ⟨_,dec,pre,.mutR t ty l'⟩=>(match(match Ao t with|true=>xs|false=>[])with
   | .own s _ m::rest=>(match σ s,wC (kZ 3 σ) rest,Xa (bT (fZ 3 σ) rest) s with
     |some (.row ty' t' l),some bs,false=>(match decEq t' t,Nat.beq ty' ty with
      | .isTrue h,true=>(match dec (.lst t (h▸l)::bs)with
        |some x=>some ((m=l.length)::(0<m)::pre x,.undef,s::bT (fZ 3 σ) rest,[(s,some (.row ty t (l' x)))])
        |none=>none)
      |_,_=>none)
     |_,_,_=>none)
   | .ownf z _ a m::rest=>(match σ z,wC (kZ 3 σ) rest with
     |some (.fam tyo ity t' L ov),some bs=>(match decEq t' t,Nat.beq ity ty with
      | .isTrue h,true=>(match dec (.lst t ((h▸L:List (List t.ty)).getD a [])::bs)with
        |some x=>some ((a<L.length)::(m=(L.getD a []).length)::(0<m)::(Bo ov a++pre x),.undef,z::bT (fZ 3 σ) rest,[(z,some (.fam tyo ity t ((h▸L:List (List t.ty)).set a (l' x)) ov))])
        |none=>none)
      |_,_=>none)
     |_,_=>none)
   |_=>none)
  |_=>none)
theorem aBs{X:Cx}(hX:X.Ok){n:Nat}{o:Oper}{E:SE}{σ:Sg}{c:Call}{f:Operand}(ho:o.op= .call c)(hc:c.callee= .value f):Bs X.P n o E σ (aAl X σ (E f) (c.args.toList.map E)):=by
 intro ps r rd W h hp;unfold aAl at h;split at h
 ·cases h
 rename_i fid hf;split at h
 case h_2=>cases h
 rename_i Y dec pre t ty l' hT;have hfv:E.a f= .p (.fn (.func fid) [] []):=Cf hf;have avl:c.args.toList.map E.a=avs (c.args.toList.map E):=by rw[fL,List.map_map];rfl
 have hC:=hX.1 fid _ hT;have hfl:Ao t=true/\(match Ao t with|true=>c.args.toList.map E|false=>[])=c.args.toList.map E\/(match Ao t with|true=>c.args.toList.map E|false=>[])=[] :=by
  cases Ao t
  ·exact .inr rfl
  ·exact .inl ⟨rfl,rfl⟩
 generalize (match Ao t with|true=>c.args.toList.map E|false=>[])=ys at h hfl
 rcases hfl with⟨hfl,rfl⟩|rfl
 rotate_left
 ·cases h
 split at h
 ·rename_i s lt m rest hxs;split at h
  case h_2=>cases h
  rename_i ty' t' l bs hs hbs hmem;split at h
  case h_2=>cases h
  rename_i ht hty hb;subst ht;split at h<;>cases h;rename_i x hx;have hb:=Nat.eq_of_beq_eq_true hb;subst hb;have e1:m=l.length:=hp _ List.mem_cons_self;have e2:0<m:=hp _ (List.mem_cons_of_mem _ List.mem_cons_self);obtain⟨A,h1,h2⟩:=hC l bs x hx (fun p hq=>hp p (List.mem_cons_of_mem _ (List.mem_cons_of_mem _ hq)))
  obtain⟨⟨q,k1,k2⟩,k3⟩:=nJ (uU 3) hbs;have hqA:q=A:=by
   have:=congrArg cR (k2.symm.trans h1);rw[cB,cB]at this;cases this;rfl
  subst hqA;subst e1;refine⟨⟨(s::bT (fZ 3 σ) rest).map bD,bM.sto [(s,some (.row ty' t' (l' x)))],?_,?_⟩,trivial⟩
  rotate_left
  ·exact cW.flat (rd:=s::bT (fZ 3 σ) rest) (W:=[(s,some (.row ty' t' (l' x)))]) fun q hq=>by
    rw[List.mem_singleton.1 hq,hs];exact⟨rfl,rfl⟩
  have:=Je (σ:=σ.a) (n:=n) (k:=l.length) (s:=bD s) (rest:=avs rest) (A:=q) ho hc hfv (by rw[avl,hxs];rfl) (by rw[Sg.cL,hs];rfl) (Nat.ne_of_gt t'.oC) e2 k1 (by
   rw[k3];intro hm;obtain⟨y,hy,e⟩:=List.mem_map.1 hm;exact xY hmem (by rw[<-gW e];exact hy)) (Aa hfl _) h2
  rw[k3]at this;exact this
 ·rename_i z lt a m rest hxs;split at h
  case h_2=>cases h
  rename_i tyo ity t' L ov bs hs hbs;split at h
  case h_2=>cases h
  rename_i ht hty hb;subst ht;split at h<;>cases h;rename_i x hx;have hb:=Nat.eq_of_beq_eq_true hb;subst hb;have e0:a<L.length:=hp _ List.mem_cons_self;have e1:m=(L.getD a []).length:=hp _ (List.mem_cons_of_mem _ List.mem_cons_self);have e2:0<m:=hp _ (List.mem_cons_of_mem _ (List.mem_cons_of_mem _ List.mem_cons_self));have hov:ov.lookup a=none:=lW fun p hq=>hp p (List.mem_cons_of_mem _ (List.mem_cons_of_mem _ (List.mem_cons_of_mem _ (List.mem_append_left _ hq))))
  obtain⟨A,h1,h2⟩:=hC _ bs x hx (fun p hq=>hp p (List.mem_cons_of_mem _ (List.mem_cons_of_mem _ (List.mem_cons_of_mem _ (List.mem_append_right _ hq)))))
  obtain⟨⟨q,k1,k2⟩,k3⟩:=nJ (uU 3) hbs;have hqA:q=A:=by
   have:=congrArg cR (k2.symm.trans h1);rw[cB,cB]at this;cases this;rfl
  subst hqA;have hob:Sg.a σ (inn z (a+1))=some ⟨ity,t'.w,(t'.enc (L.getD a [])).map .p⟩:=by
   rw[Sg.gK,hs];show SOb.inner a (.fam tyo ity t' L ov)=_;unfold SOb.inner;dsimp only;rw[hov,List.getD_eq_getElem?_getD,List.getElem?_eq_getElem e0];rfl
  have hlen:(l' x).length=(L.getD a []).length:=by
   have:=h2.2.1;rw[t'.wide.length,t'.wide.length]at this;exact Nat.eq_of_mul_eq_mul_right t'.oC this
  refine⟨⟨inn z (a+1)::bT (gR 3 σ.a) (avs rest),_,?_,cW.rset (l':=l' x) hs hov e0 hlen ?_⟩,trivial⟩
  ·exact Je (σ:=σ.a) (n:=n) (k:=m) (s:=inn z (a+1)) (rest:=avs rest) (A:=q) ho hc hfv (by rw[avl,hxs];rfl) hob (Nat.ne_of_gt t'.oC) e2 k1 (by
    rw[k3];intro hm;obtain⟨y,hy,e⟩:=List.mem_map.1 hm;have:=(dO e).2;omega) (Aa hfl _) (by rw[e1];exact h2)
  ·intro t ht;rcases List.mem_cons.1 ht with rfl|ht
   ·rw[dT];exact List.mem_cons_self
   ·rw[k3]at ht;exact List.mem_cons_of_mem _ (Bd _ t ht)
 ·cases h
def Ur:SV->Option (Nat×Nat)
 | .agg l=>LT.P.dec l
 |_=>none
def vM(k:Nat×Nat):List Int:=[(k.1:Int),(k.2:Int)]
theorem Nw{x:SV}{k:Nat×Nat}(h:Ur x=some k):x.av= .p (.agg (rZ (vM k))):=by
 unfold Ur at h;split at h
 ·have:=LT.Df h;show fD (avs _)=_;rw[this,kH];rfl
 ·cases h
def wD(ks:List (Nat×Nat))(k:Nat×Nat):List (Nat×Nat):=if k∈ks then ks else ks++[k]
theorem Ea{k l:Nat×Nat}(h:vM k=vM l):k=l:=by
 unfold vM at h;simp only[List.cons.injEq,and_true]at h;exact Prod.ext (Int.ofNat_inj.1 h.1) (Int.ofNat_inj.1 h.2)
theorem Hv(k:Nat×Nat):∀ks:List (Nat×Nat),vQ (nD ks) (vM k) (.p (.bool false))= .p (.bool (decide (k∈ks)))
 |[] =>rfl
 |l::ks=>by
  show(if vM l=vM k then AV.p (.bool true)else vQ (nD ks) (vM k) (.p (.bool false)))=_
  by_cases e:l=k
  ·subst e;rw[if_pos rfl];simp
  ·rw[if_neg (fun h=>e (Ea h)),Hv k ks]
   have:k≠l:=fun h=>e h.symm
   simp[this]
theorem Nj(k:Nat×Nat):∀ks:List (Nat×Nat),vL (nD ks) (vM k) (.p (.bool true))=nD (wD ks k)
 |[] =>rfl
 |l::ks=>by
  show(if vM l=vM k then(vM k,AV.p (.bool true))::nD ks else(vM l,AV.p (.bool true))::vL (nD ks) (vM k) (.p (.bool true)))=_
  by_cases e:l=k
  ·subst e;rw[if_pos rfl];unfold wD;rw[if_pos List.mem_cons_self];rfl
  ·rw[if_neg (fun h=>e (Ea h)),Nj k ks]
   have:k≠l:=fun h=>e h.symm
   unfold wD;by_cases h2:k∈ks
   ·rw[if_pos h2,if_pos (List.mem_cons_of_mem _ h2)];rfl
   ·rw[if_neg h2,if_neg (fun h=>(List.mem_cons.1 h).elim this h2)];rfl
theorem Hw{ks:List (Nat×Nat)}(h:ks.Nodup):Mq (nD ks):=by
 unfold Mq nD;rw[List.pairwise_map];exact h.imp fun hne e=>hne (Ea e)
theorem Nk{ks:List (Nat×Nat)}:∀q∈nD ks,q.1.length=2:=by
 intro q hq;obtain⟨k,_,rfl⟩:=List.mem_map.1 hq;rfl
def smk(X:Cx)(n:Nat)(σ:Sg)(t:TypeId):SR:=match X.mt t,frs σ n with
 |true,true=>some ([],.mp n,[],[(n,some (.mp []))])
 |_,_=>none
theorem aGx{X:Cx}{n:Nat}{o:Oper}{E:SE}{σ:Sg}{t:TypeId}(ho:o.op= .makeMap t none):Bs X.P n o E σ (smk X n σ t):=by
 intro ps r rd W h hp;unfold smk at h;split at h<;>cases h;rename_i h1 h2;obtain⟨hn1,hn2⟩:=jY h2;refine⟨⟨[],bM.sto [(n,some (.mp []))],?_,cW.flat (rd:=[]) (W:=[(n,some (.mp []))]) fun q hq=>by rw[List.mem_singleton.1 hq,hn2];exact⟨rfl,rfl⟩⟩,trivial⟩
 have:=Pz (P:=X.P) (E:=E.a) (σ:=σ.a) (n:=n) ho;show bX _ _ _ _ _ (.mp (bD n)) _ [(bD n,some ⟨1,0,[]⟩)];rw[hn1];exact this
def aAr(X:Cx)(σ:Sg)(t:TypeId)(x i:SV):SR:=match X.mt t,x,Ur i with
 |true,.mp s,some k=>(match σ s with
  |some (.mp ks)=>some ([ks.Nodup],.prop (k∈ks) inferInstance,[s],[])
  |_=>none)
 |_,_,_=>none
theorem aBz{X:Cx}(hX:X.Ok){n:Nat}{o:Oper}{E:SE}{σ:Sg}{t:TypeId}{x i:Operand}(ho:o.op= .lookup t x i false):Bs X.P n o E σ (aAr X σ t (E x) (E i)):=by
 intro ps r rd W h hp;unfold aAr at h;split at h
 case h_2=>cases h
 rename_i s k hmt hx hi;split at h<;>cases h;rename_i ks hs;obtain⟨kt,et,g1,g2,g3⟩:=hX.2.2 t hmt;have hnd:ks.Nodup:=hp _ (List.mem_singleton.2 rfl);refine⟨⟨[s].map bD,[],?_,cW.read σ [s]⟩,trivial⟩;have:=Tb (E:=E.a) (σ:=σ.a) (n:=n) (m:=2) (s:=bD s) (ks:=nD ks) (xs:=vM k) (z:= .p (.bool false)) (zv:= .bool false) ho g1 g2 g3 (fun ρ C=>by unfold aO aZ;rfl) (by show(E x).av=_;rw[hx];rfl) (by show(E i).av=_;exact Nw hi) rfl (by rw[Sg.cL,hs];rfl) Nk (Hw hnd)
 rw[Hv]at this;exact this
def aFX(X:Cx)(σ:Sg)(t:TypeId)(x i y:SV):SR:=match X.mt t,x,Ur i,y with
 |true,.mp s,some k,.lit true=>(match σ s with
  |some (.mp ks)=>some ([ks.Nodup],.undef,[s],[(s,some (.mp (wD ks k)))])
  |_=>none)
 |_,_,_,_=>none
theorem aCZ{X:Cx}(hX:X.Ok){n:Nat}{o:Oper}{E:SE}{σ:Sg}{t:TypeId}{x i y:Operand}(ho:o.op= .mapUpdate t x i y):Bs X.P n o E σ (aFX X σ t (E x) (E i) (E y)):=by
 intro ps r rd W h hp;unfold aFX at h;split at h
 case h_2=>cases h
 rename_i s k hmt hx hi hy;split at h<;>cases h;rename_i ks hs;obtain⟨kt,et,g1,g2,g3⟩:=hX.2.2 t hmt;have hnd:ks.Nodup:=hp _ (List.mem_singleton.2 rfl);refine⟨⟨[s].map bD,bM.sto [(s,some (.mp (wD ks k)))],?_,cW.flat (rd:=[s]) (W:=[(s,some (.mp (wD ks k)))]) fun q hq=>by rw[List.mem_singleton.1 hq,hs];exact⟨rfl,rfl⟩⟩,trivial⟩
 have:=Hc (E:=E.a) (σ:=σ.a) (n:=n) (m:=2) (s:=bD s) (ks:=nD ks) (xs:=vM k) ho g1 g2 (by show(E x).av=_;rw[hx];rfl) (by show(E i).av=_;exact Nw hi) rfl (by rw[Sg.cL,hs];rfl) Nk (Hw hnd)
 rw[show E.a y= .p (.bool true)from by show(E y).av=_;rw[hy];rfl,Nj]at this
 exact this
def orS(a b:SR):SR:=match a with
 |some x=>some x
 |none=>b
theorem Jw{P:Program}{n:Nat}{o:Oper}{E:SE}{σ:Sg}{a b:SR}(ha:Bs P n o E σ a)(hb:Bs P n o E σ b):Bs P n o E σ (orS a b):=by
 intro ps r rd W h hp;cases a with
 |some x=>exact ha ps r rd W h hp
 |none=>exact hb ps r rd W h hp
def aAp(X:Cx)(n:Nat)(σ:Sg)(fv:SV)(xs:List SV):SR:=match Xd fv with
 |none=>none
 |some f=>(match X.T f with
  |some ⟨_,dec,pre,.own ty t l ys⟩=>(match rY (oH 3 σ) xs with
   |some (qs,bs)=>(match dec bs,frs σ n,Ao t with
    |some x,true,true=>(match ys x with
     |[] =>some (qs++pre x,.own n t (l x).length,bT (eK 3 σ) xs,[(n,some (.row ty t (l x)))])
     |_=>none)
    |_,_,_=>none)
   |none=>none)
  |_=>none)
theorem aBv{X:Cx}(hX:X.Ok){n:Nat}{o:Oper}{E:SE}{σ:Sg}{c:Call}{f:Operand}(ho:o.op= .call c)(hc:c.callee= .value f):Bs X.P n o E σ (aAp X n σ (E f) (c.args.toList.map E)):=by
 intro ps r rd W h hp;unfold aAp at h;split at h
 ·cases h
 rename_i fid hf;split at h
 case h_2=>cases h
 rename_i Y dec pre ty t l ys hT;split at h
 case h_2=>cases h
 rename_i qs bs hbs;split at h
 case h_2=>cases h
 rename_i x hx hfr hfl;split at h<;>cases h;rename_i hys;have avl:c.args.toList.map E.a=avs (c.args.toList.map E):=by rw[fL,List.map_map];rfl
 obtain⟨A,Y2,h1,h2,h3⟩:=hX.1 fid _ hT bs x hx (fun p hq=>hp p (List.mem_append_right _ hq))
 obtain⟨q,k1,k2⟩:=xR (fun x ps y=>Do) hbs (fun p hq=>hp p (List.mem_append_left _ hq))
 have hqA:q=A:=by
  have:=congrArg cR (k2.symm.trans h1);rw[cB,cB]at this;cases this;rfl
 subst hqA;have hY:Y2=[] :=by
  rw[hys]at h2;cases Y2 with
  |nil=>rfl
  |cons y Y2=>cases h2
 subst hY;obtain⟨hn1,hn2⟩:=jY hfr;have:=Zp (σ:=σ.a) (n:=n) ho hc (Cf hf) (by rw[avl];exact k1) (Aa hfl _) h3
 rw[avl]at this;refine⟨⟨_,bM.sto [(n,some (.row ty t (l x)))],?_,⟨mN (Vr 3) _,(cW.flat (rd:=[]) (W:=[(n,some (.row ty t (l x)))]) fun q hq=>by rw[List.mem_singleton.1 hq,hn2];exact⟨rfl,rfl⟩).2⟩⟩,trivial⟩
 show bX _ _ _ _ _ (.own (bD n) 0 _) _ [(bD n,some _)];rw[hn1];exact this
def aFY(X:Cx)(n:Nat)(o:Op)(E:SE)(σ:Sg):SR:=match o with
 | .call {callee:= .value f,args, .. }=>orS (Hk (aAj X n σ (E f) (args.toList.map E))) (orS (aAm X n σ (E f) (args.toList.map E)) (orS (aAl X σ (E f) (args.toList.map E)) (aAp X n σ (E f) (args.toList.map E))))
 | .makeMap t none=>smk X n σ t
 | .lookup t x i false=>aAr X σ t (E x) (E i)
 | .mapUpdate t x i y=>aFX X σ t (E x) (E i) (E y)
 |_=>none
theorem aC1{X:Cx}(hX:X.Ok){n:Nat}{o:Oper}{E:SE}{σ:Sg}:Bs X.P n o E σ (aFY X n o.op E σ):=by
 generalize ho:o.op=op;unfold aFY;split
 ·exact Jw (aBq hX ho rfl) (Jw (aBt hX ho rfl) (Jw (aBs hX ho rfl) (aBv hX ho rfl)))
 ·exact aGx ho
 ·exact aBz hX ho
 ·exact aCZ hX ho
 ·intro ps r rd W h hp;cases h
def aI9(X:Cx)(raw:Bool)(n:Nat)(o:Op)(E:SE)(σ:Sg):SR:=orS (sop X raw n o E σ) (aFY X n o E σ)
theorem aC0{X:Cx}(hX:X.Ok){raw:Bool}{n:Nat}{o:Oper}{E:SE}{σ:Sg}(hE:∀x,(E x).ok):Bs X.P n o E σ (aI9 X raw n o.op E σ):=by
 refine Jw ?_ (aC1 hX);intro ps r rd W h hp;obtain⟨h1,h2⟩:=aGw hX hE h hp;obtain⟨r',R',W',h3,rfl,h4⟩:=Zu h1;exact⟨⟨R',W',h3,h4⟩,h2⟩
end
end Go.Proofs.YtdaeofhdgabhjaaGreat
namespace Go.Proofs.YtdaeofhdgabhjaaGreat
open Go.RowKit
noncomputable section
theorem eI{P:Program}{N:Nat}{ds:List (Option Nat)}{K K':List AV->Sto->qS->Prop}(hK:∀F L log,K F L log->K' F L log):∀{l:List Oper} {i:Nat} {F:List AV} {L:Sto} {log:qS},jK P N ds l i F L log K->jK P N ds l i F L log K'
 |[],i,F,L,log,h=>by unfold jK at*;exact hK _ _ _ h
 |o::rest,i,F,L,log,h=>by
  unfold jK at*;split at h
  ·obtain⟨r,R,W,Rc,Wc,h1,i1,i2,h2⟩:=h;exact⟨r,R,W,Rc,Wc,h1,i1,i2,eI hK h2⟩
  ·split at h
   ·split at h
    ·rename_i e;rw[if_pos e];obtain⟨r,R,W,Rc,Wc,h1,i1,i2,h2⟩:=h;exact⟨r,R,W,Rc,Wc,h1,i1,i2,eI hK h2⟩
    ·rename_i e;rw[if_neg e];exact eI hK h
   ·exact eI hK h
   ·exact h
theorem Qy.mono{P:Program}{o:Oper}{F:List AV}{L:Sto}{N:Nat}{K K':List AV->Sto->Nat->Prop}(hK:∀F L N,K F L N->K' F L N)(h:Qy P o F L N K):Qy P o F L N K':=
 fun C0 B wI a w hS=>rD (h C0 B wI a w hS) fun _ _ ⟨F',L',N',h1,h2⟩=>⟨F',L',N',hK _ _ _ h1,h2⟩
theorem iX{P:Program}:∀(c:Code) {Q Q':vW} (_:∀e F L N,Q e F L N->Q' e F L N) {F:List AV} {L:Sto} {N:Nat},awp P c Q F L N->awp P c Q' F L N:=by
 intro c;induction c with
 |skip=>intro Q Q' hQ F L N h;exact hQ _ _ _ _ h
 |region id ops draw=>
  intro Q Q' hQ F L N h;rcases h with h|⟨hd,pre,o,h1,h2,h3⟩
  rotate_left
  ·exact .inr ⟨hd,pre,o,h1,h2,eI (fun F L log a=>a.mono fun F L N=>hQ _ _ _ _) h3⟩
  cases draw with
  |true=>obtain⟨anc,h1,h2,h3,h4⟩:=h;exact .inl ⟨anc,h1,h2,h3,eI (fun F L log ⟨a,b⟩=>⟨a,hQ _ _ _ _ b⟩) h4⟩
  |false=>obtain⟨h1,h2⟩:=h;exact .inl ⟨h1,eI (fun F L log a=>hQ _ _ _ _ a) h2⟩
 |seq a b iha ihb=>
  intro Q Q' hQ F L N h;obtain⟨M,h1,h2⟩:=h;refine⟨M,iha ?_ h1,fun F L N hm=> ?_⟩
  ·intro e F L N h;cases e<;>first|exact h|exact hQ _ _ _ _ h
  ·obtain⟨F',L',N',h3,h4⟩:=h2 F L N hm;exact⟨F',L',N',h3,ihb hQ h4⟩
 |cond c t e iht ihe=>
  intro Q Q' hQ F L N h;obtain⟨b,hb,h1,h2⟩:=h;exact⟨b,hb,fun e=>iht hQ (h1 e),fun e=>ihe hQ (h2 e)⟩
 |block id c ih=>
  intro Q Q' hQ F L N h;refine ih ?_ h;intro e F L N h;cases e<;>first|exact hQ _ _ _ _ h|skip
  dsimp only at h|-;split at h
  ·rename_i e;rw[if_pos e];exact hQ _ _ _ _ h
  ·rename_i e;rw[if_neg e];exact hQ _ _ _ _ h
 |loop c ih=>
  intro Q Q' hQ F L N h;obtain⟨Inv,μ,h1,h2⟩:=h;refine⟨Inv,μ,h1,fun F L N hi=>ih ?_ (h2 F L N hi)⟩
  intro e F L N h;cases e<;>first|exact h|exact hQ _ _ _ _ h
 |exit id=>intro Q Q' hQ F L N h;exact hQ _ _ _ _ h
 |ret=>intro Q Q' hQ F L N h;exact hQ _ _ _ _ h
 |rangeFunc f params x y _ _=>intro Q Q' hQ F L N h;exact h.elim
 |scope c ih=>
  intro Q Q' hQ F L N h;refine ih ?_ h;intro e F L N h;cases e<;>first|exact hQ _ _ _ _ h|exact h
 |label l=>intro Q Q' hQ F L N h;exact hQ _ _ _ _ h
 |goto l=>intro Q Q' hQ F L N h;exact h.elim
 |refuse s=>intro Q Q' hQ F L N h;exact h.elim
def Frm.ok(F:Frm):Prop:=∀t,(F.at t).ok
theorem aGs(v:Value):(svC v).ok:=by
 unfold svC;split
 ·split<;>trivial
 ·split<;>trivial
 ·unfold svK;split<;>trivial
theorem aCi{n:Nat}{F:Frm}(h:F.ok)(x:Operand):(Cu n F x).ok:=by
 cases x with
 |tmp t=>
  show(match Nat.blt t n with|true=>F.at t|false=>SV.any).ok
  split
  ·exact h t
  ·trivial
 |const v=>exact aGs v
 |func f=>trivial
 |global g=>trivial
theorem Frm.Wb{F:Frm}(h:F.ok){d:Nat}{v:SV}(hv:v.ok):Frm.ok ((d,v)::F):=by
 intro t;rw[Frm.jH];split
 ·exact hv
 ·exact h t
def Gm(n:Nat)(F:Frm)(d:Option Nat)(r:SV):Frm:=match d with
 |none=>F
 |some d=>(match Nat.blt d n with|true=>(d,r)::F|false=>F)
theorem fU(a b:Nat):Nat.blt a b=true↔a<b:=by
 unfold Nat.blt;constructor
 ·intro h;exact Nat.le_of_ble_eq_true h
 ·intro h;exact Nat.ble_eq_true_of_le h
theorem Zr{a b:Nat}(h:Nat.blt a b=false):¬a<b:=fun hh=>by rw[(fU a b).2 hh]at h;cases h
theorem Kw{n:Nat}{F:Frm}{d:Option Nat}{r:SV}:jC (F.av n) d r.av=(Gm n F d r).av n:=by
 cases d with
 |none=>rfl
 |some d=>
  unfold Gm;dsimp only;split
  ·rename_i h;exact Frm.aG2 ((fU _ _).1 h)
  ·rename_i h;unfold jC;dsimp only;rw[List.set_eq_of_length_le (by rw[Frm.eH];exact Nat.le_of_not_lt (Zr h))]
def Pre(S:Nat->Prop)(F F':Frm):Prop:=∃pre:Frm,F'=pre++F/\∀q∈pre,S q.1
def nF(L L':bM):Prop:=∃pre:bM,L'=pre++L
theorem Pre.rfl{S:Nat->Prop}{F:Frm}:Pre S F F:=⟨[],by simp,fun q h=>by cases h⟩
theorem Pre.trans{S:Nat->Prop}{F G H:Frm}(h1:Pre S F G)(h2:Pre S G H):Pre S F H:=by
 obtain⟨p,rfl,hp⟩:=h1;obtain⟨q,rfl,hq⟩:=h2;exact⟨q++p,by simp,fun r hr=>by rcases List.mem_append.1 hr with h|h;exact hq r h;exact hp r h⟩
theorem Pre.mono{S T:Nat->Prop}{F G:Frm}(h1:Pre S F G)(h:∀d,S d->T d):Pre T F G:=by
 obtain⟨p,e,hp⟩:=h1;exact⟨p,e,fun q hq=>h _ (hp q hq)⟩
theorem nF.rfl{L:bM}:nF L L:=⟨[],by simp⟩
theorem nF.trans{L M O:bM}(h1:nF L M)(h2:nF M O):nF L O:=by
 obtain⟨p,rfl⟩:=h1;obtain⟨q,rfl⟩:=h2;exact⟨q++p,by simp⟩
theorem Du{n:Nat}{F:Frm}{d:Option Nat}{r:SV}{S:Nat->Prop}(h:∀t,d=some t->S t):Pre S F (Gm n F d r):=by
 cases d with
 |none=>exact Pre.rfl
 |some d=>
  unfold Gm;dsimp only;split
  ·exact⟨[(d,r)],by simp,fun q hq=>by simp at hq;subst hq;exact h d (by simp)⟩
  ·exact Pre.rfl
theorem Kv{n:Nat}{F:Frm}{d:Option Nat}{r:SV}(h:F.ok)(hr:r.ok):(Gm n F d r).ok:=by
 cases d with
 |none=>exact h
 |some d=>
  unfold Gm;dsimp only;split
  ·exact Frm.Wb h hr
  ·exact h
def Gr(X:Cx)(n:Nat)(raw:Bool)(N i:Nat)(o:Oper)(F:Frm)(L:bM)(log:qS)(k:Frm->bM->qS->Fm):Fm:=match aI9 X raw (N+i) o.op (Cu n F) L.at with
 |some (ps,r,R,W)=>Al ps (k (Gm n F o.dst r) (W++L) (log++[(R.map ncl,W.map fun(q:Nat×Option SOb)=>ncl q.1)]))
 |none=> .stuck i
def Cl(n:Nat)(o:Oper)(F:Frm)(L:bM)(log:qS)(k:Frm->bM->qS->Fm):Fm:=k (Gm n F o.dst .undef) L (log++[([],[])])
def mZ(X:Cx)(n:Nat)(raw:Nat->Bool)(N:Nat)(ds:List (Option Nat)):List Oper->Nat->Frm->bM->qS->(Frm->bM->qS->Fm)->Fm
 |[],_,F,L,log,K=>K F L log
 |o::rest,i,F,L,log,K=>match o.guard with
  |none=>Gr X n (raw i) N i o F L log fun F L log=>mZ X n raw N ds rest (i+1) F L log K
  |some (j,want)=>(match(ds[j]?).join with
   |some d=>(match Nat.blt d n,F.at d with
    |true,.lit b=>(match b,want with
     |true,false=>Cl n o F L log fun F L log=>mZ X n raw N ds rest (i+1) F L log K
     |false,true=>Cl n o F L log fun F L log=>mZ X n raw N ds rest (i+1) F L log K
     |_,_=>Gr X n (raw i) N i o F L log fun F L log=>mZ X n raw N ds rest (i+1) F L log K)
    |true,.undef=>Cl n o F L log fun F L log=>mZ X n raw N ds rest (i+1) F L log K
    |true,.prop p _=> .both
     (.imp p (match want with
       |true=>Gr X n (raw i) N i o ((d,.lit true)::F) L log fun F L log=>mZ X n raw N ds rest (i+1) F L log K
       |false=>Cl n o ((d,.lit true)::F) L log fun F L log=>mZ X n raw N ds rest (i+1) F L log K))
     (.imp (¬p) (match want with
       |false=>Gr X n (raw i) N i o ((d,.lit false)::F) L log fun F L log=>mZ X n raw N ds rest (i+1) F L log K
       |true=>Cl n o ((d,.lit false)::F) L log fun F L log=>mZ X n raw N ds rest (i+1) F L log K))
    |true,.bool c=> .both
     (.imp (c=true) (match want with
       |true=>Gr X n (raw i) N i o ((d,.lit true)::F) L log fun F L log=>mZ X n raw N ds rest (i+1) F L log K
       |false=>Cl n o ((d,.lit true)::F) L log fun F L log=>mZ X n raw N ds rest (i+1) F L log K))
     (.imp (c=false) (match want with
       |false=>Gr X n (raw i) N i o ((d,.lit false)::F) L log fun F L log=>mZ X n raw N ds rest (i+1) F L log K
       |true=>Cl n o ((d,.lit false)::F) L log fun F L log=>mZ X n raw N ds rest (i+1) F L log K))
    |_,_=> .stuck i)
   |none=> .stuck i)
theorem Frm.aDV{n:Nat}{F:Frm}{d:Nat}{v:SV}(h:v.av=(F.at d).av):Frm.av n ((d,v)::F)=F.av n:=by
 unfold Frm.av;apply List.map_congr_left;intro t _;rw[Frm.jH];split
 ·rename_i e;rw[e];exact h
 ·rfl
def bM.fn(L:bM):Sto:=Sg.a L.at
def oA(n:Nat)(S:Nat->Prop)(F:Frm)(L:bM)(FA:List AV)(LA:Sto)(G:Frm->bM->Prop):Prop:=∃F' L',FA=F'.av n/\LA=L'.fn/\F'.ok/\Pre S F F'/\nF L L'/\G F' L'
theorem oA.step{n:Nat}{S:Nat->Prop}{F F1:Frm}{L L1:bM}{FA:List AV}{LA:Sto}{G:Frm->bM->Prop}(h1:Pre S F F1)(h2:nF L L1)(h:oA n S F1 L1 FA LA G):oA n S F L FA LA G:=by
 obtain⟨F',L',a,b,c,d,e,f⟩:=h;exact⟨F',L',a,b,c,h1.trans d,h2.trans e,f⟩
theorem xN{X:Cx}(hX:X.Ok){n:Nat}{raw:Nat->Bool}{N:Nat}{ds:List (Option Nat)}{K:Frm->bM->qS->Fm}:
  ∀(l:List Oper) (i:Nat) (F:Frm) (L:bM) (log:qS),(∀o∈l,o.dst∈ds)->F.ok->(mZ X n raw N ds l i F L log K).holds->
   jK X.P N ds l i (F.av n) L.fn log fun FA LA log'=>oA n (fun d=>some d∈ds) F L FA LA fun F' L'=>(K F' L' log').holds
 |[],i,F,L,log,_,hF,h=>by
  unfold mZ at h;unfold jK;exact⟨F,L,rfl,rfl,hF,Pre.rfl,nF.rfl,h⟩
 |o::rest,i,F,L,log,hd,hF,h=>by
  have hd':∀o∈rest,o.dst∈ds:=fun o ho=>hd o (List.mem_cons_of_mem _ ho)
  have hod:∀t,o.dst=some t->some t∈ds:=fun t ht=>by rw[<-ht];exact hd o List.mem_cons_self
  have run:∀F:Frm,F.ok->(Gr X n (raw i) N i o F L log fun F L log=>mZ X n raw N ds rest (i+1) F L log K).holds->
    ∃r R W Rc Wc,bX X.P o (lQ (F.av n)) L.fn (N+i) r R W/\inC R Rc/\inC (W.map (·.1)) Wc/\jK X.P N ds rest (i+1) (jC (F.av n) o.dst r) (cG L.fn W) (log++[(Rc,Wc)]) fun FA LA log'=>oA n (fun d=>some d∈ds) F L FA LA fun F' L'=>(K F' L' log').holds:=by
   intro F hF h;unfold Gr at h;split at h
   ·rename_i ps r R W hs;obtain⟨h1,h2⟩:=jA h;obtain⟨⟨R',W',h5,f1,f2,f3⟩,h4⟩:=aC0 hX (aCi hF) _ _ _ _ hs h1;have e1:SE.a (Cu n F)=lQ (F.av n):=funext fun x=>Ee x
    rw[e1]at h5;refine⟨r.av,R',W',_,_,h5,f1,f2,?_⟩;have e3:cG L.fn W'=bM.fn (W++L):=by unfold bM.fn;rw[f3,bM.Ui]
    rw[Kw,e3];exact eI (fun _ _ _=>oA.step (Du hod) ⟨W,rfl⟩) (xN hX rest (i+1) _ _ _ hd' (Kv hF h4) h2)
   ·exact h.elim
  have skip:∀F:Frm,F.ok->(Cl n o F L log fun F L log=>mZ X n raw N ds rest (i+1) F L log K).holds->
    jK X.P N ds rest (i+1) (jC (F.av n) o.dst .undef) L.fn (log++[([],[])]) fun FA LA log'=>oA n (fun d=>some d∈ds) F L FA LA fun F' L'=>(K F' L' log').holds:=by
   intro F hF h;unfold Cl at h;have:=xN hX rest (i+1) _ _ _ hd' (Kv (n:=n) (d:=o.dst) hF (show SV.ok .undef from trivial)) h
   rw[<-Kw]at this;exact eI (fun _ _ _=>oA.step (Du hod) nF.rfl) this
  unfold mZ at h;unfold jK;split at h
  ·rename_i hg;rw[hg];exact run F hF h
  ·rename_i j want hg;rw[hg];dsimp only;split at h
   case h_2=>exact h.elim
   rename_i d hdj;have hds:some d∈ds:=by
    cases hx:ds[j]? with
    |none=>rw[hx]at hdj;cases hdj
    |some y=>rw[hx]at hdj;have:y=some d:=hdj;subst this;exact List.mem_of_getElem? hx
   have gd:∀F:Frm,d<n->gdA ds (F.av n) j=(match(F.at d).av with| .p (.bool b)=>some (some b)| .undef=>some none|_=>none):=by
    intro F hlt;unfold gdA;rw[hdj];dsimp only;rw[Frm.jZ hlt];rfl
   have split1:∀(b:Bool),d<n->(F.at d).av= .p (.bool b)->(match want with
      |true=>(match b with
       |true=>Gr X n (raw i) N i o ((d,.lit true)::F) L log fun F L log=>mZ X n raw N ds rest (i+1) F L log K
       |false=>Cl n o ((d,.lit false)::F) L log fun F L log=>mZ X n raw N ds rest (i+1) F L log K)
      |false=>(match b with
       |true=>Cl n o ((d,.lit true)::F) L log fun F L log=>mZ X n raw N ds rest (i+1) F L log K
       |false=>Gr X n (raw i) N i o ((d,.lit false)::F) L log fun F L log=>mZ X n raw N ds rest (i+1) F L log K)).holds->
     (match(gdA ds (F.av n) j:Option (Option Bool))with
       |some (some b)=>if b=want then∃r R W Rc Wc,bX X.P o (lQ (F.av n)) L.fn (N+i) r R W/\inC R Rc/\inC (W.map (·.1)) Wc/\jK X.P N ds rest (i+1) (jC (F.av n) o.dst r) (cG L.fn W) (log++[(Rc,Wc)]) (fun FA LA log'=>oA n (fun d=>some d∈ds) F L FA LA fun F' L'=>(K F' L' log').holds)
        else jK X.P N ds rest (i+1) (jC (F.av n) o.dst .undef) L.fn (log++[([],[])]) (fun FA LA log'=>oA n (fun d=>some d∈ds) F L FA LA fun F' L'=>(K F' L' log').holds)
       |some none=>jK X.P N ds rest (i+1) (jC (F.av n) o.dst .undef) L.fn (log++[([],[])]) (fun FA LA log'=>oA n (fun d=>some d∈ds) F L FA LA fun F' L'=>(K F' L' log').holds)
       |none=>False):=by
    intro b hlt hb h;rw[gd F hlt,hb];dsimp only;have e0:∀c,c=b->Frm.av n ((d,.lit c)::F)=F.av n:=fun c hc=>Frm.aDV (by rw[hb,hc];rfl)
    have hpre:∀c,Pre (fun d=>some d∈ds) F ((d,SV.lit c)::F):=fun c=>⟨[(d,.lit c)],rfl,fun q hq=>by simp at hq;subst hq;exact hds⟩
    have up:∀c FA LA (G:Frm->bM->Prop),oA n (fun d=>some d∈ds) ((d,SV.lit c)::F) L FA LA G->oA n (fun d=>some d∈ds) F L FA LA G:=fun c FA LA G=>oA.step (hpre c) nF.rfl
    have hok:∀c,Frm.ok ((d,SV.lit c)::F):=fun c=>Frm.Wb hF (show SV.ok (.lit c)from trivial)
    cases want<;>cases b<;>dsimp only at h
    ·rw[if_pos rfl];have:=run _ (hok false) h;rw[e0 false rfl]at this;obtain⟨r,R,W,Rc,Wc,h1,i1,i2,h2⟩:=this;exact⟨r,R,W,Rc,Wc,h1,i1,i2,eI (fun _ _ _=>up false _ _ _) h2⟩
    ·rw[if_neg (by decide)]
     have:=skip _ (hok true) h;rw[e0 true rfl]at this;exact eI (fun _ _ _=>up true _ _ _) this
    ·rw[if_neg (by decide)]
     have:=skip _ (hok false) h;rw[e0 false rfl]at this;exact eI (fun _ _ _=>up false _ _ _) this
    ·rw[if_pos rfl];have:=run _ (hok true) h;rw[e0 true rfl]at this;obtain⟨r,R,W,Rc,Wc,h1,i1,i2,h2⟩:=this;exact⟨r,R,W,Rc,Wc,h1,i1,i2,eI (fun _ _ _=>up true _ _ _) h2⟩
   split at h
   ·rename_i b hlt hb;have hlt:=(fU _ _).1 hlt;rw[gd F hlt,hb];show(if b=want then _ else _)
    cases b<;>cases want<;>dsimp only at h
    ·rw[if_pos rfl];exact run F hF h
    ·rw[if_neg (by decide)];exact skip F hF h
    ·rw[if_neg (by decide)];exact skip F hF h
    ·rw[if_pos rfl];exact run F hF h
   ·rename_i hlt hb;have hlt:=(fU _ _).1 hlt;rw[gd F hlt,hb];exact skip F hF h
   ·rename_i p dec hlt hb;obtain⟨h1,h2⟩:=Fm.mB h;have hlt:=(fU _ _).1 hlt;have hav:(F.at d).av= .p (.bool (@decide p dec)):=by rw[hb];rfl
    by_cases hp:p
    ·refine split1 true hlt (by rw[hav];simp[hp]) ?_
     have h1:=(h1:p->_) hp;cases want<;>exact h1
    ·refine split1 false hlt (by rw[hav];simp[hp]) ?_
     have h2:=(h2:¬p->_) hp;cases want<;>exact h2
   ·rename_i c hlt hb;obtain⟨h1,h2⟩:=Fm.mB h;have hlt:=(fU _ _).1 hlt;have hav:(F.at d).av= .p (.bool c):=by rw[hb];rfl
    cases c with
    |true=>
     refine split1 true hlt hav ?_;have h1:=(h1:(true=true)->_) rfl;cases want<;>exact h1
    |false=>
     refine split1 false hlt hav ?_;have h2:=(h2:(false=false)->_) rfl;cases want<;>exact h2
   ·exact h.elim
end
end Go.Proofs.YtdaeofhdgabhjaaGreat
namespace Go.Proofs.YtdaeofhdgabhjaaGreat
open Go.RowKit
noncomputable section
abbrev Rm:=List (Nat×Option Nat)
def rP:Rm->Nat->Option (Option Nat)
 |[],_=>none
 |(k,x)::m,s=>match Nat.beq s k with|true=>some x|false=>rP m s
def Gq(f:SV->SV->Option (List Prop×Rm)):List SV->List SV->Option (List Prop×Rm)
 |[],[] =>some ([],[])
 |x::l,y::r=>(match f x y,Gq f l r with
  |some (p,m),some (q,k)=>some (p++q,m++k)
  |_,_=>none)
 |_,_=>none
def aGc:SV->SV->Option (List Prop×Rm)
 | .any,_=>some ([],[])
 | .undef,.undef=>some ([],[])
 | .nil,.nil=>some ([],[])
 | .int k a,.int k' b=>(match decEq k k' with| .isTrue _=>some ([b=a],[])| .isFalse _=>none)
 | .bool a,.bool b=>some ([b=a],[])
 | .bool a,.lit b=>some ([b=a],[])
 | .bool a,.prop p d=>some ([@decide p d=a],[])
 | .lit a,.lit b=>some ([b=a],[])
 | .lit a,.bool b=>some ([b=a],[])
 | .lit a,.prop p d=>some ([@decide p d=a],[])
 | .prop p _,.prop q _=>some ([q↔p],[])
 | .prop p d,.bool b=>some ([b= @decide p d],[])
 | .prop p d,.lit b=>some ([b= @decide p d],[])
 | .str a,.str b=>some ([b=a],[])
 | .lst t l,.lst t' l'=>(match decEq t' t with| .isTrue h=>some ([(h▸l':List t.ty)=l],[])| .isFalse _=>none)
 | .lst _ l,.sl 0 [] =>some ([l=[]],[])
 | .lst t l,.sl n cs=>(match t.decs n cs with|some l'=>some ([l'=l],[])|none=>none)
 | .ptr s off,.ptr s' off'=>(match Nat.beq off off' with|true=>some ([],[(s,some s')])|false=>none)
 | .own s t n,.own s' t' n'=>(match decEq t' t with| .isTrue _=>some ([n'=n],[(s,some s')])| .isFalse _=>none)
 | .own s _ n,.ownx s' n'=>some ([n'=n],[(s,some s')])
 | .own s _ n,.nil=>some ([n=0],[(s,none)])
 | .ownx s n,.ownx s' n'=>(match Nat.beq n n' with|true=>some ([],[(s,some s')])|false=>none)
 | .owF s n,.owF s' n'=>some ([n'=n],[(s,some s')])
 | .mp s,.mp s'=>some ([],[(s,some s')])
 | .junk,.junk=>some ([],[])
 |_,_=>none
def eqv:Nat->SV->SV->Option (List Prop×Rm)
 |d+1,.agg l,.agg r=>Gq (eqv d) l r
 |d+1,.tup l,.tup r=>Gq (eqv d) l r
 |d+1,.fn f a b,.fn f' a' b'=>(match Nat.beq f f',Gq (eqv d) a a',Gq (eqv d) b b' with
  |true,some (p,m),some (q,k)=>some (p++q,m++k)
  |_,_,_=>none)
 |_,x,y=>aGc x y
def jM(m:Rf)(r:Rm):Prop:=∀q∈r,m (bD q.1)=some (q.2.map bD)
theorem jM.left{m:Rf}{r k:Rm}(h:jM m (r++k)):jM m r:=fun q hq=>h q (List.mem_append_left _ hq)
theorem jM.right{m:Rf}{r k:Rm}(h:jM m (r++k)):jM m k:=fun q hq=>h q (List.mem_append_right _ hq)
theorem mO{f:SV->SV->Option (List Prop×Rm)}{m:Rf}(hf:∀x y ps r,f x y=some (ps,r)->(∀p∈ps,p)->jM m r->cX m x.av y.av):
  ∀{l k:List SV} {ps:List Prop} {r:Rm},Gq f l k=some (ps,r)->(∀p∈ps,p)->jM m r->dP m (avs l) (avs k)
 |[],[],ps,r,_,_,_=>by simp only[avs];unfold dP;rfl
 |[],_::_,ps,r,h,_,_=>by cases h
 |_::_,[],ps,r,h,_,_=>by cases h
 |x::l,y::k,ps,r,h,hp,hm=>by
  unfold Gq at h;split at h<;>cases h;rename_i p m1 q m2 h1 h2;rw[avs,avs];unfold dP;exact⟨_,_,rfl,hf x y p m1 h1 (fun a ha=>hp a (List.mem_append_left _ ha)) hm.left,mO hf h2 (fun a ha=>hp a (List.mem_append_right _ ha)) hm.right⟩
theorem Oz{m:Rf}{x y:SV}{ps:List Prop}{r:Rm}(h:aGc x y=some (ps,r))(hp:∀p∈ps,p)(hm:jM m r):cX m x.av y.av:=by
 unfold aGc at h;split at h
 ·simp only[SV.av];unfold cX;trivial
 ·simp only[SV.av];unfold cX;rfl
 ·simp only[SV.av];unfold cX;rfl
 ·split at h<;>cases h;rename_i e _;subst e;refine dD ?_;rw[<-hp _ (List.mem_singleton.2 rfl)];rfl
 ·cases h;refine dD ?_;rw[<-hp _ (List.mem_singleton.2 rfl)];rfl
 ·cases h;refine dD ?_;rw[<-hp _ (List.mem_singleton.2 rfl)];rfl
 ·cases h;refine dD ?_;rw[<-hp _ (List.mem_singleton.2 rfl)];rfl
 ·cases h;refine dD ?_;rw[<-hp _ (List.mem_singleton.2 rfl)];rfl
 ·cases h;refine dD ?_;rw[<-hp _ (List.mem_singleton.2 rfl)];rfl
 ·cases h;refine dD ?_;rw[<-hp _ (List.mem_singleton.2 rfl)];rfl
 ·rename_i p d q e;cases h;refine dD ?_;have hh:q↔p:=hp _ (List.mem_singleton.2 rfl);show AV.p (.bool (decide q))=AV.p (.bool (decide p))
  congr 2
  exact decide_eq_decide.2 hh
 ·cases h;refine dD ?_;rw[<-hp _ (List.mem_singleton.2 rfl)];rfl
 ·cases h;refine dD ?_;rw[<-hp _ (List.mem_singleton.2 rfl)];rfl
 ·cases h;refine dD ?_;rw[<-hp _ (List.mem_singleton.2 rfl)];rfl
 ·rename_i t l t' l';split at h<;>cases h;rename_i e _;subst e;have:l'=l:=hp _ (List.mem_singleton.2 rfl);subst this;exact dD rfl
 ·cases h;rename_i t l;have:l=[] :=hp _ (List.mem_singleton.2 rfl);subst this;exact dD rfl
 ·rename_i t l n cs _;split at h<;>cases h;rename_i l' hl;have:l'=l:=hp _ (List.mem_singleton.2 rfl);subst this;obtain⟨e1,e2⟩:=LT.uR hl;refine dD ?_;show(match cR (avs cs)with|some q=>AV.p (.sl n q)|none=> .any)=_
  rw[e2,cB,e1]
 ·rename_i s off s' off';split at h<;>cases h;rename_i e;simp only[SV.av];unfold cX;exact⟨bD s',hm _ (List.mem_singleton.2 rfl),by rw[Nat.eq_of_beq_eq_true e]⟩
 ·rename_i s t n s' t' n';split at h<;>cases h;have:n'=n:=hp _ (List.mem_singleton.2 rfl);simp only[SV.av];unfold cX;exact .inl ⟨bD s',hm _ (List.mem_singleton.2 rfl),by rw[this]⟩
 ·cases h;rename_i s t n s' n';have:n'=n:=hp _ (List.mem_singleton.2 rfl);simp only[SV.av];unfold cX;exact .inl ⟨bD s',hm _ (List.mem_singleton.2 rfl),by rw[this]⟩
 ·cases h;rename_i s t n;have:n=0:=hp _ (List.mem_singleton.2 rfl);simp only[SV.av];unfold cX;exact .inr ⟨hm _ (List.mem_singleton.2 rfl),rfl,rfl,this⟩
 ·rename_i s n s' n';split at h<;>cases h;rename_i e;simp only[SV.av];unfold cX;exact .inl ⟨bD s',hm _ (List.mem_singleton.2 rfl),by rw[Nat.eq_of_beq_eq_true e]⟩
 ·cases h;rename_i s n s' n';have:n'=n:=hp _ (List.mem_singleton.2 rfl);simp only[SV.av];unfold cX;exact .inl ⟨bD s',hm _ (List.mem_singleton.2 rfl),by rw[this]⟩
 ·cases h;rename_i s s';simp only[SV.av];unfold cX;exact⟨bD s',hm _ (List.mem_singleton.2 rfl),rfl⟩
 ·cases h;exact dD rfl
 ·cases h
theorem uQ{m:Rf}:∀(d:Nat) (x y:SV) (ps:List Prop) (r:Rm),eqv d x y=some (ps,r)->(∀p∈ps,p)->jM m r->cX m x.av y.av:=by
 intro d;induction d with
 |zero=>
  intro x y ps r h hp hm;refine Oz (ps:=ps) (r:=r) ?_ hp hm;exact h
 |succ d ih=>
  intro x y ps r h hp hm;unfold eqv at h;split at h
  ·rename_i d' l k e;cases e;exact uZ (mO ih h hp hm)
  ·rename_i d' l k e;cases e;exact zM (mO ih h hp hm)
  ·rename_i d' f a b f' a' b' e;cases e;split at h<;>cases h;rename_i p m1 q m2 e h1 h2;show cX m (.fn (.func f) (avs a) (avs b)) (.fn (.func f') (avs a') (avs b'));unfold cX;exact⟨_,_,by rw[Nat.eq_of_beq_eq_true e],mO ih h1 (fun a ha=>hp a (List.mem_append_left _ ha)) hm.left,mO ih h2 (fun a ha=>hp a (List.mem_append_right _ ha)) hm.right⟩
  ·exact Oz h hp hm
mutual
def SV.sites:SV->List Nat
 | .agg l=>pU l
 | .tup l=>pU l
 | .fn _ a b=>pU a++pU b
 | .ptr s _=>[s]
 | .pte s _ _ _=>[s]
 | .own s _ _=>[s]
 | .owns s _ _ _=>[s]
 | .ownx s _=>[s]
 | .ownf s _ _ _=>[s]
 | .ptef s _ _ _ _=>[s]
 | .ptf s _=>[s]
 | .owF s _=>[s]
 | .mp s=>[s]
 |_=>[]
def pU:List SV->List Nat
 |[] =>[]
 |x::l=>x.sites++pU l
end
def Xg(m:Rf)(s:Nat):Prop:=∀a,m (inn s a)=some (some (inn s a))
mutual
theorem uV{m:Rf}:∀(v:SV),(∀s∈v.sites,Xg m s)->cX m v.av v.av
 | .any,_=>by simp only[SV.av];unfold cX;trivial
 | .undef,_=>by simp only[SV.av];unfold cX;rfl
 | .nil,_=>by simp only[SV.av];unfold cX;rfl
 | .int _ _,_=>dD rfl
 | .bool _,_=>dD rfl
 | .lit _,_=>dD rfl
 | .prop _ _,_=>dD rfl
 | .str _,_=>dD rfl
 | .lst _ _,_=>dD rfl
 | .pe _ _ _ _,_=>dD rfl
 | .clo1 _ _ _ _,_=>dD rfl
 | .clo2 _ _ _ _,_=>dD rfl
 | .ptb _ _ _,_=>dD rfl
 | .junk,_=>dD rfl
 | .mp s,h=>by simp only[SV.av];unfold cX;exact⟨bD s,h s (by simp[SV.sites]) 0,rfl⟩
 | .sl n cs,_=>by
   simp only[SV.av];split
   ·exact dD rfl
   ·unfold cX;trivial
 | .pro cs off,_=>by
   simp only[SV.av];split
   ·exact dD rfl
   ·unfold cX;trivial
 | .fnp f a b,_=>by
   simp only[SV.av];split
   ·exact dD rfl
   ·unfold cX;trivial
 | .agg l,h=>by simp only[SV.av];exact uZ (kG l h)
 | .tup l,h=>by simp only[SV.av];exact zM (kG l h)
 | .fn f a b,h=>by
   simp only[SV.av];unfold cX;exact⟨_,_,rfl,kG a (fun s hs=>h s (by simp only[SV.sites];exact List.mem_append_left _ hs)),kG b (fun s hs=>h s (by simp only[SV.sites];exact List.mem_append_right _ hs))⟩
 | .ptr s off,h=>by simp only[SV.av];unfold cX;exact⟨bD s,h s (by simp[SV.sites]) 0,rfl⟩
 | .pte s t i off,h=>by simp only[SV.av];unfold cX;exact⟨bD s,h s (by simp[SV.sites]) 0,rfl⟩
 | .own s t n,h=>by simp only[SV.av];unfold cX;exact .inl ⟨bD s,h s (by simp[SV.sites]) 0,rfl⟩
 | .owns s t o n,h=>by simp only[SV.av];unfold cX;exact .inl ⟨bD s,h s (by simp[SV.sites]) 0,rfl⟩
 | .ownx s n,h=>by simp only[SV.av];unfold cX;exact .inl ⟨bD s,h s (by simp[SV.sites]) 0,rfl⟩
 | .owF s n,h=>by simp only[SV.av];unfold cX;exact .inl ⟨bD s,h s (by simp[SV.sites]) 0,rfl⟩
 | .ownf s t a n,h=>by simp only[SV.av];unfold cX;exact .inl ⟨inn s (a+1),h s (by simp[SV.sites]) (a+1),rfl⟩
 | .ptf s a,h=>by simp only[SV.av];unfold cX;exact⟨bD s,h s (by simp[SV.sites]) 0,rfl⟩
 | .ptef s t a i off,h=>by simp only[SV.av];unfold cX;exact⟨inn s (a+1),h s (by simp[SV.sites]) (a+1),rfl⟩
theorem kG{m:Rf}:∀(l:List SV),(∀s∈pU l,Xg m s)->dP m (avs l) (avs l)
 |[],_=>by simp only[avs];unfold dP;rfl
 |x::l,h=>by
  simp only[avs];unfold dP;exact⟨_,_,rfl,uV x (fun s hs=>h s (by simp only[pU];exact List.mem_append_left _ hs)),kG l (fun s hs=>h s (by simp only[pU];exact List.mem_append_right _ hs))⟩
end
def SOb.sites:SOb->List Nat
 | .box _ cs=>pU cs
 | .arr _ _ cs=>pU cs
 | .row .. =>[]
 | .fam _ _ _ _ ov=>ov.flatMap fun q=>q.2.sites
 | .mp _=>[]
theorem zO{ov:List (Nat×SV)}{i:Nat}{v:SV}(h:ov.lookup i=some v):(i,v)∈ov:=by
 induction ov with
 |nil=>cases h
 |cons q ov ih=>
  rw[List.lookup_cons]at h;split at h
  ·rename_i e;cases h;rw[beq_iff_eq.1 e];exact List.mem_cons_self
  ·exact List.mem_cons_of_mem _ (ih h)
theorem Ba{m:Rf}(o:SOb)(x:Nat)(hx:Xg m x)(h:∀s∈o.sites,Xg m s):xH m (o.ob x) (o.ob x):=by
 cases o with
 |box ty cs=>exact⟨rfl,rfl,kG cs h⟩
 |arr ty ez cs=>exact⟨rfl,rfl,kG cs h⟩
 |row ty t l=>exact⟨rfl,rfl,eX m _⟩
 |mp ks=>refine⟨rfl,rfl,?_⟩;show dP m (lO (nD ks)) (lO (nD ks));rw[lZ];exact eX m _
 |fam ty ity t L ov=>
  refine⟨rfl,rfl,qH _ _ _ fun i _=> ?_⟩
  unfold qB;split
  ·rename_i v hv;exact uV v fun s hs=>h s (List.mem_flatMap.2 ⟨(i,v),zO hv,hs⟩)
  ·unfold cX;exact .inl ⟨_,hx (i+1),rfl⟩
def Hn:SOb->SOb->Option (List Prop×Rm)
 | .box ty cs,.box ty' cs'=>(match Nat.beq ty ty' with|true=>Gq (eqv 3) cs cs'|false=>none)
 | .arr ty ez cs,.arr ty' ez' cs'=>(match Nat.beq ty ty',Nat.beq ez ez' with|true,true=>Gq (eqv 3) cs cs'|_,_=>none)
 | .row ty t l,.row ty' t' l'=>(match Nat.beq ty ty',decEq t' t with|true,.isTrue h=>some ([(h▸l':List t.ty)=l],[])|_,_=>none)
 | .mp ks,.mp ks'=>some ([ks'=ks],[])
 | .row ty t l,.arr ty' ez cs=>(match Nat.beq ty ty',Nat.beq ez t.w,t.decs (cs.length/t.w) cs with|true,true,some l'=>some ([l'=l],[])|_,_,_=>none)
 |_,_=>none
theorem Iy{m:Rf}{x y:SOb}{ps:List Prop}{r:Rm}(h:Hn x y=some (ps,r))(hp:∀p∈ps,p)(hm:jM m r)(k k':Nat):xH m (x.ob k) (y.ob k'):=by
 unfold Hn at h;split at h
 ·split at h
  ·rename_i e;exact⟨Nat.eq_of_beq_eq_true e,rfl,mO (uQ 3) h hp hm⟩
  ·cases h
 ·split at h
  ·rename_i e1 e2;exact⟨Nat.eq_of_beq_eq_true e1,Nat.eq_of_beq_eq_true e2,mO (uQ 3) h hp hm⟩
  ·cases h
 ·split at h<;>cases h;rename_i e2 e1 _;subst e2;have:=hp _ (List.mem_singleton.2 rfl);dsimp only at this;subst this;exact⟨Nat.eq_of_beq_eq_true e1,rfl,eX m _⟩
 ·cases h;have:=hp _ (List.mem_singleton.2 rfl);subst this;refine⟨rfl,rfl,?_⟩;show dP m (lO (nD _)) (lO (nD _));rw[lZ];exact eX m _
 ·split at h<;>cases h;rename_i l' e1 e2 e3;have:=hp _ (List.mem_singleton.2 rfl);subst this;obtain⟨_,e4⟩:=LT.uR e3;refine⟨Nat.eq_of_beq_eq_true e1,(Nat.eq_of_beq_eq_true e2).symm,?_⟩;show dP m ((LT.enc _ l').map .p) (avs _);rw[e4];exact eX m _
 ·cases h
end
end Go.Proofs.YtdaeofhdgabhjaaGreat
namespace Go.Proofs.YtdaeofhdgabhjaaGreat
open Go.RowKit
noncomputable section
def mem(l:List Nat)(s:Nat):Bool:=match l with
 |[] =>false
 |x::l=>(match Nat.beq s x with|true=>true|false=>mem l s)
theorem mem_iff(s:Nat):∀l:List Nat,mem l s=true↔s∈l
 |[] =>by simp[mem]
 |x::l=>by
  unfold mem;cases h:Nat.beq s x with
  |true=>simp[Nat.eq_of_beq_eq_true h]
  |false=>simp[Nat.ne_of_beq_eq_false h,mem_iff s l]
def jQ{α:Type}(p:α->Bool):List α->Bool
 |[] =>true
 |x::l=>(match p x with|true=>jQ p l|false=>false)
theorem dY{α:Type}{p:α->Bool}:∀{l:List α},jQ p l=true->∀x∈l,p x=true
 |[],_,x,hx=>by cases hx
 |y::l,h,x,hx=>by
  unfold jQ at h;cases hy:p y with
  |false=>rw[hy]at h;cases h
  |true=>
   rw[hy]at h;rcases List.mem_cons.1 hx with rfl|hx
   ·exact hy
   ·exact dY h x hx
def iR(rk:List Nat)(N0:Nat)(s:Nat):Bool:=match Nat.blt (ncl s) N0,mem rk s with
 |true,false=>true
 |_,_=>false
def sD(F:Frm)(rk:List Nat)(N0:Nat):Frm->List Nat
 |[] =>[]
 |(d,v)::r=>(match jQ (iR rk N0) v.sites with
  |true=>sD F rk N0 r
  |false=>(match jQ (iR rk N0) (F.at d).sites with
   |true=>sD F rk N0 r
   |false=>d::sD F rk N0 r))
def oZ(F:Frm)(upd:Frm)(hav:List Nat):Frm:=upd++(hav.map fun d=>(d,SV.any))++F
def kX(L:bM)(obs:List (Nat×SOb)):bM:=(obs.map fun q=>(q.1,some q.2))++L
def Mt(obs:List (Nat×SOb)):List Nat:=obs.map fun q=>q.1
def aK2(L:bM)(keys rk:List Nat)(N0:Nat):Bool:=jQ (fun(q:Nat×Option SOb)=>match mem keys q.1 with
 |true=>true
 |false=>(match L.at q.1 with
  |none=>true
  |some ob=>(match iR rk N0 q.1 with|true=>jQ (iR rk N0) ob.sites|false=>false))) L
def Xc(n:Nat)(F':Frm):Frm->Option (List Prop×Rm)
 |[] =>some ([],[])
 |(d,v)::r=>(match Nat.blt d n,v.ape,eqv 3 v (F'.at d),Xc n F' r with
  |true,false,some (p,m),some (q,k)=>some (p++q,m++k)
  |_,_,_,_=>none)
def Mw(rk:List Nat)(s o:Nat):SOb->SOb->Option (List Prop)
 | .fam ty ity t M [],.fam ty' ity' t' M' [] =>(match Nat.beq s o,mem rk s,Nat.beq ty ty',Nat.beq ity ity',decEq t' t with
   |true,false,true,true,.isTrue h=>some [(h▸M':List (List t.ty))=M]
   |_,_,_,_,_=>none)
 |_,_=>none
theorem Ox{rk:List Nat}{s o:Nat}{x y:SOb}{ps:List Prop}(h:Mw rk s o x y=some ps)(hp:∀p∈ps,p):s=o/\mem rk s=false/\x=y/\x.sites=[] :=by
 unfold Mw at h;split at h
 ·split at h<;>cases h;rename_i e h1 h2 h3 h4 _;subst e;have:=hp _ (List.mem_singleton.2 rfl);dsimp only at this;subst this;rw[Nat.eq_of_beq_eq_true h3,Nat.eq_of_beq_eq_true h4];exact⟨Nat.eq_of_beq_eq_true h1,h2,rfl,rfl⟩
 ·cases h
def Qv(L':bM)(rk:List Nat):List (Nat×SOb)->Rm->Option (List Prop×Rm)
 |[],mm=>some ([],mm)
 |(s,ob)::r,mm=>(match(match mem rk s with|true=>rP mm s|false=>some (some s))with
  |none=>none
  |some none=>(match ob with
   | .row _ _ l=>(match Qv L' rk r (mm++[(s,none)])with|some (q,k)=>some ((l=[])::q,k)|none=>none)
   |_=>none)
  |some (some o)=>(match L'.at o with
   |none=>none
   |some ob'=>(match Hn ob ob' with
    |none=>(match Mw rk s o ob ob' with
     |none=>none
     |some p=>(match Qv L' rk r (mm++[(s,some o)])with|some (q,k)=>some (p++q,k)|none=>none))
    |some (p,m2)=>(match Qv L' rk r (mm++(s,some o)::m2)with|some (q,k)=>some (p++q,k)|none=>none))))
def eqO:Option Nat->Option Nat->Bool
 |none,none=>true
 |some a,some b=>Nat.beq a b
 |_,_=>false
theorem Rv{a b:Option Nat}(h:eqO a b=true):a=b:=by
 cases a<;>cases b<;>first|rfl|(cases h;done)|(rw[Nat.eq_of_beq_eq_true h])
def isO:Option (Option Nat)->Option Nat->Bool
 |some a,b=>eqO a b
 |none,_=>false
def okM(rk:List Nat)(N0 N1:Nat)(mm:Rm):Bool:=jQ (fun(q:Nat×Option Nat)=>match isO (rP mm q.1) q.2,mem rk q.1 with
 |true,true=>(match Nat.blt (ncl q.1) N1,q.2 with
  |true,none=>true
  |true,some o=>(match(match Nat.blt (ncl o) N0 with|false=>true|true=>mem rk o)with
   |true=>jQ (fun(q2:Nat×Option Nat)=>match eqO q2.2 (some o)with|true=>Nat.beq q2.1 q.1|false=>true) mm
   |false=>false)
  |_,_=>false)
 |true,false=>(match iR rk N0 q.1 with|true=>eqO q.2 (some q.1)|false=>false)
 |_,_=>false) mm
def aK0(N0:Nat)(keys:List Nat)(pre:bM):Bool:=jQ (fun(q:Nat×Option SOb)=>match mem keys q.1 with
 |true=>true
 |false=>(match Nat.blt (ncl q.1) N0 with|true=>false|false=>true)) pre
def aLC(rk:List Nat)(N0:Nat)(mm:Rm):Nat->Option (Option Nat):=fun s=>match rP mm s with
 |some x=>some x
 |none=>(match iR rk N0 s with|true=>some (some s)|false=>none)
open Classical in
def qD(mn:Nat->Option (Option Nat))(st:Nat->Bool):Rf:=fun s=>if inn (nm s) (sub s)=s then(match sub s with
 |0=>(mn (nm s)).map (Option.map bD)
 |_+1=>(match st (nm s)with|true=>some (some s)|false=>none))else none
theorem wQ(mn:Nat->Option (Option Nat))(st:Nat->Bool)(x:Nat):qD mn st (bD x)=(mn x).map (Option.map bD):=by
 unfold qD bD;rw[qY,wH,if_pos rfl]
theorem In(mn:Nat->Option (Option Nat))(st:Nat->Bool)(x a:Nat):qD mn st (inn x (a+1))=(match st x with|true=>some (some (inn x (a+1)))|false=>none):=by
 unfold qD;rw[qY,wH,if_pos rfl]
theorem aB3(mn:Nat->Option (Option Nat))(st:Nat->Bool){s:Nat}(h:∀x a,s≠inn x a):qD mn st s=none:=by
 unfold qD;exact if_neg fun e=>h _ _ e.symm
def Uu(n:Nat)(L:bM)(N0 N1:Nat)(rk:List Nat)(upd:Frm)(obs:List (Nat×SOb))(F':Frm)(L':bM):Option (List Prop):=
 match Xc n F' upd with
 |none=>none
 |some (p,m1)=>(match Qv L' rk obs m1 with
  |none=>none
  |some (q,m2)=>(match okM rk N0 N1 m2,aK0 N0 (Mt obs) (L'.take (L'.length-L.length)),aK2 L (Mt obs) rk N0,Nat.ble N0 N1 with
   |true,true,true,true=>some (p++q)
   |_,_,_,_=>none))
theorem Ij{m:Rm}{s:Nat}{x:Option Nat}(h:rP m s=some x):(s,x)∈m:=by
 induction m with
 |nil=>cases h
 |cons q m ih=>
  obtain⟨a,b⟩:=q;unfold rP at h;split at h
  ·rename_i e;cases h;rw[Nat.eq_of_beq_eq_true e];exact List.mem_cons_self
  ·exact List.mem_cons_of_mem _ (ih h)
theorem Oy{n:Nat}{F':Frm}{m:Rf}:∀{upd:Frm} {ps:List Prop} {r:Rm},Xc n F' upd=some (ps,r)->(∀p∈ps,p)->jM m r->∀q∈upd,cX m q.2.av (F'.at q.1).av/\q.2.ok
 |[],ps,r,_,_,_,q,hq=>by cases hq
 |(d,v)::upd,ps,r,h,hp,hm,q,hq=>by
  unfold Xc at h;split at h<;>cases h;rename_i p1 m1 p2 m2 h1 h2 h3 h4;rcases List.mem_cons.1 hq with rfl|hq
  ·exact⟨uQ 3 _ _ _ _ h3 (fun a ha=>hp a (List.mem_append_left _ ha)) hm.left,SV.sP h2⟩
  ·exact Oy h4 (fun a ha=>hp a (List.mem_append_right _ ha)) hm.right q hq
theorem Fu{x y:SOb}{q:List Prop×Rm}(h:Hn x y=some q):x.flat=true:=by
 unfold Hn at h;cases x<;>first|rfl|(cases y<;>cases h)
theorem yC{L':bM}{rk:List Nat}{m:Rf}:∀{obs:List (Nat×SOb)} {mm:Rm} {ps:List Prop} {r:Rm},Qv L' rk obs mm=some (ps,r)->(∀p∈ps,p)->jM m r->
  (∃k,r=mm++k)/\∀q∈obs,(q.2.flat=true/\((∃y ob,m (bD q.1)=some (some (bD y))/\L'.at y=some ob/\xH m (q.2.ob q.1) (ob.ob y))\/(m (bD q.1)=some none/\(q.2.ob q.1).esz≠0/\(q.2.ob q.1).cells=[])))\/((q.1,some q.1)∈r/\mem rk q.1=false/\L'.at q.1=some q.2/\q.2.sites=[])
 |[],mm,ps,r,h,_,_=>by unfold Qv at h;cases h;exact⟨⟨[],by simp⟩,fun q hq=>by cases hq⟩
 |(s,ob)::obs,mm,ps,r,h,hp,hm=>by
  unfold Qv at h;split at h
  ·cases h
  ·rename_i hi;split at h
   ·rename_i ty t l;split at h<;>cases h;rename_i q k hk;obtain⟨⟨k',e⟩,h2⟩:=yC hk (fun a ha=>hp a (List.mem_cons_of_mem _ ha)) hm
    refine⟨⟨(s,none)::k',by rw[e];simp⟩,fun q hq=> ?_⟩
    rcases List.mem_cons.1 hq with rfl|hq
    ·have:m (bD s)=some none:=hm (s,none) (by rw[e];simp)
     have hl:l=[] :=hp _ List.mem_cons_self;subst hl;exact .inl ⟨rfl,.inr ⟨this,Nat.ne_of_gt t.oC,rfl⟩⟩
    ·exact h2 q hq
   ·cases h
  ·rename_i o hi;split at h
   ·cases h
   ·rename_i ob' hob;split at h
    ·split at h
     ·cases h
     ·rename_i p hfe;split at h<;>cases h;rename_i q k hk;obtain⟨⟨k',e⟩,h2⟩:=yC hk (fun a ha=>hp a (List.mem_append_right _ ha)) hm
      refine⟨⟨(s,some o)::k',by rw[e];simp⟩,fun q hq=> ?_⟩
      rcases List.mem_cons.1 hq with rfl|hq
      ·obtain⟨f1,f2,f3,f4⟩:=Ox hfe fun a ha=>hp a (List.mem_append_left _ ha)
       subst f1;subst f3;exact .inr ⟨by rw[e];simp,f2,hob,f4⟩
      ·exact h2 q hq
    ·rename_i p m2 he;split at h<;>cases h;rename_i q k hk;obtain⟨⟨k',e⟩,h2⟩:=yC hk (fun a ha=>hp a (List.mem_append_right _ ha)) hm
     refine⟨⟨(s,some o)::m2++k',by rw[e];simp⟩,fun q hq=> ?_⟩
     rcases List.mem_cons.1 hq with rfl|hq
     ·have:m (bD s)=some (some (bD o)):=hm (s,some o) (by rw[e];simp)
      refine .inl ⟨Fu he,.inl ⟨o,ob',this,hob,Iy he (fun a ha=>hp a (List.mem_append_left _ ha)) ?_ _ _⟩⟩
      intro q hq;exact hm q (by rw[e];simp[hq])
     ·exact h2 q hq
theorem yH{F:Frm}{rk:List Nat}{N0:Nat}{d:Nat}:∀{G:Frm},(∃v,(d,v)∈G/\jQ (iR rk N0) v.sites=false)->d∉sD F rk N0 G->jQ (iR rk N0) (F.at d).sites=true
 |[],⟨v,h,_⟩,_=>by cases h
 |(e,u)::G,⟨v,h,hv⟩,hn=>by
  unfold sD at hn;rcases List.mem_cons.1 h with h|h
  ·cases h;rw[hv]at hn;dsimp only at hn;split at hn
   ·rename_i he;exact he
   ·exact absurd List.mem_cons_self hn
  ·split at hn
   ·exact yH ⟨v,h,hv⟩ hn
   ·split at hn
    ·exact yH ⟨v,h,hv⟩ hn
    ·exact yH ⟨v,h,hv⟩ (fun hh=>hn (List.mem_cons_of_mem _ hh))
theorem aG3(F:Frm)(d:Nat):(F.at d)= .undef\/(d,F.at d)∈F:=by
 induction F with
 |nil=>exact .inl rfl
 |cons q F ih=>
  obtain⟨e,v⟩:=q;rw[Frm.jH];split
  ·rename_i h;subst h;exact .inr List.mem_cons_self
  ·rcases ih with h|h
   ·exact .inl h
   ·exact .inr (List.mem_cons_of_mem _ h)
theorem aDz{F:Frm}{rk:List Nat}{N0 d:Nat}(h:d∉sD F rk N0 F):jQ (iR rk N0) (F.at d).sites=true:=by
 rcases aG3 F d with e|e
 ·rw[e];rfl
 ·cases hb:jQ (iR rk N0) (F.at d).sites with
  |true=>rfl
  |false=>rw[<-hb];exact yH ⟨_,e,hb⟩ h
theorem Frm.jI(A B:Frm)(d:Nat):(Frm.at (A++B) d)=if d∈A.map (·.1)then A.at d else B.at d:=by
 induction A with
 |nil=>simp
 |cons q A ih=>
  obtain⟨e,v⟩:=q;rw[List.cons_append,Frm.jH,Frm.jH,ih];by_cases h:d=e
  ·subst h;simp
  ·rw[if_neg h,if_neg h];by_cases h2:d∈A.map (·.1)
   ·rw[if_pos h2,if_pos];rw[List.map_cons];exact List.mem_cons_of_mem _ h2
   ·rw[if_neg h2,if_neg];rw[List.map_cons,List.mem_cons];rintro(h3|h3)
    ·exact h h3
    ·exact h2 h3
theorem aBi(l:List Nat)(d:Nat):(Frm.at (l.map fun d=>(d,SV.any)) d)=if d∈l then .any else .undef:=by
 induction l with
 |nil=>rfl
 |cons e l ih=>
  rw[List.map_cons,Frm.jH,ih];by_cases h:d=e
  ·subst h;simp
  ·simp[h]
theorem Ho{F:Frm}{d:Nat}(h:d∈F.map (·.1)):(d,F.at d)∈F:=by
 induction F with
 |nil=>cases h
 |cons q F ih=>
  obtain⟨e,v⟩:=q;rw[Frm.jH];split
  ·rename_i he;subst he;exact List.mem_cons_self
  ·rename_i he;rw[List.map_cons]at h;rcases List.mem_cons.1 h with h|h
   ·exact absurd h he
   ·exact List.mem_cons_of_mem _ (ih h)
theorem bM.jI(A B:bM)(s:Nat):(bM.at (A++B) s)=if s∈A.map (·.1)then A.at s else B.at s:=by
 induction A with
 |nil=>simp
 |cons q A ih=>
  obtain⟨e,v⟩:=q;rw[List.cons_append];show(match Nat.beq s e with|true=>v|false=>bM.at (A++B) s)=if _ then(match Nat.beq s e with|true=>v|false=>bM.at A s)else _
  cases h:Nat.beq s e with
  |true=>have:=Nat.eq_of_beq_eq_true h;subst this;simp
  |false=>
   have:=Nat.ne_of_beq_eq_false h;dsimp only;rw[ih];by_cases h2:s∈A.map (·.1)
   ·rw[if_pos h2,if_pos];rw[List.map_cons];exact List.mem_cons_of_mem _ h2
   ·rw[if_neg h2,if_neg];rw[List.map_cons,List.mem_cons];rintro(h3|h3)
    ·exact this h3
    ·exact h2 h3
theorem bM.Ho{L:bM}{s:Nat}{ob:SOb}(h:L.at s=some ob):(s,some ob)∈L:=by
 induction L with
 |nil=>cases h
 |cons q L ih=>
  obtain⟨e,v⟩:=q;change (match Nat.beq s e with|true=>v|false=>bM.at L s)=some ob at h
  cases hb:Nat.beq s e with
  |true=>rw[hb]at h;have:=Nat.eq_of_beq_eq_true hb;subst this;cases h;exact List.mem_cons_self
  |false=>rw[hb]at h;exact List.mem_cons_of_mem _ (ih h)
theorem Vd{x:Nat}:∀{obs:List (Nat×SOb)},x∈obs.map (·.1)->∃q∈obs,q.1=x/\bM.at (obs.map fun q=>(q.1,some q.2)) x=some q.2
 |[],h=>(List.not_mem_nil h).elim
 |q::obs,h=>by
  show∃q'∈q::obs,q'.1=x/\(match Nat.beq x q.1 with|true=>some q.2|false=>bM.at (obs.map fun q=>(q.1,some q.2)) x)=some q'.2
  cases hb:Nat.beq x q.1 with
  |true=>exact⟨q,List.mem_cons_self,(Nat.eq_of_beq_eq_true hb).symm,rfl⟩
  |false=>
   rcases List.mem_cons.1 h with h|h
   ·exact absurd h (Nat.ne_of_beq_eq_false hb)
   ·obtain⟨q',h1,h2,h3⟩:=Vd h;exact⟨q',List.mem_cons_of_mem _ h1,h2,h3⟩
theorem Fl{m:Rf}{o':SOb}{a:Nat}{ob':Ob}(hs:o'.inner a=some ob'):xH m ob' ob':=by
 cases o' with
 |fam ty ity t LL ov=>
  change (match ov.lookup a with|some _=>none|none=>(LL[a]?).map fun l=>(⟨ity,t.w,(t.enc l).map .p⟩:Ob))=some ob' at hs
  split at hs
  ·cases hs
  ·cases hL2:LL[a]? with
   |none=>rw[hL2]at hs;cases hs
   |some l=>rw[hL2]at hs;cases hs;exact⟨rfl,rfl,eX _ _⟩
 |_=>cases hs
theorem Ih{n:Nat}{F F' upd:Frm}{L L':bM}{N0 N1 N':Nat}{obs:List (Nat×SOb)}{hav:List Nat}{ps:List Prop}{rk:List Nat}(h:Uu n L N0 N1 rk upd obs F' L'=some ps)(hp:∀p∈ps,p)
  (hF:Pre (fun d=>d∈hav) F F') (hbad:∀d∈sD F rk N0 F,d∈hav) (hL:nF L L'):
  lP (F'.av n) L'.fn N' ((oZ F upd hav).av n) (kX L obs).fn N1:=by
 unfold Uu at h;split at h
 ·cases h
 rename_i p1 m1 h1;split at h
 ·cases h
 rename_i p2 mm h2;split at h<;>cases h;rename_i h3 h4 h5 h6
 let mn:Nat->Option (Option Nat):=aLC rk N0 mm
 let m:Rf:=qD mn (iR rk N0)
 have hokM:∀s x,(s,x)∈mm->rP mm s=some x/\((mem rk s=true/\ncl s<N1/\∀o,x=some o->(ncl o<N0->mem rk o=true)/\∀s',(s',some o)∈mm->s'=s)\/(mem rk s=false/\ncl s<N0/\x=some s)):=by
  intro s x hs;have:=dY h3 (s,x) hs;dsimp only at this;split at this
  ·rename_i e1 e2;refine⟨?_,.inl ⟨e2,?_⟩⟩
   ·unfold isO at e1;split at e1
    ·rename_i heq;rw[heq,Rv e1]
    ·cases e1
   ·split at this
    ·rename_i e3;exact⟨(fU _ _).1 e3,fun o ho=>by cases ho⟩
    ·rename_i o e3;refine⟨(fU _ _).1 e3,fun o' ho=> ?_⟩
     cases ho;split at this
     ·rename_i e4;refine⟨fun hlt=> ?_,fun s' hs'=> ?_⟩
      ·rw[(fU _ _).2 hlt]at e4;exact e4
      ·have:=dY this (s',some o) hs';dsimp only at this;rw[show eqO (some o) (some o)=true from Nat.beq_refl o]at this
       exact Nat.eq_of_beq_eq_true this
     ·cases this
    ·cases this
  ·rename_i e1 e2;split at this
   ·rename_i e3;refine⟨?_,.inr ⟨e2,?_,Rv this⟩⟩
    ·unfold isO at e1;split at e1
     ·rename_i heq;rw[heq,Rv e1]
     ·cases e1
    ·unfold iR at e3;split at e3
     ·rename_i e4 _;exact(fU _ _).1 e4
     ·cases e3
   ·cases this
  ·cases this
 have hstay:∀s,iR rk N0 s=true->mn s=some (some s)/\ncl s<N0/\mem rk s=false:=by
  intro s hs;have:ncl s<N0/\mem rk s=false:=by
   unfold iR at hs;split at hs
   ·rename_i e1 e2;exact⟨(fU _ _).1 e1,e2⟩
   ·cases hs
  refine⟨?_,this⟩;show(match rP mm s with|some x=>some x|none=>_)=_
  cases hl:rP mm s with
  |some x=>
   rcases(hokM s x (Ij hl)).2 with⟨e,_⟩|⟨_,_,e⟩
   ·rw[this.2]at e;cases e
   ·rw[e]
  |none=>dsimp only;rw[hs]
 have hm:∀s x,mn s=some x->(s,x)∈mm\/(iR rk N0 s=true/\x=some s):=by
  intro s x hs;change (match rP mm s with|some x=>some x|none=>(match iR rk N0 s with|true=>some (some s)|false=>none))=some x at hs
  cases hl:rP mm s with
  |some y=>rw[hl]at hs;cases hs;exact .inl (Ij hl)
  |none=>
   rw[hl]at hs;dsimp only at hs;split at hs
   ·rename_i e;cases hs;exact .inr ⟨e,rfl⟩
   ·cases hs
 have hag:jM m mm:=by
  intro q hq;have:=(hokM q.1 q.2 hq).1;have e:mn q.1=some q.2:=by
   show(match rP mm q.1 with|some x=>some x|none=>_)=_
   rw[this]
  show qD mn (iR rk N0) (bD q.1)=_;rw[wQ,e];rfl
 have hst:∀s,iR rk N0 s=true->Xg m s:=by
  intro s hs a;cases a with
  |zero=>show qD mn _ (bD s)=_;rw[wQ,(hstay s hs).1];rfl
  |succ a=>show qD mn _ (inn s (a+1))=_;rw[In,hs]
 have hcase:∀s x,m s=some x->(∃y z,s=bD y/\mn y=some z/\x=z.map bD)\/(∃y a,s=inn y (a+1)/\iR rk N0 y=true/\x=some s):=by
  intro s x hs;rcases eL s with⟨y,rfl⟩|⟨y,a,rfl⟩|hno
  ·change qD mn _ (bD y)=some x at hs;rw[wQ]at hs;cases hy:mn y with
   |none=>rw[hy]at hs;cases hs
   |some z=>rw[hy]at hs;cases hs;exact .inl ⟨y,z,rfl,hy,rfl⟩
  ·change qD mn _ (inn y (a+1))=some x at hs;rw[In]at hs;split at hs
   ·rename_i h;cases hs;exact .inr ⟨y,a,rfl,h,rfl⟩
   ·cases hs
  ·change qD mn _ s=some x at hs;rw[aB3 _ _ hno]at hs;cases hs
 have hlt:∀s x,mn s=some x->ncl s<N1:=by
  intro s x hs;rcases hm s x hs with h|⟨h,_⟩
  ·rcases(hokM s x h).2 with⟨_,e,_⟩|⟨_,e,_⟩
   ·exact e
   ·have:=Nat.le_of_ble_eq_true h6;omega
  ·have:=(hstay s h).2.1;have:=Nat.le_of_ble_eq_true h6;omega
 obtain⟨⟨k,hk⟩,hobs⟩:=yC h2 (fun a ha=>hp a (List.mem_append_right _ ha)) hag
 have hfst:∀y,(y,some y)∈mm->mem rk y=false->iR rk N0 y=true:=by
  intro y hy hr;rcases(hokM y _ hy).2 with⟨e,_⟩|⟨_,e,_⟩
  ·rw[hr]at e;cases e
  ·unfold iR;rw[(fU _ _).2 e,hr]
 have hag1:jM m m1:=fun q hq=>hag q (by rw[hk];exact List.mem_append_left _ hq)
 have hupd:=Oy h1 (fun a ha=>hp a (List.mem_append_left _ ha)) hag1
 have h6':=Nat.le_of_ble_eq_true h6;refine Vb m ?_ ?_ (by rw[Frm.eH,Frm.eH]) ?_ ?_
 ·intro s x hs;rcases hcase s x hs with⟨y,z,rfl,h,_⟩|⟨y,a,rfl,h,_⟩
  ·rw[show cls (bD y)=ncl y from dT y 0];exact hlt y z h
  ·rw[dT];have:=(hstay y h).2.1;omega
 ·intro s s' o hs hs';have inj:∀s s' o,mn s=some (some o)->mn s'=some (some o)->s=s':=by
   intro s s' o hs hs';rcases hm s (some o) hs with h|⟨h,e⟩
   ·rcases(hokM s _ h).2 with⟨e1,e2,e3⟩|⟨e1,e2,e3⟩
    ·obtain⟨e4,e5⟩:=e3 o rfl;rcases hm s' (some o) hs' with h'|⟨h',e'⟩
     ·exact(e5 s' h').symm
     ·have e':=Option.some.inj e';obtain⟨_,e6,e7⟩:=hstay s' h';rw[<-e',e4 (by rw[e'];exact e6)]at e7;cases e7
    ·have e3:=Option.some.inj e3;rcases hm s' (some o) hs' with h'|⟨h',e'⟩
     ·rcases(hokM s' _ h').2 with⟨g1,g2,g3⟩|⟨g1,g2,g3⟩
      ·exact(g3 o rfl).2 s h
      ·have:=Option.some.inj g3;omega
     ·have:=Option.some.inj e';omega
   ·have e:=Option.some.inj e;rcases hm s' (some o) hs' with h'|⟨h',e'⟩
    ·rcases(hokM s' _ h').2 with⟨g1,g2,g3⟩|⟨g1,g2,g3⟩
     ·obtain⟨_,e6,e7⟩:=hstay s h;rw[<-e,(g3 o rfl).1 (by rw[e];exact e6)]at e7;cases e7
     ·have:=Option.some.inj g3;omega
    ·have:=Option.some.inj e';omega
  rcases hcase s _ hs with⟨y,z,rfl,h,e⟩|⟨y,a,rfl,h,e⟩
  ·rcases hcase s' _ hs' with⟨y',z',rfl,h',e'⟩|⟨y',a',rfl,h',e'⟩
   ·cases z with
    |none=>cases e
    |some z=>
     cases z' with
     |none=>cases e'
     |some z'=>
      have e:=Option.some.inj e;have e':=Option.some.inj e';have:z=z':=gW (e.symm.trans e');subst this;rw[inj y y' z h h']
   ·cases z with
    |none=>cases e
    |some z=>
     have e:=Option.some.inj e;have e':=Option.some.inj e';have:=(dO (e.symm.trans e')).2;omega
  ·rcases hcase s' _ hs' with⟨y',z',rfl,h',e'⟩|⟨y',a',rfl,h',e'⟩
   ·cases z' with
    |none=>cases e'
    |some z'=>
     have e:=Option.some.inj e;have e':=Option.some.inj e';have:=(dO (e'.symm.trans e)).2;omega
   ·exact(Option.some.inj e).symm.trans (Option.some.inj e')
 ·intro t ht;rw[Frm.eH]at ht;rw[Frm.jZ ht,Frm.jZ ht];unfold oZ;rw[Frm.jI,Frm.jI];split
  ·rename_i hin;split
   ·rename_i hu;exact(hupd _ (Ho hu)).1
   ·rw[aBi];split
    ·simp only[SV.av];unfold cX;trivial
    ·rename_i hu hh;rw[List.map_append]at hin;rcases List.mem_append.1 hin with h|h
     ·exact absurd h hu
     ·simp only[List.map_map,List.mem_map,Function.comp_apply]at h;obtain⟨a,ha,e⟩:=h;exact absurd (e▸ha) hh
  ·rename_i hin;have hh:t∉hav:=fun hh=>hin (by
    rw[List.map_append];refine List.mem_append_right _ ?_;simp only[List.map_map,List.mem_map,Function.comp_apply];exact⟨t,hh,rfl⟩)
   have hgood:=aDz (fun hb=>hh (hbad t hb))
   obtain⟨pre,e,hpre⟩:=hF;have:Frm.at F' t=Frm.at F t:=by
    rw[e,Frm.jI,if_neg];intro h;simp only[List.mem_map]at h;obtain⟨q,hq,e⟩:=h;exact hh (e▸hpre q hq)
   rw[this];exact uV _ fun s hs=>hst s (dY hgood s hs)
 ·intro s ob' hs;have kept:∀x o',x∉(obs.map fun q=>(q.1,some q.2)).map (·.1)->(kX L obs).at x=some o'->iR rk N0 x=true/\jQ (iR rk N0) o'.sites=true/\L'.at x=some o':=by
   intro x o' hnk ho;unfold kX at ho;rw[bM.jI,if_neg hnk]at ho;have hnk':mem (Mt obs) x=false:=by
    cases hb:mem (Mt obs) x with
    |false=>rfl
    |true=>
     exfalso;apply hnk;have:=(mem_iff _ _).1 hb;unfold Mt at this;simpa[List.map_map]using this
   have:=dY h5 _ (bM.Ho ho);dsimp only at this;rw[hnk',ho]at this;dsimp only at this;split at this
   ·rename_i hst;refine⟨hst,this,?_⟩;obtain⟨pre,e⟩:=hL;rw[e,bM.jI,if_neg,ho];intro hin;have h4':=h4;rw[e]at h4';rw[show(pre++L).length-L.length=pre.length by simp,List.take_left]at h4'
    simp only[List.mem_map]at hin;obtain⟨q,hq,e2⟩:=hin;have:=dY h4' q hq;rw[e2,hnk']at this;rw[(fU _ _).2 (hstay x hst).2.1]at this;cases this
   ·cases this
  have told:∀x,x∈(obs.map fun q=>(q.1,some q.2)).map (·.1)->∃q∈obs,q.1=x/\(kX L obs).at x=some q.2:=by
   intro x hk;have e:(kX L obs).at x=bM.at (obs.map fun q=>(q.1,some q.2)) x:=by unfold kX;rw[bM.jI,if_pos hk]
   rw[e];exact Vd (by simpa[List.map_map]using hk)
  rcases eL s with⟨x,rfl⟩|⟨x,a,rfl⟩|hno
  ·change Sg.a (kX L obs).at (bD x)=some ob' at hs;rw[Sg.cL]at hs;by_cases hk:x∈(obs.map fun q=>(q.1,some q.2)).map (·.1)
   ·obtain⟨q,hq,rfl,ho⟩:=told x hk;rw[ho]at hs;cases hs;rcases hobs q hq with⟨_,⟨y,ob,g1,g2,g3⟩|⟨g1,g2,g3⟩⟩|⟨g1,g2,g3,g4⟩
    ·rw[g1];exact⟨ob.ob y,by show Sg.a L'.at (bD y)=_;rw[Sg.cL,g2];rfl,g3⟩
    ·rw[g1];exact⟨g2,g3⟩
    ·have hq':=hfst q.1 g1 g2;rw[show m (bD q.1)=some (some (bD q.1))from hst q.1 hq' 0]
     exact⟨q.2.ob q.1,by show Sg.a L'.at (bD q.1)=_;rw[Sg.cL,g3];rfl,Ba _ q.1 (hst q.1 hq') fun s hs=>by rw[g4]at hs;cases hs⟩
   ·cases ho:(kX L obs).at x with
    |none=>rw[ho]at hs;cases hs
    |some o'=>
     rw[ho]at hs;cases hs;obtain⟨k1,k2,k3⟩:=kept x o' hk ho;rw[show m (bD x)=some (some (bD x))from hst x k1 0]
     exact⟨o'.ob x,by show Sg.a L'.at (bD x)=_;rw[Sg.cL,k3];rfl,Ba _ x (hst x k1) fun s hs=>hst s (dY k2 s hs)⟩
  ·change Sg.a (kX L obs).at (inn x (a+1))=some ob' at hs;rw[Sg.gK]at hs;by_cases hk:x∈(obs.map fun q=>(q.1,some q.2)).map (·.1)
   ·obtain⟨q,hq,rfl,ho⟩:=told x hk;rw[ho]at hs;rcases hobs q hq with⟨hfl,_⟩|⟨g1,g2,g3,g4⟩
    ·have:=SOb.rH hfl a;change q.2.inner a=some ob' at hs;rw[this]at hs;cases hs
    ·have hq':=hfst q.1 g1 g2;rw[show m (inn q.1 (a+1))=some (some (inn q.1 (a+1)))from hst q.1 hq' (a+1)]
     exact⟨ob',by show Sg.a L'.at (inn q.1 (a+1))=_;rw[Sg.gK,g3];exact hs,Fl hs⟩
   ·cases ho:(kX L obs).at x with
    |none=>rw[ho]at hs;cases hs
    |some o'=>
     rw[ho]at hs;obtain⟨k1,k2,k3⟩:=kept x o' hk ho;rw[show m (inn x (a+1))=some (some (inn x (a+1)))from hst x k1 (a+1)]
     exact⟨ob',by show Sg.a L'.at (inn x (a+1))=_;rw[Sg.gK,k3];exact hs,Fl hs⟩
  ·change Sg.a (kX L obs).at s=some ob' at hs;rw[Sg.sF _ hno]at hs;cases hs
end
end Go.Proofs.YtdaeofhdgabhjaaGreat
namespace Go.Proofs.YtdaeofhdgabhjaaGreat
open Go.RowKit
noncomputable section
def Mu(N x s z:Nat):Bool:=match Nat.blt (ncl z) N,Nat.beq z s,Nat.beq z x with
 |true,false,false=>true
 |_,_,_=>false
def Dc(N x s:Nat)(v:SV):Bool:=match v with
 | .owF y _=>(match Nat.blt (ncl y) N,Nat.beq y s with|true,false=>true|_,_=>false)
 |v=>jQ (Mu N x s) v.sites
def rQ(N x s:Nat)(v:SV):Bool:=match v with
 | .agg l=>jQ (Dc N x s) l
 |v=>Dc N x s v
def Jz(N x s y:Nat)(ob:SOb):Bool:=match Mu N x s y with
 |true=>(match ob with
  | .box _ cs=>jQ (rQ N x s) cs
  | .arr _ _ cs=>jQ (rQ N x s) cs
  | .row .. =>true
  | .mp _=>true
  | .fam _ _ _ _ ov=>jQ (fun q:Nat×SV=>rQ N x s q.2) ov)
 |false=>false
open Classical in
def oF(N x a s:Nat):Rf:=fun t=>if cls t<N then(if t=inn x (a+1)then some (some (bD s))else if t=bD s then none else some (some t))else none
theorem vG{N x s z:Nat}(h:Mu N x s z=true):ncl z<N/\z≠s/\z≠x:=by
 unfold Mu at h;split at h
 ·rename_i h1 h2 h3;exact⟨(fU _ _).1 h1,Nat.ne_of_beq_eq_false h2,Nat.ne_of_beq_eq_false h3⟩
 ·cases h
theorem Nf{N x a s t:Nat}(h1:cls t<N)(h2:t≠inn x (a+1))(h3:t≠bD s):oF N x a s t=some (some t):=by
 unfold oF;rw[if_pos h1,if_neg h2,if_neg h3]
theorem rB{N x a s z:Nat}(h1:ncl z<N)(h2:z≠s):oF N x a s (bD z)=some (some (bD z)):=
 Nf (by rw[show cls (bD z)=ncl z from dT z 0];exact h1) (fun e=>by have:=(dO e).2;omega) (fun e=>h2 (gW e))
theorem qM{N x a s z b:Nat}(h1:ncl z<N)(h2:z=x->b≠a):oF N x a s (inn z (b+1))=some (some (inn z (b+1))):=
 Nf (by rw[dT];exact h1) (fun e=>h2 (dO e).1 (by have:=(dO e).2;omega)) (fun e=>by have:=(dO e).2;omega)
theorem Td{N x a s z:Nat}(h:Mu N x s z=true):Xg (oF N x a s) z:=by
 obtain⟨h1,h2,h3⟩:=vG h;intro b;cases b with
 |zero=>exact rB h1 h2
 |succ b=>exact qM h1 fun e=>absurd e h3
theorem Fk{N x a s:Nat}{v:SV}(h:Dc N x s v=true):cX (oF N x a s) v.av v.av:=by
 unfold Dc at h;split at h
 ·rename_i y n;split at h
  ·rename_i h1 h2;show cX _ (.own (bD y) 0 n) (.own (bD y) 0 n);unfold cX;exact .inl ⟨_,rB ((fU _ _).1 h1) (Nat.ne_of_beq_eq_false h2),rfl⟩
  ·cases h
 ·exact uV v fun z hz=>Td (dY h z hz)
theorem Bg{N x a s:Nat}:∀{cs:List SV},(∀v∈cs,Dc N x s v=true)->dP (oF N x a s) (avs cs) (avs cs)
 |[],_=>by unfold dP;rfl
 |v::cs,h=>by
  rw[avs];unfold dP;exact⟨_,_,rfl,Fk (h v List.mem_cons_self),Bg fun u hu=>h u (List.mem_cons_of_mem _ hu)⟩
theorem vH{N x a s:Nat}{v:SV}(h:rQ N x s v=true):cX (oF N x a s) v.av v.av:=by
 unfold rQ at h;split at h
 ·rename_i l;exact uZ (Bg (dY h))
 ·exact Fk h
theorem wU{N x a s:Nat}:∀{cs:List SV},(∀v∈cs,rQ N x s v=true)->dP (oF N x a s) (avs cs) (avs cs)
 |[],_=>by unfold dP;rfl
 |v::cs,h=>by
  rw[avs];unfold dP;exact⟨_,_,rfl,vH (h v List.mem_cons_self),wU fun u hu=>h u (List.mem_cons_of_mem _ hu)⟩
theorem Wx(F:Frm)(t:Nat):∀hav:List Nat,Frm.at ((hav.map fun d=>(d,SV.any))++F) t=SV.any\/(t∉hav/\Frm.at ((hav.map fun d=>(d,SV.any))++F) t=F.at t)
 |[] => .inr ⟨List.not_mem_nil,rfl⟩
 |d::hav=>by
  rw[List.map_cons,List.cons_append,Frm.jH];by_cases h:t=d
  ·rw[if_pos h];exact .inl rfl
  ·rw[if_neg h];rcases Wx F t hav with h1|⟨h1,h2⟩
   ·exact .inl h1
   ·exact .inr ⟨fun hm=>(List.mem_cons.1 hm).elim h h1,h2⟩
theorem mE{a i:Nat}(h:i≠a):∀ov:List (Nat×SV),(ov.filter fun q=> !(Nat.beq q.1 a)).lookup i=ov.lookup i
 |[] =>rfl
 |q::ov=>by
  rw[List.filter_cons,List.lookup_cons];cases hq:Nat.beq q.1 a with
  |true=>
   have:=Nat.eq_of_beq_eq_true hq;rw[if_neg (by simp),mE h ov,beq_eq_false_iff_ne.2 (by rw[this];exact h)]
  |false=>
   rw[if_pos (by simp),List.lookup_cons,mE h ov]
theorem iB{a:Nat}:∀ov:List (Nat×SV),(ov.filter fun q=> !(Nat.beq q.1 a)).lookup a=none
 |[] =>rfl
 |q::ov=>by
  rw[List.filter_cons];cases hq:Nat.beq q.1 a with
  |true=>rw[if_neg (by simp)];exact iB ov
  |false=>rw[if_pos (by simp),List.lookup_cons,beq_eq_false_iff_ne.2 (fun e=>Nat.ne_of_beq_eq_false hq e.symm)];exact iB ov
theorem Xk{n N0 N x a s k:Nat}{F:Frm}{L:bM}{ty ity:TypeId}{lt:LT}{M:List (List lt.ty)}{l:List lt.ty}{ov:List (Nat×SV)}{hav:List Nat}
  (hx:L.at x=some (.fam ty ity lt M ((a,.own s lt k)::ov))) (hs:L.at s=some (.row ity lt l)) (ha:a<M.length) (hk:k=l.length) (hxN:ncl x<N)
  (hov:∀q∈ov,q.1≠a->rQ N x s q.2=true) (hF:∀t,t<n->t∈hav\/rQ N x s (F.at t)=true) (hL:∀y ob,L.at y=some ob->y=x\/y=s\/Jz N x s y ob=true):
  lP (F.av n) L.fn N0 (Frm.av n ((hav.map fun d=>(d,SV.any))++F)) (bM.fn ((x,some (.fam ty ity lt (M.set a l) (ov.filter fun q=> !(Nat.beq q.1 a))))::(s,none)::L)) N:=by
 have hxs:x≠s:=fun e=>by rw[e,hs]at hx;cases hx
 refine Vb (oF N x a s) ?_ ?_ (by rw[Frm.eH,Frm.eH]) ?_ ?_
 ·intro t y ht;unfold oF at ht;by_cases h:cls t<N
  ·exact h
  ·rw[if_neg h]at ht;cases ht
 ·intro t t' o ht ht';unfold oF at ht ht';split at ht
  case isFalse=>cases ht
  split at ht'
  case isFalse=>cases ht'
  split at ht
  ·rename_i e;split at ht'
   ·rename_i e';rw[e,e']
   ·split at ht'
    ·cases ht'
    ·rename_i e';have e1:=Option.some.inj (Option.some.inj ht);have e2:=Option.some.inj (Option.some.inj ht');exact absurd (e2.trans e1.symm) e'
  ·split at ht
   ·cases ht
   ·rename_i e;split at ht'
    ·have e1:=Option.some.inj (Option.some.inj ht);have e2:=Option.some.inj (Option.some.inj ht');exact absurd (e1.trans e2.symm) e
    ·split at ht'
     ·cases ht'
     ·exact(Option.some.inj (Option.some.inj ht)).trans (Option.some.inj (Option.some.inj ht')).symm
 ·intro t ht;rw[Frm.eH]at ht;rw[Frm.jZ ht,Frm.jZ ht];rcases Wx F t hav with h|⟨h1,h2⟩
  ·rw[h];show cX _ .any _;unfold cX;trivial
  ·rw[h2];exact vH ((hF t ht).resolve_left h1)
 ·intro t ob' ht;have hat:∀y,bM.at ((x,some (.fam ty ity lt (M.set a l) (ov.filter fun q=> !(Nat.beq q.1 a))))::(s,none)::L) y=if y=x then some (.fam ty ity lt (M.set a l) (ov.filter fun q=> !(Nat.beq q.1 a)))else if y=s then none else L.at y:=by
   intro y;show(match Nat.beq y x with|true=>_|false=>(match Nat.beq y s with|true=>_|false=>_))=_
   cases h1:Nat.beq y x with
   |true=>rw[if_pos (Nat.eq_of_beq_eq_true h1)]
   |false=>
    rw[if_neg (Nat.ne_of_beq_eq_false h1)];cases h2:Nat.beq y s with
    |true=>rw[if_pos (Nat.eq_of_beq_eq_true h2)]
    |false=>rw[if_neg (Nat.ne_of_beq_eq_false h2)]
  have hset:∀i,i≠a->(M.set a l).getD i [] =M.getD i [] :=fun i hi=>by
   rw[List.getD_eq_getElem?_getD,List.getD_eq_getElem?_getD,List.getElem?_set_ne (Ne.symm hi)]
  have hseta:(M.set a l).getD a [] =l:=by
   rw[List.getD_eq_getElem?_getD,List.getElem?_set_self ha];rfl
  have hcons:∀i,i≠a->List.lookup i ((a,SV.own s lt k)::ov)=ov.lookup i:=fun i hi=>by
   rw[List.lookup_cons,beq_eq_false_iff_ne.2 hi]
  rcases eL t with⟨y,rfl⟩|⟨y,b,rfl⟩|hno
  ·change Sg.a _ (bD y)=some ob' at ht;rw[Sg.cL,hat y]at ht;by_cases hyx:y=x
   ·subst hyx;rw[if_pos rfl]at ht;have ht:=Option.some.inj ht;rw[rB hxN hxs];refine⟨_,by show Sg.a L.at (bD y)=_;rw[Sg.cL,hx];rfl,?_⟩
    rw[<-ht];refine⟨rfl,rfl,?_⟩;show dP _ ((List.range (M.set a l).length).map (qB y (M.set a l) (ov.filter fun q=> !(Nat.beq q.1 a)))) ((List.range M.length).map (qB y M ((a,.own s lt k)::ov)))
    rw[List.length_set];refine qH _ _ _ fun i _=> ?_
    unfold qB;by_cases hi:i=a
    ·subst hi;rw[iB,List.lookup_cons,beq_iff_eq.2 rfl,hseta];show cX _ (.own (inn y (i+1)) 0 l.length) (.own (bD s) 0 k);unfold cX;refine .inl ⟨bD s,?_,by rw[hk]⟩
     unfold oF;rw[if_pos (by rw[dT];exact hxN),if_pos rfl]
    ·rw[mE hi,hcons i hi,hset i hi];cases ho:ov.lookup i with
     |some v=>exact vH (hov (i,v) (zO ho) hi)
     |none=>
      show cX _ (.own (inn y (i+1)) 0 _) _;unfold cX;exact .inl ⟨_,qM hxN fun _=>hi,rfl⟩
   ·rw[if_neg hyx]at ht;by_cases hys:y=s
    ·rw[if_pos hys]at ht;cases ht
    ·rw[if_neg hys]at ht;cases ho:L.at y with
     |none=>rw[ho]at ht;cases ht
     |some ob=>
      rw[ho]at ht;have ht:=Option.some.inj ht;have hk':=((hL y ob ho).resolve_left hyx).resolve_left hys;unfold Jz at hk';split at hk'
      case h_2=>cases hk'
      rename_i hz;rw[rB (vG hz).1 hys];refine⟨_,by show Sg.a L.at (bD y)=_;rw[Sg.cL,ho];rfl,?_⟩
      rw[<-ht];split at hk'
      ·exact⟨rfl,rfl,wU (dY hk')⟩
      ·exact⟨rfl,rfl,wU (dY hk')⟩
      ·exact⟨rfl,rfl,eX _ _⟩
      ·refine⟨rfl,rfl,?_⟩;show dP _ (lO (nD _)) (lO (nD _));rw[lZ];exact eX _ _
      ·rename_i ov';refine⟨rfl,rfl,qH _ _ _ fun i _=> ?_⟩
       unfold qB;split
       ·rename_i v hv;exact vH (dY hk' (i,v) (zO hv))
       ·unfold cX;exact .inl ⟨_,qM (vG hz).1 fun e=>absurd e hyx,rfl⟩
  ·change Sg.a _ (inn y (b+1))=some ob' at ht;rw[Sg.gK,hat y]at ht;by_cases hyx:y=x
   ·subst hyx;rw[if_pos rfl]at ht;change (match List.lookup b (ov.filter fun q=> !(Nat.beq q.1 a))with|some _=>none|none=>((M.set a l)[b]?).map fun l=>(⟨ity,lt.w,(lt.enc l).map .p⟩:Ob))=some ob' at ht
    by_cases hb:b=a
    ·subst hb;rw[iB,List.getElem?_set_self ha]at ht;have ht:=Option.some.inj ht;have hm:oF N y b s (inn y (b+1))=some (some (bD s)):=by
      unfold oF;rw[if_pos (by rw[dT];exact hxN),if_pos rfl]
     rw[hm];refine⟨_,by show Sg.a L.at (bD s)=_;rw[Sg.cL,hs];rfl,?_⟩
     rw[<-ht];exact⟨rfl,rfl,eX _ _⟩
    ·rw[mE hb,List.getElem?_set_ne (Ne.symm hb)]at ht;rw[qM hxN fun _=>hb]
     refine⟨ob',?_,?_⟩
     ·show Sg.a L.at (inn y (b+1))=_;rw[Sg.gK,hx];show(match List.lookup b ((a,SV.own s lt k)::ov)with|some _=>none|none=>(M[b]?).map fun l=>(⟨ity,lt.w,(lt.enc l).map .p⟩:Ob))=_
      rw[hcons b hb];exact ht
     ·split at ht
      ·cases ht
      ·cases hM:M[b]? with
       |none=>rw[hM]at ht;cases ht
       |some l'=>
        rw[hM]at ht;rw[<-Option.some.inj ht];exact⟨rfl,rfl,eX _ _⟩
   ·rw[if_neg hyx]at ht;by_cases hys:y=s
    ·rw[if_pos hys]at ht;cases ht
    ·rw[if_neg hys]at ht;cases ho:L.at y with
     |none=>rw[ho]at ht;cases ht
     |some ob=>
      have hk':=((hL y ob ho).resolve_left hyx).resolve_left hys;unfold Jz at hk';split at hk'
      case h_2=>cases hk'
      rename_i hz;rw[qM (vG hz).1 fun e=>absurd e hyx]
      rw[ho]at ht;refine⟨ob',by show Sg.a L.at (inn y (b+1))=_;rw[Sg.gK,ho];exact ht,?_⟩
      change SOb.inner b ob=some ob' at ht;unfold SOb.inner at ht;split at ht
      ·split at ht
       ·cases ht
       ·rename_i M' _ _ _;cases hM:M'[b]? with
        |none=>rw[hM]at ht;cases ht
        |some l'=>
         rw[hM]at ht;rw[<-Option.some.inj ht];exact⟨rfl,rfl,eX _ _⟩
      ·cases ht
  ·change Sg.a _ t=some ob' at ht;rw[Sg.sF _ hno]at ht;cases ht
theorem Bj{a:Nat}:∀{ov:List (Nat×SV)},(∀p∈Bo ov a,p)->(ov.filter fun q=> !(Nat.beq q.1 a))=ov
 |[],_=>rfl
 |q::ov,h=>by
  have h1:a≠q.1:=h _ List.mem_cons_self;have h2:Nat.beq q.1 a=false:=by
   cases hb:Nat.beq q.1 a with
   |true=>exact absurd (Nat.eq_of_beq_eq_true hb).symm h1
   |false=>rfl
  rw[List.filter_cons,if_pos (by rw[h2];rfl),Bj fun p hp=>h p (List.mem_cons_of_mem _ hp)]
def Xf(N x s:Nat)(F:Frm):Frm->List Nat
 |[] =>[]
 |(d,_)::r=>match rQ N x s (F.at d)with
  |true=>Xf N x s F r
  |false=>d::Xf N x s F r
theorem Eg{N x s t:Nat}{F:Frm}:∀{G:Frm},t∈G.map (·.1)->t∈Xf N x s F G\/rQ N x s (F.at t)=true
 |[],h=>(List.not_mem_nil h).elim
 |(d,v)::G,h=>by
  unfold Xf;cases hk:rQ N x s (F.at d)with
  |true=>
   rcases List.mem_cons.1 h with h|h
   ·right;rw[h];exact hk
   ·exact Eg h
  |false=>
   rcases List.mem_cons.1 h with h|h
   ·left;rw[h];exact List.mem_cons_self
   ·rcases Eg (G:=G) h with h|h
    ·exact .inl (List.mem_cons_of_mem _ h)
    ·exact .inr h
theorem aBf{t:Nat}:∀{G:Frm},t∉G.map (·.1)->G.at t=Frm.at [] t
 |[],_=>rfl
 |(d,v)::G,h=>by
  rw[Frm.jH,if_neg fun e=>h (by rw[e];exact List.mem_cons_self),aBf fun hm=>h (List.mem_cons_of_mem _ hm)]
def xM(N x:Nat)(F:Frm)(L:bM):Option (List Prop×Frm×bM):=match L.at x with
 |some (.fam ty ity lt M ((a,.own s lt' k)::ov))=>(match L.at s with
  |some (.row ity' lt2 l)=>(match decEq lt' lt,decEq lt2 lt,Nat.beq ity' ity,Nat.blt (ncl x) N,jQ (fun q:Nat×SV=>rQ N x s q.2) ov,jQ (fun q:Nat×Option SOb=>match Nat.beq q.1 x,Nat.beq q.1 s,L.at q.1 with|false,false,some ob=>Jz N x s q.1 ob|_,_,_=>true) L with
   | .isTrue _,.isTrue h,true,true,true,true=>some ((a<M.length)::(k=l.length)::Bo ov a,((Xf N x s F F).map fun d=>(d,SV.any))++F,(x,some (.fam ty ity lt (M.set a (h▸l:List lt.ty)) ov))::(s,none)::L)
   |_,_,_,_,_,_=>none)
  |_=>none)
 |_=>none
theorem aBg{y:Nat}{ob:SOb}:∀{L:bM},L.at y=some ob->∃q∈L,q.1=y
 |[],h=>by cases h
 |(k,o)::L,h=>by
  cases hb:Nat.beq y k with
  |true=>exact⟨_,List.mem_cons_self,(Nat.eq_of_beq_eq_true hb).symm⟩
  |false=>
   have:bM.at L y=some ob:=by
    change (match Nat.beq y k with|true=>o|false=>bM.at L y)=some ob at h
    rw[hb]at h;exact h
   obtain⟨q,h1,h2⟩:=aBg this;exact⟨q,List.mem_cons_of_mem _ h1,h2⟩
theorem Lu{n N0 N x:Nat}{F F':Frm}{L L':bM}{ps:List Prop}(h:xM N x F L=some (ps,F',L'))(hp:∀p∈ps,p):lP (F.av n) L.fn N0 (F'.av n) L'.fn N:=by
 unfold xM at h;split at h
 case h_2=>cases h
 rename_i ty ity lt M a s lt' k ov hx;split at h
 case h_2=>cases h
 rename_i ity' lt2 l hs;split at h
 case h_2=>cases h
 rename_i e1 e2 _ _ hi hN hov hL;subst e1;subst e2;cases h;have hi:=Nat.eq_of_beq_eq_true hi;subst hi;have hne:∀p∈Bo ov a,p:=fun p hq=>hp p (List.mem_cons_of_mem _ (List.mem_cons_of_mem _ hq))
 have:=Xk (n:=n) (N0:=N0) (N:=N) (F:=F) (hav:=Xf N x s F F) hx hs (hp _ List.mem_cons_self) (hp _ (List.mem_cons_of_mem _ List.mem_cons_self)) ((fU _ _).1 hN) (fun q hq _=>dY hov q hq) (fun t _=> ?_) (fun y ob ho=> ?_)
 ·rw[Bj hne]at this;exact this
 ·by_cases hm:t∈F.map (·.1)
  ·exact Eg hm
  ·right;rw[aBf hm];rfl
 ·obtain⟨q,hq,rfl⟩:=aBg ho;have:=dY hL q hq;split at this
  ·rename_i ob' _ _ h3;rw[ho]at h3;cases h3;exact .inr (.inr this)
  ·rename_i h3;by_cases hx':q.1=x
   ·exact .inl hx'
   ·by_cases hs':q.1=s
    ·exact .inr (.inl hs')
    ·exfalso;have b1:Nat.beq q.1 x=false:=by
      cases hb:Nat.beq q.1 x with
      |true=>exact absurd (Nat.eq_of_beq_eq_true hb) hx'
      |false=>rfl
     have b2:Nat.beq q.1 s=false:=by
      cases hb:Nat.beq q.1 s with
      |true=>exact absurd (Nat.eq_of_beq_eq_true hb) hs'
      |false=>rfl
     exact h3 ob b1 b2 ho
def Co(N:Nat):Nat->List Nat->Frm->bM->List Prop×Frm×bM
 |0,_,F,L=>([],F,L)
 |_+1,[],F,L=>([],F,L)
 |f+1,x::xs,F,L=>match xM N x F L with
  |some (ps,F',L')=>(match Co N f (x::xs) F' L' with|(qs,r)=>(ps++qs,r))
  |none=>Co N f xs F L
theorem wM{n N:Nat}:∀{f:Nat} {xs:List Nat} {F F':Frm} {L L':bM} {ps:List Prop},Co N f xs F L=(ps,F',L')->(∀p∈ps,p)->∀N0,(ps=[]/\F'=F/\L'=L)\/lP (F.av n) L.fn N0 (F'.av n) L'.fn N
 |0,xs,F,F',L,L',ps,h,_,_=>by cases h;exact .inl ⟨rfl,rfl,rfl⟩
 |f+1,[],F,F',L,L',ps,h,_,_=>by cases h;exact .inl ⟨rfl,rfl,rfl⟩
 |f+1,x::xs,F,F',L,L',ps,h,hp,N0=>by
  unfold Co at h;split at h
  ·rename_i p1 F1 L1 h1;split at h;rename_i qs r h2;cases h;have w1:=Lu (n:=n) (N0:=N0) h1 fun p hq=>hp p (List.mem_append_left _ hq)
   rcases wM (n:=n) h2 (fun p hq=>hp p (List.mem_append_right _ hq)) N with⟨_,rfl,rfl⟩|w2
   ·exact .inr w1
   ·exact .inr fun C0 B wI a w hst=>w2 C0 B wI a w (w1 C0 B wI a w hst)
  ·exact wM h hp N0
theorem Po{N x:Nat}{F F':Frm}{L L':bM}{ps:List Prop}(h:xM N x F L=some (ps,F',L')):(∃p,F'=p++F)/\∃q,L'=q++L:=by
 unfold xM at h;split at h
 case h_2=>cases h
 split at h
 case h_2=>cases h
 split at h
 case h_2=>cases h
 cases h;exact⟨⟨_,rfl⟩,⟨[(_,_),(_,_)],rfl⟩⟩
theorem zF{N:Nat}:∀{f:Nat} {xs:List Nat} {F F':Frm} {L L':bM} {ps:List Prop},Co N f xs F L=(ps,F',L')->(∃p,F'=p++F)/\∃q,L'=q++L
 |0,xs,F,F',L,L',ps,h=>by cases h;exact⟨⟨[],rfl⟩,⟨[],rfl⟩⟩
 |f+1,[],F,F',L,L',ps,h=>by cases h;exact⟨⟨[],rfl⟩,⟨[],rfl⟩⟩
 |f+1,x::xs,F,F',L,L',ps,h=>by
  unfold Co at h;split at h
  ·rename_i p1 F1 L1 h1;split at h;rename_i qs r h2;cases h;obtain⟨⟨p,e1⟩,⟨q,e2⟩⟩:=Po h1;obtain⟨⟨p',e3⟩,⟨q',e4⟩⟩:=zF h2;exact⟨⟨p'++p,by rw[e3,e1,List.append_assoc]⟩,⟨q'++q,by rw[e4,e2,List.append_assoc]⟩⟩
  ·exact zF h
def Rt:bM->List Nat
 |[] =>[]
 |(k,some (.fam ..))::L=>k::Rt L
 |_::L=>Rt L
end
end Go.Proofs.YtdaeofhdgabhjaaGreat
namespace Go.Proofs.YtdaeofhdgabhjaaGreat
open Go.RowKit
def frS(s:Nat)(cells:List PV)(x' y:AV):Prop:=x'= .any\/x'=y\/∃n,y= .own s 0 n/\x'= .p (.sl n cells)
def frO(s:Nat)(cells:List PV)(o:Option Ob)(ob:Ob):Prop:=o=some ob\/∃ob0,o=some ob0/\ob.ty=ob0.ty/\ob.esz=ob0.esz/\¬(ob.esz=0/\(ob.ty=0\/ob.ty=1))/\ob.cells.length=ob0.cells.length/\
 ∀(i:Nat) x,ob.cells[i]? =some x->∃y,ob0.cells[i]? =some y/\frS s cells x y
theorem frO.get{s:Nat}{cells:List PV}{o:Option Ob}{ob:Ob}(h:frO s cells o ob):∃ob0,o=some ob0/\ob.ty=ob0.ty/\ob.esz=ob0.esz:=by
 rcases h with h|⟨ob0,h1,h2,h3,_⟩
 ·exact⟨ob,h,rfl,rfl⟩
 ·exact⟨ob0,h1,h2,h3⟩
theorem tM{F F':List AV}{L L':Sto}{N:Nat}{ty esz:Nat}(s:Nat)(cells:List PV)(hs:L s=some ⟨ty,esz,cells.map .p⟩)(hz:esz≠0)(hl:F'.length=F.length)
  (hF:∀t,t<F.length->frS s cells (F'.getD t .any) (F.getD t .any)) (hL:∀k ob,L' k=some ob->k≠s/\frO s cells (L k) ob):lP F L N F' L' N:=by
 intro C0 B wI a w ⟨⟨ρ,s1,s2,s3⟩,s4,s5,s6,s7⟩;have hdead:∀k,L k=none->L' k=none:=by
  intro k hk;cases h:L' k with
  |none=>rfl
  |some ob=>obtain⟨ob0,h0,_⟩:=(hL k ob h).2.get;rw[hk]at h0;cases h0
 have hmono:∀b o v,aP C0 B w ρ L b o v->aP C0 B w ρ L' b o v:=fun b o v ⟨e1,e2,e3⟩=>⟨e1,fun k c h=>hdead k (e2 k c h),e3⟩
 have hone:∀x' y v,frS s cells x' y->aO ρ (aP C0 B w ρ L) y v->aO ρ (aP C0 B w ρ L') x' v:=by
  rintro x' y v (rfl|rfl|⟨n,rfl,rfl⟩) hv
  ·unfold aO;trivial
  ·exact aO.mono (fun _ _ h=>h) hmono _ v hv
  ·unfold aO at hv|-;obtain⟨q,c,hρ,hcase⟩:=hv;obtain⟨q2,c2,hρ2,hob⟩:=s1.ob s _ hs;rw[hρ]at hρ2;cases hρ2;unfold aZ;rcases hcase with⟨h1,h4,h5,_⟩|⟨b,o',c',h1,h4,h5,h6,h7⟩
   ·subst h5;rcases hob with⟨_,⟨_,h8,_⟩|⟨h8,_⟩⟩|⟨b,arr,h8,_⟩
    ·exact⟨none,0,h4,Nat.le_refl _,fun _=>⟨rfl,by simpa using h8⟩,fun ad e=>by cases e⟩
    ·exact absurd h8 hz
    ·rw[h1]at h8;cases h8
   ·obtain⟨rfl,rfl⟩:=h7 rfl;rcases hob with⟨h8,_⟩|⟨b2,arr,h8,h9,h10⟩
    ·rw[h1]at h8;cases h8
    ·rw[h1]at h8;cases h8;refine⟨_,c',h4,h5,(fun e=>by cases e),fun ad e=> ?_⟩
     cases e;refine⟨fun _=>rfl,eJ.of _ _ _ fun i x hi=> ?_⟩
     obtain⟨u,k1,k2,k3⟩:=h10.cells i (.p x) (by show(cells.map AV.p)[i]? =_;rw[List.getElem?_map,hi];rfl)
     unfold aO at k3;refine⟨u,⟨by rw[Nat.zero_add,h10.cell];exact k1,fun k c2 hk=> ?_,.inl h9⟩,k2,aZ.mono hmono x u k3⟩
     cases h:L' k with
     |none=>rfl
     |some ob=>
      obtain⟨hne,h2⟩:=hL k ob h;obtain⟨ob0,h2,_⟩:=h2.get;exact absurd (s1.inj k s ob0 _ b c2 c' h2 hs hk (by rw[hρ,h1])) hne
 refine⟨⟨ρ,⟨?_,?_,?_⟩,s2,?_⟩,s4,s5,by rw[s6,hl],s7⟩
 ·intro k ob hk;obtain⟨hne,h2|⟨ob0,h2,g1,g2,g3,g4,g5⟩⟩:=hL k ob hk
  ·obtain⟨q,c,hρ,hcase⟩:=s1.ob k ob h2;refine⟨q,c,hρ,?_⟩;rcases hcase with⟨g1,g2⟩|⟨b,arr,g1,g2,g3⟩
   ·refine .inl ⟨g1,?_⟩;rcases g2 with g2|⟨g2,g3⟩
    ·exact .inl g2
    ·exact .inr ⟨g2,g3.mono (fun _ _ h=>h) hmono fun _ _ _ _=>rfl⟩
   ·refine .inr ⟨b,arr,g1,g2,⟨g3.blk,g3.box,g3.row,fun i x hi=> ?_⟩⟩
    obtain⟨v,m1,m2,m3⟩:=g3.cells i x hi;exact⟨v,m1,m2,aO.mono (fun _ _ h=>h) hmono _ v m3⟩
  ·obtain⟨q,c,hρ,hcase⟩:=s1.ob k ob0 h2;refine⟨q,c,hρ,?_⟩;rcases hcase with⟨k1,⟨k2,k3,k4⟩|⟨k2,k3⟩⟩|⟨b,arr,k1,k2,k3⟩
   ·refine .inl ⟨k1,.inl ⟨by rw[g2];exact k2,?_,k4⟩⟩
    rw[k3]at g4;exact List.length_eq_zero_iff.1 g4
   ·exfalso;refine g3 ⟨by rw[g2];exact k2,?_⟩
    rw[g1];rcases k3 with⟨k3,_⟩|⟨k3,_⟩
    ·exact .inl k3
    ·exact .inr k3
   ·refine .inr ⟨b,arr,k1,k2,⟨by rw[g1];exact k3.blk,fun h=>by rw[g4];exact k3.box (by rw[<-g2];exact h),fun h=>by rw[g4,g2];exact k3.row (by rw[<-g2];exact h),fun i x hi=> ?_⟩⟩
    obtain⟨y,y1,y2⟩:=g5 i x hi;obtain⟨v,m1,m2,m3⟩:=k3.cells i y y1;exact⟨v,m1,m2,hone x y v y2 m3⟩
 ·intro k k' o o' b c c' h1 h2 h3 h4;obtain⟨o1,e1,_⟩:=(hL k o h1).2.get;obtain⟨o2,e2,_⟩:=(hL k' o' h2).2.get;exact s1.inj k k' o1 o2 b c c' e1 e2 h3 h4
 ·intro k k' o o' c c' h1 h2 h3 h4 h5 h6 h7;obtain⟨o1,e1,a1,a2⟩:=(hL k o h1).2.get;obtain⟨o2,e2,b1,b2⟩:=(hL k' o' h2).2.get;refine s1.mpi k k' o1 o2 c c' e1 e2 (by rw[<-a2];exact h3) (by rw[<-b2];exact h4) h5 h6 ?_
  unfold Mp at h7|-;rw[<-a1,<-b1];exact h7
 ·intro t;rcases Nat.lt_or_ge t F.length with h|h
  ·exact hone _ _ _ (hF t h) (s3 t)
  ·rw[List.getD_eq_getElem?_getD,List.getElem?_eq_none (by omega)]
   show aO _ _ .any _;unfold aO;trivial
end Go.Proofs.YtdaeofhdgabhjaaGreat
namespace Go.Proofs.YtdaeofhdgabhjaaGreat
open Go.RowKit
noncomputable section
def Dd(d:Nat)(F:Frm)(L:bM):Option (List Prop×Frm×bM):=match F.at d with
 | .ownx s n=>(match L.at s with
   |some (.arr _ ez cs)=>(match cR (avs cs),Nat.beq ez 0 with
    |some _,false=>some ([],(d,.sl n cs)::F,(s,none)::L)
    |_,_=>none)
   |_=>none)
 | .own s _ n=>(match L.at s with
   |some (.row _ lt l)=>some ([n=l.length],(d,.lst lt l)::F,(s,none)::L)
   |_=>none)
 |_=>none
theorem Cd{L:bM}{s:Nat}{ob:SOb}(hs:L.at s=some ob)(hf:ob.flat=true){k:Nat}{o:Ob}(h:bM.fn ((s,none)::L) k=some o):k≠bD s/\L.fn k=some o:=by
 have h1:=(cW.flat (σ:=L.at) (rd:=[]) (W:=[(s,none)]) fun q hq=>by rw[List.mem_singleton.1 hq,hs];exact⟨hf,rfl⟩).2.2
 rw[bM.Ui]at h1;have h2:bM.fn ((s,none)::L)=cG L.fn [(bD s,none)] :=h1.symm;rw[h2]at h;unfold cG at h;rw[List.lookup_cons]at h;by_cases e:k=bD s
 ·rw[beq_iff_eq.2 e]at h;cases h
 ·rw[beq_eq_false_iff_ne.2 e]at h;exact⟨e,h⟩
theorem Vu{n d t:Nat}{v:SV}{F:Frm}(ht:t<n):(Frm.av n ((d,v)::F)).getD t .any=if t=d then v.av else(F.av n).getD t .any:=by
 rw[Frm.jZ ht,Frm.jZ ht,Frm.jH];split<;>rfl
theorem Qg{n N d:Nat}{F F':Frm}{L L':bM}{ps:List Prop}(h:Dd d F L=some (ps,F',L'))(hp:∀p∈ps,p):lP (F.av n) L.fn N (F'.av n) L'.fn N:=by
 unfold Dd at h;split at h
 ·rename_i s m hd;split at h
  case h_2=>cases h
  rename_i ty ez cs hs;split at h<;>cases h;rename_i q hq hz;refine tM (bD s) q (ty:=ty) (esz:=ez) ?_ (Nat.ne_of_beq_eq_false hz) (by rw[Frm.eH,Frm.eH]) ?_ fun k ob hk=>⟨(Cd hs rfl hk).1,.inl (Cd hs rfl hk).2⟩
  ·show Sg.a L.at (bD s)=_;rw[Sg.cL,hs,<-eW hq];rfl
  ·intro t ht;rw[Frm.eH]at ht;rw[Vu ht];by_cases e:t=d
   ·subst e;rw[if_pos rfl,Frm.jZ ht,hd];exact .inr (.inr ⟨m,rfl,by show(match cR (avs cs)with|some q=>AV.p (.sl m q)|none=> .any)=_;rw[hq]⟩)
   ·rw[if_neg e];exact .inr (.inl rfl)
 ·rename_i s t0 m hd;split at h<;>cases h;rename_i ty lt l hs;have hm:m=l.length:=hp _ (List.mem_singleton.2 rfl);refine tM (bD s) (lt.enc l) (ty:=ty) (esz:=lt.w) ?_ (Nat.ne_of_gt lt.oC) (by rw[Frm.eH,Frm.eH]) ?_ fun k ob hk=>⟨(Cd hs rfl hk).1,.inl (Cd hs rfl hk).2⟩
  ·show Sg.a L.at (bD s)=_;rw[Sg.cL,hs];rfl
  ·intro t ht;rw[Frm.eH]at ht;rw[Vu ht];by_cases e:t=d
   ·subst e;rw[if_pos rfl,Frm.jZ ht,hd];exact .inr (.inr ⟨m,rfl,by rw[hm];rfl⟩)
   ·rw[if_neg e];exact .inr (.inl rfl)
 ·cases h
def aF9(L:bM):SV->Option (List Prop×SV×Nat)
 | .ownx s n=>(match L.at s with
   |some (.arr _ ez cs)=>(match cR (avs cs),Nat.beq ez 0 with
    |some _,false=>some ([],.sl n cs,s)
    |_,_=>none)
   |_=>none)
 | .own s _ n=>(match L.at s with
   |some (.row _ lt l)=>some ([n=l.length],.lst lt l,s)
   |_=>none)
 |_=>none
theorem Yx{L:bM}{v w:SV}{s:Nat}{ps:List Prop}(h:aF9 L v=some (ps,w,s))(hp:∀p∈ps,p):∃ob,L.at s=some ob/\ob.flat=true/\∃ty esz cells n,ob.ob s=⟨ty,esz,cells.map .p⟩/\esz≠0/\v.av= .own (bD s) 0 n/\w.av= .p (.sl n cells)/\(∀ty cs,ob≠ .box ty cs):=by
 unfold aF9 at h;split at h
 ·rename_i s m;split at h
  case h_2=>cases h
  rename_i ty ez cs hs;split at h<;>cases h;rename_i q hq hz;exact⟨_,hs,rfl,ty,ez,q,m,by rw[<-eW hq];rfl,Nat.ne_of_beq_eq_false hz,rfl,by show(match cR (avs cs)with|some q=>AV.p (.sl m q)|none=> .any)=_;rw[hq],fun _ _=>nofun⟩
 ·rename_i s t0 m;split at h<;>cases h;rename_i ty lt l hs;have hm:m=l.length:=hp _ (List.mem_singleton.2 rfl);exact⟨_,hs,rfl,ty,lt.w,lt.enc l,m,rfl,Nat.ne_of_gt lt.oC,rfl,by rw[hm];rfl,fun _ _=>nofun⟩
 ·cases h
def De(k i:Nat)(L:bM):Option (List Prop×bM):=match L.at k with
 |some (.box ty cs)=>(match cs[i]?,Nat.ble ty 1 with
  |some v,false=>(match aF9 L v with
   |some (ps,w,s)=>some (ps,(k,some (.box ty (cs.set i w)))::(s,none)::L)
   |none=>none)
  |_,_=>none)
 |_=>none
theorem Qh{n N k i:Nat}{F:Frm}{L L':bM}{ps:List Prop}(h:De k i L=some (ps,L'))(hp:∀p∈ps,p):lP (F.av n) L.fn N (F.av n) L'.fn N:=by
 unfold De at h;split at h
 case h_2=>cases h
 rename_i ty cs hk;split at h
 case h_2=>cases h
 rename_i v hv hty;split at h<;>cases h;rename_i w s hf;obtain⟨ob,e1,e2,tys,esz,cells,m,e3,e4,e5,e6,e7⟩:=Yx hf hp;have hks:k≠s:=fun e=>by rw[e,e1]at hk;cases hk;exact e7 _ _ rfl
 have hty:¬ty<=1:=fun hh=>by rw[Nat.ble_eq_true_of_le hh]at hty;cases hty
 have up:bM.fn ((k,some (.box ty (cs.set i w)))::(s,none)::L)=cG L.fn [(bD k,some ((SOb.box ty (cs.set i w)).ob k)),(bD s,none)] :=by
  have h1:=(cW.flat (σ:=L.at) (rd:=[]) (W:=[(k,some (.box ty (cs.set i w))),(s,none)]) fun q hq=>by
   rcases List.mem_cons.1 hq with rfl|hq
   ·rw[hk];exact⟨rfl,rfl⟩
   ·rw[List.mem_singleton.1 hq,e1];exact⟨e2,rfl⟩).2.2
  rw[bM.Ui]at h1;exact h1.symm
 refine tM (bD s) cells (ty:=tys) (esz:=esz) ?_ e4 rfl (fun t ht=> .inr (.inl rfl)) fun j ob' hj=> ?_
 ·show Sg.a L.at (bD s)=_;rw[Sg.cL,e1,Option.map_some,e3]
 ·rw[up]at hj;unfold cG at hj;rw[List.lookup_cons,List.lookup_cons]at hj;by_cases h1:j=bD k
  ·subst h1;rw[beq_iff_eq.2 rfl]at hj;cases hj;refine⟨fun e=>hks (gW e),.inr ⟨(SOb.box ty cs).ob k,by show Sg.a L.at (bD k)=_;rw[Sg.cL,hk];rfl,rfl,rfl,?_,?_,?_⟩⟩
   ·rintro⟨_,hh|hh⟩
    ·have hh:ty=0:=hh;exact hty (by rw[hh];exact Nat.zero_le 1)
    ·have hh:ty=1:=hh;exact hty (by rw[hh];exact Nat.le_refl 1)
   ·show(avs (cs.set i w)).length=(avs cs).length;rw[dR,dR,List.length_set]
   ·intro a x hx;have hx:(avs (cs.set i w))[a]? =some x:=hx;rw[Ww,List.getElem?_set]at hx;by_cases ha:i=a
    ·subst ha;have hlt:i<cs.length:=by
      rcases Nat.lt_or_ge i cs.length with h|h
      ·exact h
      ·rw[List.getElem?_eq_none h]at hv;cases hv
     rw[if_pos rfl,if_pos (by rw[dR];exact hlt)]at hx
     cases hx;exact⟨v.av,by show(avs cs)[i]? =_;rw[xU,hv];rfl,.inr (.inr ⟨m,e5,e6⟩)⟩
    ·rw[if_neg ha]at hx;exact⟨x,hx,.inr (.inl rfl)⟩
  ·rw[beq_eq_false_iff_ne.2 h1]at hj;by_cases h2:j=bD s
   ·rw[beq_iff_eq.2 h2]at hj;cases hj
   ·rw[beq_eq_false_iff_ne.2 h2]at hj;exact⟨h2,.inl hj⟩
theorem Tp{k i:Nat}{L L':bM}{ps:List Prop}(h:De k i L=some (ps,L')):∃q,L'=q++L:=by
 unfold De at h;split at h
 case h_2=>cases h
 split at h
 case h_2=>cases h
 split at h<;>cases h;exact⟨[(_,_),(_,_)],rfl⟩
def aAA(k:Nat):Nat->List SV->List (Nat×Nat)
 |_,[] =>[]
 |i,.lst _ _::r=>(k,i)::aAA k (i+1) r
 |i,_::r=>aAA k (i+1) r
def aGb:List (Nat×SOb)->List (Nat×Nat)
 |[] =>[]
 |(k,.box _ cs)::r=>aAA k 0 cs++aGb r
 |_::r=>aGb r
def Ct:List (Nat×Nat)->bM->List Prop×bM
 |[],L=>([],L)
 |d::ds,L=>match De d.1 d.2 L with
  |some (ps,L')=>(match Ct ds L' with|(qs,r)=>(ps++qs,r))
  |none=>Ct ds L
theorem wX{n N:Nat}{F:Frm}:∀{ds:List (Nat×Nat)} {L L':bM} {ps:List Prop},Ct ds L=(ps,L')->(∀p∈ps,p)->lP (F.av n) L.fn N (F.av n) L'.fn N
 |[],L,L',ps,h,_=>by cases h;exact lP.rfl
 |d::ds,L,L',ps,h,hp=>by
  unfold Ct at h;split at h
  ·rename_i p1 L1 h1;split at h;rename_i qs r h2;cases h;have w1:=Qh (n:=n) (N:=N) (F:=F) h1 fun p hq=>hp p (List.mem_append_left _ hq)
   have w2:=wX (n:=n) (N:=N) (F:=F) h2 fun p hq=>hp p (List.mem_append_right _ hq)
   exact fun C0 B wI a w hst=>w2 C0 B wI a w (w1 C0 B wI a w hst)
  ·exact wX h hp
theorem zX:∀{ds:List (Nat×Nat)} {L L':bM} {ps:List Prop},Ct ds L=(ps,L')->∃q,L'=q++L
 |[],L,L',ps,h=>by cases h;exact⟨[],rfl⟩
 |d::ds,L,L',ps,h=>by
  unfold Ct at h;split at h
  ·rename_i p1 L1 h1;split at h;rename_i qs r h2;cases h;obtain⟨q,e2⟩:=Tp h1;obtain⟨q',e4⟩:=zX h2;exact⟨q'++q,by rw[e4,e2,List.append_assoc]⟩
  ·exact zX h
def aGa:Frm->List Nat
 |[] =>[]
 |(d,.lst _ _)::r=>d::aGa r
 |_::r=>aGa r
def Qt:List Nat->Frm->bM->List Prop×Frm×bM
 |[],F,L=>([],F,L)
 |d::ds,F,L=>match Dd d F L with
  |some (ps,F',L')=>(match Qt ds F' L' with|(qs,r)=>(ps++qs,r))
  |none=>Qt ds F L
theorem zW{n N:Nat}:∀{ds:List Nat} {F F':Frm} {L L':bM} {ps:List Prop},Qt ds F L=(ps,F',L')->(∀p∈ps,p)->lP (F.av n) L.fn N (F'.av n) L'.fn N
 |[],F,F',L,L',ps,h,_=>by cases h;exact lP.rfl
 |d::ds,F,F',L,L',ps,h,hp=>by
  unfold Qt at h;split at h
  ·rename_i p1 F1 L1 h1;split at h;rename_i qs r h2;cases h;have w1:=Qg (n:=n) (N:=N) h1 fun p hq=>hp p (List.mem_append_left _ hq)
   have w2:=zW (n:=n) (N:=N) h2 fun p hq=>hp p (List.mem_append_right _ hq)
   exact fun C0 B wI a w hst=>w2 C0 B wI a w (w1 C0 B wI a w hst)
  ·exact zW h hp
theorem To{d:Nat}{F F':Frm}{L L':bM}{ps:List Prop}(h:Dd d F L=some (ps,F',L')):(∃p,F'=p++F)/\∃q,L'=q++L:=by
 unfold Dd at h;split at h
 ·split at h
  case h_2=>cases h
  split at h<;>cases h;exact⟨⟨[_],rfl⟩,⟨[_],rfl⟩⟩
 ·split at h<;>cases h;exact⟨⟨[_],rfl⟩,⟨[_],rfl⟩⟩
 ·cases h
theorem Ec:∀{ds:List Nat} {F F':Frm} {L L':bM} {ps:List Prop},Qt ds F L=(ps,F',L')->(∃p,F'=p++F)/\∃q,L'=q++L
 |[],F,F',L,L',ps,h=>by cases h;exact⟨⟨[],rfl⟩,⟨[],rfl⟩⟩
 |d::ds,F,F',L,L',ps,h=>by
  unfold Qt at h;split at h
  ·rename_i p1 F1 L1 h1;split at h;rename_i qs r h2;cases h;obtain⟨⟨p,e1⟩,⟨q,e2⟩⟩:=To h1;obtain⟨⟨p',e3⟩,⟨q',e4⟩⟩:=Ec h2;exact⟨⟨p'++p,by rw[e3,e1,List.append_assoc]⟩,⟨q'++q,by rw[e4,e2,List.append_assoc]⟩⟩
  ·exact Ec h
end
end Go.Proofs.YtdaeofhdgabhjaaGreat
namespace Go.Proofs.YtdaeofhdgabhjaaGreat
open Go.RowKit
noncomputable section
inductive Ann:Type 1
 |mk (Y:Type) (wit:Frm->bM->Option Y) (rk:List Nat) (inv:Y->List Prop) (upd:Y->Frm) (obs:Y->List (Nat×SOb)) (mu:Y->Nat) (inner:Y->List (Nat×Ann))
def aFD:List (Nat×Ann)->Nat->Option Ann
 |[],_=>none
 |(k,a)::l,x=>match Nat.beq x k with|true=>some a|false=>aFD l x
def asg:Code->List Nat
 | .region _ ops _=>ops.toList.filterMap (·.dst)
 | .seq a b=>asg a++asg b
 | .cond _ t e=>asg t++asg e
 | .block _ c=>asg c
 | .loop c=>asg c
 | .scope c=>asg c
 |_=>[]
def An:Code->Option Nat
 | .region id _ _=>some id
 | .seq a b=>(match An a with|some k=>some k|none=>An b)
 | .cond _ t e=>(match An t with|some k=>some k|none=>An e)
 | .block _ c=>An c
 | .loop c=>An c
 | .scope c=>An c
 |_=>none
def aAK(A:List (Nat×Ann))(c:Code)(j:Nat):Option Ann:=match An c with
 |some k=>aFD A (k+j)
 |none=>none
def Ml(N:Nat):List Nat->Nat
 |[] =>N
 |s::l=>(match Nat.blt (ncl s) (Ml N l)with|true=>Ml N l|false=>ncl s+1)
abbrev vV:=Exit->Frm->bM->Nat->Fm
def aFS(X:Cx)(n:Nat)(raw:Nat->Nat->Bool)(id:Nat)(ops:List Oper)(draw:Bool)(F:Frm)(L:bM)(N:Nat)(K:Frm->bM->Fm):Fm:=match draw with
 |true=>(match X.P.follows .mixedOrders,Ut ops (Sa ops),dOk ops n with
  |true,true,true=>mZ X n (raw id) N (ops.map (·.dst)) ops 0 F L [] fun F L log=>(match Cz (Sa ops) log with|true=>K F L|false=> .stuck (id+100000))
  |_,_,_=> .stuck (id+200000))
 |false=>(match gOk ops with
  |true=>mZ X n (raw id) N (ops.map (·.dst)) ops 0 F L [] fun F L _=>K F L
  |false=> .stuck (id+300000))
def Zz(n:Nat)(F:Frm)(L:bM)(N:Nat)(rk:List Nat)(upd:Frm)(obs:List (Nat×SOb))(qs:List Prop)(F':Frm)(L':bM):Fm:=match Qt (aGa upd) F' L' with
 |(pz,F0,La)=>match Ct (aGb obs) La with
  |(pb,L0)=>match Co NM 100 (Rt L0) F0 L0 with
   |(p0,F1,L1)=>(match jQ (fun q:Nat×SV=>mem ((F'.take (F'.length-F.length)).map (·.1)) q.1) (F1.take (F1.length-F'.length)),Uu n L N (Ml N rk) rk upd obs F1 L1 with
    |true,some ps=>Al (pz++(pb++(p0++(ps++qs)))) .tt
    |_,_=> .stuck 400000)
def exq{Y:Type}(w:Option Y)(f:Y->Fm):Fm:=match w with
 |some y=>f y
 |none=> .ex Y f
theorem Af{Y:Type}{w:Option Y}{f:Y->Fm}(h:(exq w f).holds):∃y,(f y).holds:=by
 cases w with
 |some y=>exact⟨y,h⟩
 |none=>exact h
def aA8(A:List (Nat×Ann))(c:Code):Nat->Option Nat
 |0=>none
 |k+1=>(match aAK A c (30001+k)with|some _=>some (k+1)|none=>aA8 A c k)
def unr(body:vV->Frm->bM->Nat->Fm)(Q:vV):Nat->Frm->bM->Nat->Fm
 |0,_,_,_=> .stuck 810000
 |k+1,F,L,N=>body (fun e F' L' N'=>match e with| .normal=>unr body Q k F' L' N'|e=>Q e F' L' N') F L N
abbrev Inl:=Nat->List SV->Frm->Nat->bM->Nat->(SV->bM->Nat->Fm)->Fm
def aAy:Inl:=fun _ _ _ _ _ _ _=> .stuck 990000
def Db:List Oper->Option (List Oper×Oper)
 |[] =>none
 |o::l=>(match Db l with|some (p,q)=>some (o::p,q)|none=>some ([],o))
theorem Ip:∀{l pre:List Oper} {o:Oper},Db l=some (pre,o)->l=pre++[o]
 |[],pre,o,h=>by cases h
 |x::l,pre,o,h=>by
  unfold Db at h;split at h
  ·rename_i p q hp;cases h;rw[Ip hp];rfl
  ·rename_i hp;cases h;cases l with
   |nil=>rfl
   |cons y l=>
    unfold Db at hp;split at hp<;>cases hp
def aAC(X:Cx)(ops:List Oper):Option (List Oper×Oper×Nat×List Operand):=match Db ops with
 |some (pre,o)=>(match o.guard,o.op with
  |none,.call {callee:= .value (.func f),args, .. }=>(match X.inl f with|true=>some (pre,o,f,args.toList)|false=>none)
  |_,_=>none)
 |none=>none
theorem Tf{X:Cx}{ops pre:List Oper}{o:Oper}{f:Nat}{args:List Operand}(h:aAC X ops=some (pre,o,f,args)):ops=pre++[o]/\o.guard=none/\∃c:Call,o.op= .call c/\c.callee= .value (.func f)/\c.args.toList=args:=by
 unfold aAC at h;split at h
 case h_2=>cases h
 rename_i p q hl;split at h
 case h_2=>cases h
 rename_i hg ho;split at h<;>cases h;exact⟨Ip hl,hg,_,ho,rfl,rfl⟩
def aAL(X:Cx)(I:Inl):Prop:=∀(f:Nat) (xs:List SV) (F:Frm) (n:Nat) (L:bM) (N:Nat) (K:SV->bM->Nat->Fm) (o:Oper) (c:Call),o.op= .call c->c.callee= .value (.func f)->c.args.toList.map (lQ (F.av n))=avs xs->(I f xs F n L N K).holds->
 Qy X.P o (F.av n) L.fn N fun FA LA N'=>∃r L',r.ok/\FA=jC (F.av n) o.dst r.av/\LA=L'.fn/\nF L L'/\(K r L' N').holds
theorem Oc(X:Cx):aAL X aAy:=fun _ _ _ _ _ _ _ _ _ _ _ _ h=>h.elim
def vc(X:Cx)(I:Inl)(n:Nat)(raw:Nat->Nat->Bool):Code->(Nat->Bool)->List (Nat×Ann)->vV->Frm->bM->Nat->Fm
 | .skip,_,_,Q,F,L,N=>Q .normal F L N
 | .region id ops draw,_,_,Q,F,L,N=>(match draw,aAC X ops.toList with
   |false,some (pre,o,f,args)=>mZ X n (raw id) N (ops.toList.map (·.dst)) pre 0 F L [] fun F L _=>I f (args.map (Cu n F)) F n L (N+pre.length) fun r L' N'=>Q .normal (Gm n F o.dst r) L' N'
   |_,_=>aFS X n raw id ops.toList draw F L N fun F L=>Q .normal F L (N+ops.size))
 | .seq a b,al,A,Q,F,L,N=>(match aAK A b 10000 with
   |none=>vc X I n raw a al A (fun e F L N=>match e with| .normal=>vc X I n raw b al A Q F L N|e=>Q e F L N) F L N
   |some (.mk Y wit rk inv upd obs _ inner)=>(match jQ al (sD F rk N F)with
    |true=> .both
     (vc X I n raw a (mem (asg a)) A (fun e F1 L1 N1=>match e with| .normal=>exq (wit F1 L1) fun y=>Zz n F L N rk (upd y) (obs y) (inv y) F1 L1|e=>Q e F1 L1 N1) F L N)
     (.all Y fun y=>aF8 (inv y) (match jQ (fun q=>mem (asg a++sD F rk N F) q.1) (upd y)with
       |true=>vc X I n raw b al (inner y++A) Q (oZ F (upd y) (asg a++sD F rk N F)) (kX L (obs y)) (Ml N rk)
       |false=> .stuck 500000))
    |false=> .stuck 600000))
 | .cond c t e,al,A,Q,F,L,N=>(match Cu n F c with
   | .lit true=>vc X I n raw t al A Q F L N
   | .lit false=>vc X I n raw e al A Q F L N
   | .prop p _=> .both (.imp p (vc X I n raw t al A Q F L N)) (.imp (¬p) (vc X I n raw e al A Q F L N))
   | .bool b=> .both (.imp (b=true) (vc X I n raw t al A Q F L N)) (.imp (b=false) (vc X I n raw e al A Q F L N))
   |_=> .stuck 700000)
 | .block id c,al,A,Q,F,L,N=>vc X I n raw c al A (fun e F L N=>match e with| .exit id'=>(match Nat.beq id' id with|true=>Q .normal F L N|false=>Q (.exit id') F L N)|e=>Q e F L N) F L N
 | .loop c,al,A,Q,F,L,N=>(match aAK A c 0 with
   |none=>(match aA8 A c 6 with
    |some k=>unr (fun Q F L N=>vc X I n raw c al A Q F L N) Q k F L N
    |none=> .stuck 800000)
   |some (.mk Y wit rk inv upd obs mu inner)=>(match jQ al (sD F rk N F)with
    |true=> .both
     (exq (wit F L) fun y=>Zz n F L N rk (upd y) (obs y) (inv y) F L)
     (.all Y fun x=>aF8 (inv x) (match jQ (fun q=>mem (asg c++sD F rk N F) q.1) (upd x)with
       |true=>vc X I n raw c (mem (asg c)) (inner x++A) (fun e F1 L1 N1=>match e with| .normal=>exq (wit F1 L1) fun y=>Zz n F L N rk (upd y) (obs y) (inv y++[mu y<mu x]) F1 L1|e=>Q e F1 L1 N1) (oZ F (upd x) (asg c++sD F rk N F)) (kX L (obs x)) (Ml N rk)
       |false=> .stuck 500000))
    |false=> .stuck 600000))
 | .exit id,_,_,Q,F,L,N=>Q (.exit id) F L N
 | .ret,_,_,Q,F,L,N=>Q .ret F L N
 | .scope c,al,A,Q,F,L,N=>vc X I n raw c al A (fun e F L N=>match e with| .goto _=> .stuck 910001|e=>Q e F L N) F L N
 | .label _,_,_,Q,F,L,N=>Q .normal F L N
 |_,_,_,_,_,_,_=> .stuck 900000
theorem oA.mono{n:Nat}{S T:Nat->Prop}{F:Frm}{L:bM}{FA:List AV}{LA:Sto}{G H:Frm->bM->Prop}(hS:∀d,S d->T d)(hG:∀F L,F.ok->G F L->H F L)(h:oA n S F L FA LA G):oA n T F L FA LA H:=by
 obtain⟨F',L',a,b,c,d,e,f⟩:=h;exact⟨F',L',a,b,c,d.mono hS,e,hG F' L' c f⟩
theorem aFA{p:Nat->Prop}(h:∃k,p k):∃k,p k/\∀j,p j->k<=j:=by
 obtain⟨k,hk⟩:=h;induction k using Nat.strongRecOn with
 |ind k ih=>
  by_cases hh:∃j,j<k/\p j
  ·obtain⟨j,hj,hpj⟩:=hh;exact ih j hj hpj
  ·exact⟨k,hk,fun j hj=>Nat.le_of_not_lt fun hlt=>hh ⟨j,hlt,hj⟩⟩
theorem Iu{F upd:Frm}{hav:List Nat}:Pre (fun d=>d∈upd.map (·.1)\/d∈hav) F (oZ F upd hav):=by
 refine⟨upd++(hav.map fun d=>(d,SV.any)),by unfold oZ;simp,fun q hq=> ?_⟩
 rcases List.mem_append.1 hq with h|h
 ·exact .inl (List.mem_map.2 ⟨q,h,rfl⟩)
 ·obtain⟨d,hd,rfl⟩:=List.mem_map.1 h;exact .inr hd
theorem zV{L:bM}{obs:List (Nat×SOb)}:nF L (kX L obs):=⟨_,rfl⟩
theorem On{F upd:Frm}{hav:List Nat}(hF:F.ok)(hu:∀q∈upd,q.2.ok):(oZ F upd hav).ok:=by
 intro t;unfold oZ;rw[Frm.jI,Frm.jI];split
 ·split
  ·rename_i h;exact hu _ (Ho h)
  ·rw[aBi];split<;>trivial
 ·exact hF t
theorem Wn{n:Nat}{F':Frm}:∀{upd:Frm} {ps:List Prop} {r:Rm},Xc n F' upd=some (ps,r)->∀q∈upd,q.2.ok
 |[],ps,r,_,q,hq=>by cases hq
 |(d,v)::upd,ps,r,h,q,hq=>by
  unfold Xc at h;split at h<;>cases h;rename_i p1 m1 p2 m2 h1 h2 h3 h4;rcases List.mem_cons.1 hq with rfl|hq
  ·exact SV.sP h2
  ·exact Wn h4 q hq
theorem Li{n:Nat}{F F' upd:Frm}{L L':bM}{N N':Nat}{rk:List Nat}{obs:List (Nat×SOb)}{hav:List Nat}{qs:List Prop}(h:(Zz n F L N rk upd obs qs F' L').holds)
  (hF:Pre (fun d=>d∈hav) F F') (hbad:∀d∈sD F rk N F,d∈hav) (hL:nF L L'):
  lP (F'.av n) L'.fn N' ((oZ F upd hav).av n) (kX L obs).fn (Ml N rk)/\(∀p∈qs,p)/\∀q∈upd,q.2.ok:=by
 unfold Zz at h;split at h;rename_i pz F0 La hz;split at h;rename_i pb L0 hb;split at h;rename_i p0 F1 L1 h0;split at h
 ·rename_i ps hc hm;have hp:=(jA h).1;obtain⟨⟨pa,ea1⟩,⟨qa,ea2⟩⟩:=zF h0;obtain⟨⟨pb',eb1⟩,⟨qb,eb2⟩⟩:=Ec hz;obtain⟨qc,ec2⟩:=zX hb;obtain⟨p,e1⟩:∃p,F1=p++F':=⟨pa++pb',by rw[ea1,eb1,List.append_assoc]⟩
  obtain⟨q,e2⟩:∃q,L1=q++L':=⟨qa++(qc++qb),by rw[ea2,ec2,eb2,List.append_assoc,List.append_assoc]⟩
  have wz1:=zW (n:=n) (N:=N') hz fun p hpp=>hp p (List.mem_append_left _ hpp)
  have wz2:=wX (n:=n) (N:=N') (F:=F0) hb fun p hpp=>hp p (List.mem_append_right _ (List.mem_append_left _ hpp))
  have wz:lP (F'.av n) L'.fn N' (F0.av n) L0.fn N':=fun C0 B wI a w hst=>wz2 C0 B wI a w (wz1 C0 B wI a w hst)
  have hp:∀p∈p0++(ps++qs),p:=fun p hpp=>hp p (List.mem_append_right _ (List.mem_append_right _ hpp))
  have hF1:Pre (fun d=>d∈hav) F F1:=by
   obtain⟨pre,e3,hpre⟩:=hF;refine⟨p++pre,by rw[e1,e3,List.append_assoc],fun r hr=> ?_⟩
   rcases List.mem_append.1 hr with hr|hr
   ·have:=dY hc r (by rw[e1,show(p++F').length-F'.length=p.length by simp,List.take_left];exact hr)
    rw[e3,show(pre++F).length-F.length=pre.length by simp,List.take_left]at this
    obtain⟨r',h1,h2⟩:=List.mem_map.1 ((mem_iff _ _).1 this);rw[<-h2];exact hpre r' h1
   ·exact hpre r hr
  have hL1:nF L L1:=by
   obtain⟨pre,e3⟩:=hL;exact⟨q++pre,by rw[e2,e3,List.append_assoc]⟩
  have hps:∀p∈ps,p:=fun p hpp=>hp p (List.mem_append_right _ (List.mem_append_left _ hpp))
  refine⟨?_,fun p hpp=>hp p (List.mem_append_right _ (List.mem_append_right _ hpp)),?_⟩
  ·rcases wM (n:=n) h0 (fun p hpp=>hp p (List.mem_append_left _ hpp)) N' with⟨_,f1,f2⟩|w
   ·have:=Ih (N':=N') hm hps hF1 hbad hL1;rw[f1,f2]at this;exact fun C0 B wI a w' hst=>this C0 B wI a w' (wz C0 B wI a w' hst)
   ·have:=Ih (N':=NM) hm hps hF1 hbad hL1;exact fun C0 B wI a w' hst=>this C0 B wI a w' (w C0 B wI a w' (wz C0 B wI a w' hst))
  unfold Uu at hm;split at hm
  ·cases hm
  ·rename_i h1;exact Wn h1
 ·exact h.elim
theorem Vc{X:Cx}(hX:X.Ok){n:Nat}{raw:Nat->Nat->Bool}{id:Nat}{ops:Array Oper}{draw:Bool}{F:Frm}{L:bM}{N:Nat}{K:Frm->bM->Fm}(hF:F.ok)(h:(aFS X n raw id ops.toList draw F L N K).holds):
  aKM X.P draw ops.toList (F.av n) L.fn N fun FA LA=>oA n (fun d=>d∈asg (.region id ops draw)) F L FA LA fun F' L'=>(K F' L').holds:=by
 have hd:∀o∈ops.toList,o.dst∈ops.toList.map (·.dst):=fun o ho=>List.mem_map.2 ⟨o,ho,rfl⟩
 have hS:∀d,some d∈ops.toList.map (·.dst)->d∈asg (.region id ops draw):=by
  intro d hd;obtain⟨o,ho,e⟩:=List.mem_map.1 hd;exact List.mem_filterMap.2 ⟨o,ho,e⟩
 unfold aFS at h;split at h
 ·split at h
  ·rename_i h1 h2 h3;refine⟨_,h1,h2,by rw[Frm.eH];exact h3,?_⟩
   refine eI ?_ (xN hX ops.toList 0 F L [] hd hF h);intro FA LA log ht;have hf:Cz (Sa ops.toList) log=true:=by
    obtain⟨_,_,_,_,_,_,_,hh⟩:=ht;split at hh
    ·assumption
    ·exact hh.elim
   refine⟨hf,ht.mono hS fun F L _ hh=> ?_⟩
   rw[hf]at hh;exact hh
  ·exact h.elim
 ·split at h
  ·rename_i h1;exact⟨h1,eI (fun _ _ _ ht=>ht.mono hS fun _ _ _ h=>h) (xN hX ops.toList 0 F L [] hd hF h)⟩
  ·exact h.elim
theorem Dl{X:Cx}(hX:X.Ok){I:Inl}(hI:aAL X I){n:Nat}{raw:Nat->Nat->Bool}:∀(c:Code) (al:Nat->Bool) (A:List (Nat×Ann)) (Q:vV) (F:Frm) (L:bM) (N:Nat),(∀d∈asg c,al d=true)->F.ok->(vc X I n raw c al A Q F L N).holds->
  awp X.P c (fun e FA LA N'=>oA n (fun d=>al d=true) F L FA LA fun F' L'=>(Q e F' L' N').holds) (F.av n) L.fn N:=by
 intro c;induction c with
 |skip=>intro al A Q F L N hal hF h;exact⟨F,L,rfl,rfl,hF,Pre.rfl,nF.rfl,h⟩
 |region id ops draw=>
  intro al A Q F L N hal hF h;unfold vc at h;cases draw with
  |true=>
   have:=Vc (draw:=true) hX hF h;left;obtain⟨anc,h1,h2,h3,h4⟩:=this;exact⟨anc,h1,h2,h3,eI (fun F L log ⟨a,b⟩=>⟨a,b.mono hal fun _ _ _ h=>h⟩) h4⟩
  |false=>
  split at h
  ·rename_i pre o f args _ hin;obtain⟨e1,e2,c,e3,e4,e5⟩:=Tf hin;have hd:∀o'∈pre,o'.dst∈ops.toList.map (·.dst):=fun o' ho=>List.mem_map.2 ⟨o',by rw[e1];exact List.mem_append_left _ ho,rfl⟩
   have hS:∀d,some d∈ops.toList.map (·.dst)->al d=true:=by
    intro d hd;obtain⟨o',ho,e⟩:=List.mem_map.1 hd;exact hal d (List.mem_filterMap.2 ⟨o',ho,e⟩)
   refine .inr ⟨rfl,pre,o,e1,e2,eI ?_ (xN hX pre 0 F L [] hd hF h)⟩;rintro FA LA log ⟨F',L',rfl,rfl,hF',hpre,hpreL,hh⟩;refine(hI f _ F' n L' _ _ o c e3 e4 ?_ hh).mono ?_
   ·rw[e5,fL,List.map_map];exact List.map_congr_left fun x _=>(Ee x).symm
   ·rintro FA LA N' ⟨r,L2,hr,rfl,rfl,hpl,hq⟩;refine⟨Gm n F' o.dst r,L2,by rw[Kw],rfl,Kv hF' hr,((hpre.mono hS).trans (Du fun t ht=>hS t ?_)),hpreL.trans hpl,hq⟩
    rw[e1,List.map_append];exact List.mem_append_right _ (by rw[<-ht];exact List.mem_singleton.2 rfl)
  ·have:=Vc (draw:=false) hX hF h;left;obtain⟨h1,h2⟩:=this;exact⟨h1,eI (fun F L log b=>b.mono hal fun _ _ _ h=>h) h2⟩
 |seq a b iha ihb=>
  intro al A Q F L N hal hF h;have hala:∀d∈asg a,al d=true:=fun d hd=>hal d (List.mem_append_left _ hd)
  have halb:∀d∈asg b,al d=true:=fun d hd=>hal d (List.mem_append_right _ hd)
  unfold vc at h;split at h
  ·have h1:=iha al A _ F L N hala hF h;refine⟨fun FA LA N'=>oA n (fun d=>al d=true) F L FA LA fun F' L'=>(vc X I n raw b al A Q F' L' N').holds,iX a ?_ h1,?_⟩
   ·intro e FA LA N' h;cases e<;>exact h
   ·rintro FA LA N' ⟨F',L',rfl,rfl,hF',hpre,hpreL,hh⟩;refine⟨_,_,_,lP.rfl,iX b ?_ (ihb al A Q F' L' N' halb hF' hh)⟩;intro e FA LA N' ht;exact ht.step hpre hpreL
  ·rename_i Y wit rk inv upd obs mu inner hA;split at h
   case h_2=>exact h.elim
   rename_i hbad;have hbad:=dY hbad;obtain⟨h1,h2⟩:=Fm.mB h;have hmem:∀d,mem (asg a) d=true->d∈asg a:=fun d=>(mem_iff d _).1
   have h1:=iha (mem (asg a)) A _ F L N (fun d hd=>(mem_iff _ _).2 hd) hF h1
   refine Mh (fun FA LA N'=>∃y,(∀p∈inv y,p)/\(∀q∈upd y,q.2.ok)/\FA=(oZ F (upd y) (asg a++sD F rk N F)).av n/\LA=(kX L (obs y)).fn/\N'=Ml N rk) (iX a ?_ h1) ?_
   ·intro e FA LA N' ht;cases e
    case normal=>
     obtain⟨F',L',rfl,rfl,hF',hpre,hpreL,hh⟩:=ht;obtain⟨y,hh⟩:=Af hh;obtain⟨k1,k2,k3⟩:=Li (N':=N') (hav:=asg a++sD F rk N F) hh (hpre.mono fun d hd=>List.mem_append_left _ (hmem d hd)) (fun d hd=>List.mem_append_right _ hd) hpreL
     exact⟨_,_,_,k1,y,k2,k3,rfl,rfl,rfl⟩
    all_goals exact ht.mono (fun d hd=>hala d (hmem d hd)) fun _ _ _ h=>h
   ·rintro FA LA N' ⟨y,hy,hok,rfl,rfl,rfl⟩;have h2:=Fo ((h2:∀y:Y,Fm.holds _) y) hy;split at h2
    case h_2=>exact h2.elim
    rename_i hu;have hu:=dY hu;refine iX b ?_ (ihb al (inner y++A) Q _ _ _ halb (On hF hok) h2);intro e FA LA N' ht;refine ht.step (Iu.mono ?_) zV;rintro d (hd|hd)
    ·obtain⟨q,hq,rfl⟩:=List.mem_map.1 hd;rcases List.mem_append.1 ((mem_iff _ _).1 (hu q hq))with hd|hd
     ·exact hala _ hd
     ·exact hbad _ hd
    ·rcases List.mem_append.1 hd with hd|hd
     ·exact hala _ hd
     ·exact hbad _ hd
 |cond c t e iht ihe=>
  intro al A Q F L N hal hF h;have halt:∀d∈asg t,al d=true:=fun d hd=>hal d (List.mem_append_left _ hd)
  have hale:∀d∈asg e,al d=true:=fun d hd=>hal d (List.mem_append_right _ hd)
  unfold vc at h;have ev:∀v,Cu n F c=v->lQ (F.av n) c=v.av:=fun v hv=>by rw[<-Ee,hv]
  split at h
  ·rename_i hc;exact⟨true,ev _ hc,fun _=>iht al A Q F L N halt hF h,fun hh=>by cases hh⟩
  ·rename_i hc;exact⟨false,ev _ hc,(fun hh=>by cases hh),fun _=>ihe al A Q F L N hale hF h⟩
  ·rename_i p d hc;obtain⟨h1,h2⟩:=Fm.mB h;refine⟨@decide p d,ev _ hc,fun hh=>iht al A Q F L N halt hF ((h1:p->_) (of_decide_eq_true hh)),fun hh=>ihe al A Q F L N hale hF ((h2:¬p->_) (of_decide_eq_false hh))⟩
  ·rename_i b hc;obtain⟨h1,h2⟩:=Fm.mB h;exact⟨b,ev _ hc,fun hh=>iht al A Q F L N halt hF ((h1:b=true->_) hh),fun hh=>ihe al A Q F L N hale hF ((h2:b=false->_) hh)⟩
  ·exact h.elim
 |block id c ih=>
  intro al A Q F L N hal hF h;unfold vc at h;have:=ih al A _ F L N hal hF h;refine iX c ?_ this;intro e FA LA N' ht;cases e
  case exit id'=>
   dsimp only at ht|-;cases hb:Nat.beq id' id with
   |true=>
    rw[if_pos (Nat.eq_of_beq_eq_true hb)];rw[hb]at ht;exact ht
   |false=>
    rw[if_neg (Nat.ne_of_beq_eq_false hb)];rw[hb]at ht;exact ht
  all_goals exact ht
 |loop c ih=>
  intro al A Q F L N hal hF h;unfold vc at h;split at h
  ·split at h
   case h_2=>exact h.elim
   rename_i k0 _
   let rep:Nat->List AV->Sto->Nat->Prop:=fun k FA LA N'=>oA n (fun d=>al d=true) F L FA LA fun F' L'=>(unr (fun Q F L N=>vc X I n raw c al A Q F L N) Q k F' L' N').holds
   have hmu:∃μ:List AV->Sto->Nat->Nat,∀FA LA N',(∃k,rep k FA LA N')->rep (μ FA LA N') FA LA N'/\∀k,rep k FA LA N'->μ FA LA N'<=k:=by
    have:∀FA LA N',∃k,(∃k,rep k FA LA N')->rep k FA LA N'/\∀j,rep j FA LA N'->k<=j:=by
     intro FA LA N';by_cases hh:∃k,rep k FA LA N'
     ·obtain⟨k,h1,h2⟩:=aFA hh;exact⟨k,fun _=>⟨h1,h2⟩⟩
     ·exact⟨0,fun h=>absurd h hh⟩
    exact⟨fun FA LA N'=>Classical.choose (this FA LA N'),fun FA LA N'=>Classical.choose_spec (this FA LA N')⟩
   obtain⟨μ,hμ⟩:=hmu;refine Zs (fun FA LA N'=>∃k,rep k FA LA N') μ ⟨_,_,_,lP.rfl,k0,⟨F,L,rfl,rfl,hF,Pre.rfl,nF.rfl,h⟩⟩ ?_
   intro FA LA N' hr;have hk:=(hμ FA LA N' hr).1;generalize hkk:μ FA LA N'=k at hk|-;obtain⟨F',L',rfl,rfl,hF',hpre,hpreL,hh⟩:=hk;cases k with
   |zero=>exact hh.elim
   |succ k=>
    refine iX c ?_ (ih al A _ F' L' N' hal hF' hh);intro e FA LA N2 ht;have ht:=ht.step hpre hpreL;cases e
    case normal=>
     have hr2:rep k FA LA N2:=ht;exact⟨_,_,_,lP.rfl,⟨k,hr2⟩,Nat.lt_succ_of_le ((hμ _ _ _ ⟨k,hr2⟩).2 k hr2)⟩
    all_goals exact ht
  rename_i Y wit rk inv upd obs mu inner hA;split at h
  case h_2=>exact h.elim
  rename_i hbad;have hbad:=dY hbad;obtain⟨h1,h2⟩:=Fm.mB h;obtain⟨y0,h1⟩:=Af h1;have hmem:∀d,mem (asg c) d=true->d∈asg c:=fun d=>(mem_iff d _).1
  let hav:=asg c++sD F rk N F
  let rep:Y->List AV->Sto->Prop:=fun y FA LA=>(∀p∈inv y,p)/\(∀q∈upd y,q.2.ok)/\FA=(oZ F (upd y) hav).av n/\LA=(kX L (obs y)).fn
  obtain⟨k1,k2,k3⟩:=Li (N':=N) (hav:=hav) h1 Pre.rfl (fun d hd=>List.mem_append_right _ hd) nF.rfl
  have hmu:∃μ:List AV->Sto->Nat,∀FA LA,(∃y,rep y FA LA)->∃y,rep y FA LA/\mu y=μ FA LA/\∀z,rep z FA LA->μ FA LA<=mu z:=by
   have:∀FA LA,∃k,(∃y,rep y FA LA)->∃y,rep y FA LA/\mu y=k/\∀z,rep z FA LA->k<=mu z:=by
    intro FA LA;by_cases hh:∃y,rep y FA LA
    ·obtain⟨y,hy⟩:=hh;obtain⟨k,⟨z,hz,e⟩,hk⟩:=aFA (p:=fun k=>∃y,rep y FA LA/\mu y=k) ⟨_,y,hy,rfl⟩
     exact⟨k,fun _=>⟨z,hz,e,fun u hu=>hk _ ⟨u,hu,rfl⟩⟩⟩
    ·exact⟨0,fun h=>absurd h hh⟩
   exact⟨fun FA LA=>Classical.choose (this FA LA),fun FA LA=>Classical.choose_spec (this FA LA)⟩
  obtain⟨μ,hμ⟩:=hmu;refine aCv (fun FA LA N'=>(∃y,rep y FA LA)/\N'=Ml N rk) μ ⟨_,_,_,k1,⟨y0,k2,k3,rfl,rfl⟩,rfl⟩ ?_
  rintro FA LA N' ⟨hr,rfl⟩;obtain⟨x,⟨hx,hok,rfl,rfl⟩,hmx,_⟩:=hμ FA LA hr;have h2:=Fo ((h2:∀x:Y,Fm.holds _) x) hx;split at h2
  case h_2=>exact h2.elim
  rename_i hu;have hu:=dY hu;have hpre0:Pre (fun d=>d∈hav) F (oZ F (upd x) hav):=by
   refine Iu.mono ?_;rintro d (hd|hd)
   ·obtain⟨q,hq,rfl⟩:=List.mem_map.1 hd;exact(mem_iff _ _).1 (hu q hq)
   ·exact hd
  refine iX c ?_ (ih (mem (asg c)) (inner x++A) _ _ _ _ (fun d hd=>(mem_iff _ _).2 hd) (On hF hok) h2)
  intro e FA' LA' N' ht;have up:∀(G:Frm->bM->Prop),oA n (fun d=>mem (asg c) d=true) (oZ F (upd x) hav) (kX L (obs x)) FA' LA' G->oA n (fun d=>al d=true) F L FA' LA' G:=by
   intro G ht;refine(ht.mono (fun d hd=>hal d (hmem d hd)) fun _ _ _ h=>h).step (hpre0.mono ?_) zV
   intro d hd;rcases List.mem_append.1 hd with hd|hd
   ·exact hal d hd
   ·exact hbad _ hd
  cases e
  case normal=>
   obtain⟨F',L',rfl,rfl,hF',hpre,hpreL,hh⟩:=ht;obtain⟨y,hh⟩:=Af hh;obtain⟨k1,k2,k3⟩:=Li (N':=N') (hav:=hav) hh (hpre0.trans (hpre.mono fun d hd=>List.mem_append_left _ (hmem d hd))) (fun d hd=>List.mem_append_right _ hd) (zV.trans hpreL)
   have hry:rep y ((oZ F (upd y) hav).av n) (kX L (obs y)).fn:=⟨fun p h=>k2 p (List.mem_append_left _ h),k3,rfl,rfl⟩
   refine⟨_,_,_,k1,⟨⟨y,hry⟩,rfl⟩,?_⟩;obtain⟨z,_,ez,hz⟩:=hμ _ _ ⟨y,hry⟩;have g1:=hz y hry;have g2:mu y<mu x:=k2 _ (List.mem_append_right _ (List.mem_singleton.2 rfl));omega
  all_goals exact up _ ht
 |exit id=>intro al A Q F L N hal hF h;exact⟨F,L,rfl,rfl,hF,Pre.rfl,nF.rfl,h⟩
 |ret=>intro al A Q F L N hal hF h;exact⟨F,L,rfl,rfl,hF,Pre.rfl,nF.rfl,h⟩
 |rangeFunc f params x y _ _=>intro al A Q F L N hal hF h;exact h.elim
 |scope c ih=>
  intro al A Q F L N hal hF h;unfold vc at h;refine iX c ?_ (ih al A _ F L N hal hF h);intro e FA LA N' ht;cases e<;>first|exact ht|(obtain⟨_,_,_,_,_,_,_,hh⟩:=ht;exact hh.elim)
 |label l=>intro al A Q F L N hal hF h;exact⟨F,L,rfl,rfl,hF,Pre.rfl,nF.rfl,h⟩
 |goto l=>intro al A Q F L N hal hF h;exact h.elim
 |refuse s=>intro al A Q F L N hal hF h;exact h.elim
end
end Go.Proofs.YtdaeofhdgabhjaaGreat
namespace Go.Proofs.YtdaeofhdgabhjaaGreat
open Go.RowKit
noncomputable section
def Gk(P:Program)(n:Nat)(F:Frm)(σ:Sg):List ResultVar->Option (List SV)
 |[] =>some []
 | .tmp t::rs=>(match Nat.blt t n,Gk P n F σ rs with|true,some l=>some (F.at t::l)|_,_=>none)
 | .cell a t::rs=>(match Nat.blt a n,F.at a,Gk P n F σ rs with
   |true,.ptr s off,some l=>(match σ s with
    |some (.box _ cs)=>(match vR P t cs off with|some r=>some (r::l)|none=>none)
    |some (.arr _ _ cs)=>(match vR P t cs off with|some r=>some (r::l)|none=>none)
    |_=>none)
   |_,_,_=>none)
theorem pB{P:Program}{n:Nat}{F:Frm}{σ:Sg}:∀{rs:List ResultVar} {l:List SV} {K:List AV->Prop},Gk P n F σ rs=some l->K (avs l)->pS P rs (F.av n) σ.a K
 |[],l,K,h,hK=>by cases h;exact hK
 | .tmp t::rs,l,K,h,hK=>by
   unfold Gk at h;split at h<;>cases h;rename_i l' h1 h2;unfold pS;refine pB h2 ?_;rw[Frm.jZ ((fU _ _).1 h1)];exact hK
 | .cell a t::rs,l,K,h,hK=>by
   unfold Gk at h;split at h
   case h_2=>cases h
   rename_i s off l' h1 h2 h3;unfold pS;rw[Frm.jZ ((fU _ _).1 h1),h2];show∃ob,Sg.a σ (bD s)=some ob/\_;split at h
   ·rename_i ty cs hs;split at h<;>cases h;rename_i r hr;exact⟨_,by rw[Sg.cL,hs];rfl,mM hr (pB h3 hK)⟩
   ·rename_i ty ez cs hs;split at h<;>cases h;rename_i r hr;exact⟨_,by rw[Sg.cL,hs];rfl,mM hr (pB h3 hK)⟩
   ·cases h
def Qq:List SV->SV
 |[x] =>x
 |l=> .tup l
def aCQ(P:Program)(n:Nat)(rs:List ResultVar)(r:SV)(F:Frm)(L:bM):Fm:=match Gk P n F L.at rs with
 |some l=>(match rY (oH 3 L.at) l with
  |some (ps,m)=>(match eqv 3 r (Qq m)with
   |some (qs,[])=>Al (ps++qs) .tt
   |_=> .stuck 920000)
  |none=> .stuck 930000)
 |none=> .stuck 940000
def aJc(P:Program)(n:Nat)(rs:List ResultVar)(r:SV):vV:=fun e F L _=>match e with
 | .normal=>aCQ P n rs r F L
 | .ret=>aCQ P n rs r F L
 |_=> .stuck 910000
theorem aDf{P:Program}{n:Nat}{rs:List ResultVar}{r:SV}{q:PV}(hr:r.av= .p q){e:Exit}{F:Frm}{L:bM}{N:Nat}(h:(aJc P n rs r e F L N).holds):aF2 P rs q e (F.av n) L.fn N:=by
 have key:(aCQ P n rs r F L).holds->pS P rs (F.av n) L.fn fun l=>∃m,iC (fW 3 L.fn) l=some m/\Qr m=q:=by
  intro h;unfold aCQ at h;split at h
  case h_2=>exact h.elim
  rename_i l hl;split at h
  case h_2=>exact h.elim
  rename_i ps m hm;split at h
  case h_2=>exact h.elim
  rename_i qs he;have hp:=(jA h).1;have e2:Sg.a L.at=L.fn:=rfl;rw[<-e2];refine pB hl ?_;obtain⟨u,h1,h2⟩:=xR (fun x ps y=>Do) hm (fun p hpp=>hp p (List.mem_append_left _ hpp))
  refine⟨u,h1,?_⟩;have h3:=uQ (m:=fun _=>none) 3 r (Qq m) qs [] he (fun p hpp=>hp p (List.mem_append_right _ hpp)) (fun q hq=>by cases hq)
  rw[hr]at h3;unfold cX at h3;have h4:(Qq m).av= .p (Qr u):=by
   cases m with
   |nil=>
    have:u=[] :=by
     have:=congrArg List.length h2;simp[avs]at this;exact List.length_eq_zero_iff.1 (by omega)
    subst this;rfl
   |cons x m=>
    cases m with
    |nil=>
     cases u with
     |nil=>simp[avs]at h2
     |cons y u=>
      have h5:u=[] :=by
       have:=congrArg List.length h2;simp only[avs,List.map_cons,List.length_cons,List.length_nil,List.length_map]at this;exact List.length_eq_zero_iff.1 (by omega)
      subst h5;simp only[avs,List.map_cons,List.map_nil,List.cons.injEq,and_true]at h2;exact h2
    |cons y m=>
     have h5:(Qq (x::y::m)).av=nB (avs (x::y::m)):=rfl;rw[h5,h2];unfold nB;rw[cB];cases u with
     |nil=>simp[avs]at h2
     |cons a u=>
      cases u with
      |nil=>simp[avs]at h2
      |cons b u=>rfl
  rw[h4]at h3;cases h3;rfl
 cases e<;>first|exact h.elim|exact key h
structure Ar(α:Type) where
 enc:α->SV
 dec:SV->Option α
 ok:∀s a,dec s=some a->s.av=(enc a).av
 pl:∀a,∃q,(enc a).av= .p q
structure Arl(α:Type) where
 enc:α->List SV
 dec:List SV->Option α
 ok:∀s a,dec s=some a->avs s=avs (enc a)
 pl:∀a,∃q:List PV,avs (enc a)=q.map .p
def a0:Arl Unit:=⟨fun _=>[],fun l=>match l with|[] =>some ()|_=>none,fun s _ h=>(by cases s with|nil=>rfl|cons x l=>cases h),fun _=>⟨[],rfl⟩⟩
def a1{α:Type}(A:Ar α):Arl α:=⟨fun a=>[A.enc a],fun l=>match l with|[x] =>A.dec x|_=>none,fun s a h=>by
  match s,h with
  |[x],h=>simp only[avs,A.ok x a h],
 fun a=>by obtain⟨q,h⟩:=A.pl a;exact⟨[q],by simp only[avs,h,List.map_cons,List.map_nil]⟩⟩
def ac{α β:Type}(A:Ar α)(B:Arl β):Arl (α×β):=⟨fun a=>A.enc a.1::B.enc a.2,fun l=>match l with
  |x::r=>(match A.dec x,B.dec r with|some a,some b=>some (a,b)|_,_=>none)
  |_=>none,fun s a h=>by
  match s,h with
  |x::r,h=>
   dsimp only at h;split at h<;>cases h;rename_i a b h1 h2;simp only[avs,A.ok x a h1,B.ok r b h2],
 fun a=>by
  obtain⟨q,h⟩:=A.pl a.1;obtain⟨r,k⟩:=B.pl a.2;exact⟨q::r,by simp only[avs,h,k,List.map_cons]⟩⟩
def aI:Ar Int:=⟨fun n=> .int .i64 n,fun s=>match s with| .int .i64 n=>some n|_=>none,fun _ _ h=>by
 (split at h<;>cases h;rfl),fun _=>⟨_,rfl⟩⟩
def aN:Ar Nat:=⟨fun n=> .int .i64 (n:Int),fun s=>match s with| .int .i64 (.ofNat n)=>some n|_=>none,fun _ _ h=>by
 (split at h<;>cases h;rfl),fun _=>⟨_,rfl⟩⟩
def aB:Ar Bool:=⟨fun b=> .bool b,My,fun _ _ h=>tL h,fun _=>⟨_,rfl⟩⟩
def aV:Ar Geo.V:=⟨fun v=> .agg [.int .i64 v.x,.int .i64 v.y],fun s=>match s with| .agg [.int .i64 x,.int .i64 y] =>some ⟨x,y⟩|_=>none,fun _ _ h=>by
 (split at h<;>cases h;rfl),fun _=>⟨_,rfl⟩⟩
def aS:Ar Geo.S:=⟨fun s=> .agg [.int .i64 s.a.x,.int .i64 s.a.y,.int .i64 s.b.x,.int .i64 s.b.y],fun s=>match s with| .agg [.int .i64 x,.int .i64 y,.int .i64 z,.int .i64 w] =>some ⟨⟨x,y⟩,⟨z,w⟩⟩|_=>none,fun _ _ h=>by
 (split at h<;>cases h;rfl),fun _=>⟨_,rfl⟩⟩
def aT:Ar Geo.Pt:=⟨fun p=> .agg [.int .i64 p.x,.int .i64 p.y,.int .i64 p.den],fun s=>match s with| .agg [.int .i64 x,.int .i64 y,.int .i64 z] =>some ⟨x,y,z⟩|_=>none,fun _ _ h=>by
 (split at h<;>cases h;rfl),fun _=>⟨_,rfl⟩⟩
def Gn(t:LT)(s:SV):Option (List t.ty):=match s with
 | .lst t' l=>(match decEq t' t with| .isTrue h=>some (h▸l)| .isFalse _=>none)
 | .sl 0 [] =>some []
 | .sl n cs=>t.decs n cs
 |_=>none
theorem pC{t:LT}{s:SV}{l:List t.ty}(h:Gn t s=some l):s.av= .p (.sl l.length (t.enc l)):=by
 unfold Gn at h;split at h
 ·rename_i t' l';split at h
  ·rename_i e _;subst e;cases h;rfl
  ·cases h
 ·cases h;rfl
 ·rename_i n cs _;obtain⟨e1,e2⟩:=LT.uR h;show(match cR (avs cs)with|some q=>AV.p (.sl n q)|none=> .any)=_
  rw[e2,cB,e1]
 ·cases h
def aL(t:LT):Ar (List t.ty):=⟨fun l=> .lst t l,Gn t,fun _ _ h=>pC h,fun _=>⟨_,rfl⟩⟩
def shD(s:SV):Option Geo.Shape:=match s with
 | .agg [r,h] =>(match Gn .V r,Gn .R h with|some o,some hs=>some ⟨o,hs⟩|_,_=>none)
 |_=>none
theorem aGy(s:SV)(a:Geo.Shape)(h:shD s=some a):s.av=(SV.agg [.lst .V a.outer,.lst .R a.holes]).av:=by
 unfold shD at h;split at h
 ·rename_i r h';split at h<;>cases h;rename_i o hs h1 h2;simp only[SV.av,avs,pC h1,pC h2]
 ·cases h
def aSh:Ar Geo.Shape:=⟨fun s=> .agg [.lst .V s.outer,.lst .R s.holes],shD,aGy,fun _=>⟨_,rfl⟩⟩
def con{α:Type}(A:Arl α)(pre:α->List Prop)(res:α->SV):Con:=⟨α,A.dec,pre,.val false res⟩
def Gs(l:List SV):Nat->Frm
 |k=>match l with
  |[] =>[]
  |x::l=>(k,x)::Gs l (k+1)
theorem Ln:∀(l:List SV) (k t:Nat),(Gs l k).at t=if k<=t then(match l[t-k]? with|some x=>x|none=> .undef)else .undef
 |[],k,t=>by simp[Gs,Frm.at]
 |x::l,k,t=>by
  unfold Gs;rw[Frm.jH,Ln l (k+1) t];by_cases h:t=k
  ·subst h;simp
  ·rw[if_neg h];by_cases h2:k<=t
   ·rw[if_pos h2,if_pos (by omega)]
    rw[show t-k=(t-(k+1))+1 by omega]
    simp
   ·rw[if_neg h2,if_neg (by omega)]
theorem Ph{l:List SV}{n:Nat}(hn:l.length<=n):(Gs l 0).av n=avs l++List.replicate (n-(avs l).length) .undef:=by
 apply List.ext_getElem?;intro i;unfold Frm.av;rw[List.getElem?_map];by_cases hi:i<n
 ·rw[List.getElem?_range hi,Option.map_some,Ln,if_pos (Nat.zero_le _),Nat.sub_zero];by_cases h2:i<l.length
  ·rw[List.getElem?_append_left (by rw[dR];exact h2),xU,List.getElem?_eq_getElem h2];rfl
  ·rw[List.getElem?_append_right (by rw[dR];omega),List.getElem?_replicate,List.getElem?_eq_none (by omega),dR,if_pos (by omega)];rfl
 ·rw[List.getElem?_eq_none (by simp;omega),List.getElem?_eq_none (by simp[dR];omega)];rfl
theorem Lm{args:List SV}(hpe:∀v∈args,v.ape=false):(Gs args 0).ok:=by
 intro t;rw[Ln,if_pos (Nat.zero_le _)];split
 ·rename_i x hx;exact SV.sP (hpe x (List.mem_of_getElem? hx))
 ·trivial
theorem aGU:bM.fn [] =fun _=>none:=by
 funext s
 rcases eL s with⟨x,rfl⟩|⟨x,a,rfl⟩|hno
 ·exact Sg.cL _ x
 ·exact Sg.gK _ x a
 ·exact Sg.sF _ hno
def bO:Nat->Nat->Bool:=fun _ _=>false
def aF7(X:Cx):Inl:=fun f xs F n L N K=>match rX X.P f,X.P.funcs[f]?,L.at 0 with
 |true,some fn,some (.box 0 (.undef::S))=>(match fn.body with
  |some c=>(match Nat.ble xs.length fn.ntmps,jQ (fun v:SV=>match v.ape with|true=>false|false=>true) xs with
   |true,true=>
    let fin:Frm->bM->Nat->Fm:=fun F' L' N'=>match jQ (fun q:Nat×Option SOb=>match Nat.beq q.1 0 with|true=>false|false=>true) (L'.take (L'.length-(L.length+1)))with
     |true=>(match Gk X.P fn.ntmps F' L'.at fn.results.toList with
      |some [] =>K .undef ((0,some (.box 0 (.undef::S)))::L') N'
      |some [r] =>(match r.ape with|false=>K r ((0,some (.box 0 (.undef::S)))::L') N'|true=> .stuck 991001)
      |_=> .stuck 991002)
     |false=> .stuck 991003
    vc X aAy fn.ntmps bO c (fun _=>true) [] (fun e F' L' N'=>match e with
     | .normal=>fin F' L' N'
     | .ret=>fin F' L' N'
     |_=> .stuck 991004) (Gs xs 0) ((0,some (.box 0 (.undef::(S++(List.range n).map F.at))))::L) N
   |_,_=> .stuck 991005)
  |none=> .stuck 991006)
 |_,_,_=> .stuck 991007
theorem aCx{L:bM}{pre:bM}{s:Nat}(h:∀q∈pre,q.1≠s):bM.at (pre++L) s=L.at s:=by
 induction pre with
 |nil=>rfl
 |cons q pre ih=>
  obtain⟨k,x⟩:=q;have hk:Nat.beq s k=false:=by
   cases hb:Nat.beq s k with
   |false=>rfl
   |true=>exact absurd (Nat.eq_of_beq_eq_true hb).symm (h (k,x) List.mem_cons_self)
  show(match Nat.beq s k with|true=>x|false=>bM.at (pre++L) s)=_
  rw[hk];exact ih fun q hq=>h q (List.mem_cons_of_mem _ hq)
theorem Vh{L:bM}{cs T:List SV}(hL:L.at 0=some (.box 0 cs)):bM.fn ((0,some (.box 0 T))::L)=cG L.fn [(jJ,some ⟨0,0,avs T⟩)] :=by
 have h:=(cW.flat (σ:=L.at) (rd:=[]) (W:=[(0,some (.box 0 T))]) fun q hq=>by rw[List.mem_singleton.1 hq,hL];exact⟨rfl,rfl⟩).2.2
 rw[bM.Ui]at h;have e:bD 0=jJ:=rE (by unfold NM;omega)
 unfold bM.fn;rw[show bM.at ((0,some (.box 0 T))::L)=bM.at ([(0,some (SOb.box 0 T))] ++L)from rfl,<-h,<-e];rfl
theorem aAU{L:bM}{cs:List SV}(hL:L.at 0=some (.box 0 cs)):L.fn jJ=some ⟨0,0,avs cs⟩:=by
 have e:bD 0=jJ:=rE (by unfold NM;omega)
 rw[<-e];show Sg.a L.at (bD 0)=_;rw[Sg.cL,hL];rfl
theorem Zt(F:Frm)(n:Nat):avs ((List.range n).map F.at)=F.av n:=by
 rw[fL,List.map_map];rfl
theorem aDw{X:Cx}(hX:X.Ok):aAL X (aF7 X):=by
 intro f xs F n L N K o c ho hc hargs h;unfold aF7 at h;split at h
 case h_2=>exact h.elim
 rename_i fn S hok hf hL;split at h
 case h_2=>exact h.elim
 rename_i body hb;split at h
 case h_2=>exact h.elim
 rename_i hn hpe;have hn:=Nat.le_of_ble_eq_true hn;have hpe:∀v∈xs,v.ape=false:=fun v hv=>by
  have:=dY hpe v hv;cases hh:v.ape with
  |true=>rw[hh]at this;cases this
  |false=>rfl
 have hw:=Dl hX (Oc X) body (fun _=>true) [] _ _ _ N (fun _ _=>rfl) (Lm hpe) h
 rw[Ph hn,Vh hL]at hw;have hT:avs (.undef::(S++(List.range n).map F.at))= .undef::(avs S++F.av n):=by rw[aCw,kJ,Zt];rfl
 rw[hT]at hw;refine aB7 (fid:=f) (A:=avs xs) (S:=avs S) (f:= .func f) ho hc rfl hargs hok hf hb (by rw[aAU hL];rfl) (iX body ?_ hw)
 rintro e FA LA N' ⟨F',L',rfl,rfl,hF',hpre,⟨pre,hpl⟩,hh⟩;have fin:(match jQ (fun q:Nat×Option SOb=>match Nat.beq q.1 0 with|true=>false|false=>true) (L'.take (L'.length-(L.length+1)))with
    |true=>(match Gk X.P fn.ntmps F' L'.at fn.results.toList with
     |some [] =>K .undef ((0,some (.box 0 (.undef::S)))::L') N'
     |some [r] =>(match r.ape with|false=>K r ((0,some (.box 0 (.undef::S)))::L') N'|true=> .stuck 991001)
     |_=> .stuck 991002)
    |false=> .stuck 991003).holds->
   pS X.P fn.results.toList (F'.av fn.ntmps) L'.fn fun l=>∃S2 F2,L'.fn jJ=some ⟨0,0,.undef::(S2++F2)⟩/\S2.length=(avs S).length/\F2.length=(F.av n).length/\
    (fun FA LA N'=>∃r L2,r.ok/\FA=jC (F.av n) o.dst r.av/\LA=bM.fn L2/\nF L L2/\(K r L2 N').holds) (jC F2 o.dst (Mn l)) (cG L'.fn [(jJ,some ⟨0,0,.undef::S2⟩)]) N':=by
  intro hh;split at hh
  case h_2=>exact hh.elim
  rename_i h0;have hat:L'.at 0=some (.box 0 (.undef::(S++(List.range n).map F.at))):=by
   rw[hpl];have h1:=dY h0;rw[hpl,show(pre++(0,some (SOb.box 0 (.undef::(S++(List.range n).map F.at))))::L).length-(L.length+1)=pre.length by simp,List.take_left]at h1
   rw[aCx fun q hq e=>by have:=h1 q hq;rw[e]at this;cases this]
   rfl
  have hst:L'.fn jJ=some ⟨0,0,.undef::(avs S++F.av n)⟩:=by rw[aAU hat,hT]
  have hL2:bM.fn ((0,some (.box 0 (.undef::S)))::L')=cG L'.fn [(jJ,some ⟨0,0,.undef::avs S⟩)] :=Vh hat;have hpl2:nF L ((0,some (.box 0 (.undef::S)))::L'):=⟨(0,some (.box 0 (.undef::S)))::(pre++[(0,some (.box 0 (.undef::(S++(List.range n).map F.at))))]),by rw[hpl];simp⟩
  split at hh
  ·rename_i hr;exact pB hr ⟨avs S,F.av n,hst,rfl,rfl,.undef,_,trivial,rfl,hL2.symm,hpl2,hh⟩
  ·rename_i r hr;split at hh
   ·rename_i hrp;exact pB hr ⟨avs S,F.av n,hst,rfl,rfl,r,_,SV.sP hrp,rfl,hL2.symm,hpl2,hh⟩
   ·exact hh.elim
  ·exact hh.elim
 cases e<;>first|exact fin hh|exact hh.elim
def Uh(X:Cx)(st:Bool)(raw:Nat->Nat->Bool)(f:Nat)(ann:List (Nat×Ann))(args:List SV)(post:Nat->List ResultVar->vV):Fm:=match rX X.P f,X.P.funcs[f]? with
 |true,some fn=>(match fn.body with
  |some c=>(match Nat.ble args.length fn.ntmps,jQ (fun v=>match v.ape with|true=>false|false=>true) args with
   |true,true=>(match st with
    |false=>vc X aAy fn.ntmps raw c (fun _=>true) ann (post fn.ntmps fn.results.toList) (Gs args 0) [] 0
    |true=>vc X (aF7 X) fn.ntmps raw c (fun _=>true) ann (post fn.ntmps fn.results.toList) (Gs args 0) [(0,some (.box 0 [.undef]))] 1)
   |_,_=> .stuck 950000)
  |none=> .stuck 960000)
 |_,_=> .stuck 970000
def aDY(X:Cx)(raw:Nat->Nat->Bool)(f:Nat)(ann:List (Nat×Ann))(args:List SV)(post:Nat->List ResultVar->vV):Fm:=Uh X false raw f ann args post
def aG6(X:Cx)(raw:Nat->Nat->Bool)(f:Nat)(ann:List (Nat×Ann))(args:List SV)(r:SV):Fm:=aDY X raw f ann args fun n rs=>aJc X.P n rs r
theorem aGT:bM.fn [(0,some (.box 0 [.undef]))] =Zw:=by
 have e:bD 0=jJ:=rE (by unfold NM;omega)
 funext s
 unfold Zw;rcases eL s with⟨x,rfl⟩|⟨x,a,rfl⟩|hno
 ·show Sg.a _ (bD x)=_;rw[Sg.cL];by_cases hx:x=0
  ·subst hx;rw[if_pos e];rfl
  ·rw[if_neg (fun h=>hx (gW (h.trans e.symm)))]
   show Option.map _ (match Nat.beq x 0 with|true=>_|false=>none)=none
   cases hb:Nat.beq x 0 with
   |true=>exact absurd (Nat.eq_of_beq_eq_true hb) hx
   |false=>rfl
 ·show Sg.a _ (inn x (a+1))=_;rw[Sg.gK,if_neg (fun h=>by have h:inn x (a+1)=bD 0:=h.trans e.symm;have:=(dO h).2;omega)]
  show Option.bind (match Nat.beq x 0 with|true=>_|false=>none) _=none
  cases Nat.beq x 0<;>rfl
 ·show Sg.a _ s=_;rw[Sg.sF _ hno,if_neg (fun h=>hno 0 0 (h.trans e.symm))]
theorem Dj{X:Cx}(hX:X.Ok){st:Bool}{raw:Nat->Nat->Bool}{f:Nat}{ann:List (Nat×Ann)}{args:List SV}{post:Nat->List ResultVar->vV}{A:List PV}{Q:List ResultVar->vW}(hA:avs args=A.map .p)
  (hQ:∀n rs e (F:Frm) (L:bM) N,(post n rs e F L N).holds->Q rs e (F.av n) L.fn N) (h:(Uh X st raw f ann args post).holds):
  rX X.P f=true/\∃fn c L0 N0,X.P.funcs[f]? =some fn/\fn.body=some c/\wL L0 N0/\awp X.P c (Q fn.results.toList) (A.map .p++List.replicate (fn.ntmps-A.length) .undef) L0 N0:=by
 unfold Uh at h;split at h
 case h_2=>exact h.elim
 rename_i fn hok hf;split at h
 case h_2=>exact h.elim
 rename_i c hb;split at h
 case h_2=>exact h.elim
 rename_i hn hpe;have hn:=Nat.le_of_ble_eq_true hn;have hpe:∀v∈args,v.ape=false:=fun v hv=>by
  have:=dY hpe v hv;cases hh:v.ape with
  |true=>rw[hh]at this;cases this
  |false=>rfl
 have hal:(A.map AV.p).length=A.length:=List.length_map ..;have hAF:A.map .p++List.replicate (fn.ntmps-A.length) .undef=(Gs args 0).av fn.ntmps:=by rw[Ph hn,hA,hal]
 split at h
 ·refine⟨hok,fn,c,bM.fn [],0,hf,hb,.inl ⟨aGU,rfl⟩,?_⟩;rw[hAF];refine iX c ?_ (Dl hX (Oc X) c (fun _=>true) ann _ _ [] 0 (fun _ _=>rfl) (Lm hpe) h)
  rintro e FA LA N' ⟨F',L',rfl,rfl,_,_,_,hh⟩;exact hQ _ _ _ _ _ _ hh
 ·refine⟨hok,fn,c,bM.fn [(0,some (.box 0 [.undef]))],1,hf,hb,.inr ⟨aGT,rfl⟩,?_⟩;rw[hAF];refine iX c ?_ (Dl hX (aDw hX) c (fun _=>true) ann _ _ _ 1 (fun _ _=>rfl) (Lm hpe) h)
  rintro e FA LA N' ⟨F',L',rfl,rfl,_,_,_,hh⟩;exact hQ _ _ _ _ _ _ hh
theorem aBk{X:Cx}(hX:X.Ok){raw:Nat->Nat->Bool}{f:Nat}{ann:List (Nat×Ann)}{args:List SV}{r:SV}{A:List PV}{q:PV}(hA:avs args=A.map .p)(hq:r.av= .p q)(h:(aG6 X raw f ann args r).holds):Sat X.P false f A q:=by
 obtain⟨hok,fn,c,L0,N0,hf,hb,h0,hw⟩:=Dj hX (st:=false) (Q:=fun rs=>aF2 X.P rs q) hA (fun n rs e F L N hh=>aDf hq hh) h
 exact Sp hok hf hb h0 hw
def aCR(P:Program)(n:Nat)(rs:List ResultVar)(ty:Nat)(t:LT)(l:List t.ty)(ys:List SV)(F:Frm)(L:bM):Fm:=match Gk P n F L.at rs with
 |some (v::r)=>(match Gq (eqv 3) ys r with
  |some (qs,[])=>(match v with
   | .nil=>Al ((l=[])::qs) .tt
   | .own s _ k=>(match L.at s with
     |some (.row ty' t' l')=>(match Nat.beq ty' ty,decEq t' t with
      |true,.isTrue h=>Al ([(h▸l':List t.ty)=l,k=l'.length] ++qs) .tt
      |_,_=> .stuck 980001)
     |_=> .stuck 980002)
   |_=> .stuck 980003)
  |_=> .stuck 980004)
 |_=> .stuck 980005
def aFs(P:Program)(ty:Nat)(t:LT)(l:List t.ty)(ys:List SV)(n:Nat)(rs:List ResultVar):vV:=fun e F L _=>match e with
 | .normal=>aCR P n rs ty t l ys F L
 | .ret=>aCR P n rs ty t l ys F L
 |_=> .stuck 910000
theorem Nt{m:Rf}:∀{q:List PV} {r:List AV},dP m (q.map .p) r->r=q.map .p
 |[],r,h=>by rw[List.map_nil]at h;unfold dP at h;exact h
 |x::q,r,h=>by
  rw[List.map_cons]at h;unfold dP at h;obtain⟨y,r',rfl,h1,h2⟩:=h;unfold cX at h1;rw[h1,Nt h2];rfl
theorem aBJ{P:Program}{n:Nat}{rs:List ResultVar}{ty:Nat}{t:LT}{l:List t.ty}{ys:List SV}{Y:List PV}(hY:avs ys=Y.map .p){e:Exit}{F:Frm}{L:bM}{N:Nat}(h:(aFs P ty t l ys n rs e F L N).holds):aF3 P rs ty t.w (t.enc l) l.length Y e (F.av n) L.fn N:=by
 have key:(aCR P n rs ty t l ys F L).holds->pS P rs (F.av n) L.fn fun lA=>(∃s,lA= .own s 0 l.length::Y.map .p/\L.fn s=some ⟨ty,t.w,(t.enc l).map .p⟩)\/(lA= .nil::Y.map .p/\l.length=0/\t.enc l=[]):=by
  intro h;unfold aCR at h;split at h
  case h_2=>exact h.elim
  rename_i v r hl;split at h
  case h_2=>exact h.elim
  rename_i qs he;have e2:Sg.a L.at=L.fn:=rfl;have hr:(∀p∈qs,p)->avs r=Y.map .p:=fun hp=>by
   have:=mO (m:=fun _=>none) (uQ 3) he hp (fun q hq=>by cases hq)
   rw[hY]at this;exact Nt this
  rw[<-e2];refine pB hl ?_;split at h
  ·have hp:=(jA h).1;have hl0:l=[] :=hp _ List.mem_cons_self;subst hl0;refine .inr ⟨?_,rfl,rfl⟩;show AV.nil::avs r=_;rw[hr fun p hpp=>hp p (List.mem_cons_of_mem _ hpp)]
  ·rename_i s t2 k;split at h
   case h_2=>exact h.elim
   rename_i ty' t' l' hs;split at h
   case h_2=>exact h.elim
   rename_i h2 hty _;subst h2;have hp:=(jA h).1;have h3:l'=l:=hp _ (List.mem_append_left _ List.mem_cons_self);have h4:k=l'.length:=hp _ (List.mem_append_left _ (List.mem_cons_of_mem _ List.mem_cons_self));subst h3;refine .inl ⟨bD s,?_,?_⟩
   ·show AV.own (bD s) 0 k::avs r=_;rw[hr fun p hpp=>hp p (List.mem_append_right _ hpp),h4]
   ·rw[Sg.cL,hs,<-Nat.eq_of_beq_eq_true hty];rfl
  ·exact h.elim
 cases e<;>first|exact h.elim|exact key h
def aGh{α:Type}(A:Arl α)(pre:α->List Prop)(ty:Nat)(t:LT)(l:α->List t.ty)(ys:α->List SV):Con:=⟨α,A.dec,pre,.own ty t l ys⟩
theorem Ws{X:Cx}(hX:X.Ok){raw:Nat->Nat->Bool}{f:Nat}{α:Type}{A:Arl α}{pre:α->List Prop}{ty:Nat}{t:LT}{l:α->List t.ty}{ys:α->List SV}(ann:α->List (Nat×Ann))(hr:∀x,∃q:List PV,avs (ys x)=q.map .p)
  (h:∀x,Jp (pre x)->(aDY X raw f (ann x) (A.enc x) (aFs X.P ty t (l x) (ys x))).holds):(aGh A pre ty t l ys).Ok X.P f:=by
 intro s x hd hp;obtain⟨B,hB⟩:=A.pl x;obtain⟨q,hq⟩:=hr x;obtain⟨hok,fn,c,L0,N0,hf,hb,h0,hw⟩:=Dj hX (st:=false) (Q:=fun rs=>aF3 X.P rs ty t.w (t.enc (l x)) (l x).length q) hB (fun n rs e F L N hh=>aBJ hq hh) (h x (gE.2 hp))
 exact⟨B,q,by rw[A.ok s x hd,hB],hq,Ps hok (Nat.ne_of_gt t.oC) hf hb h0 hw⟩
theorem aX{X:Cx}(hX:X.Ok){raw:Nat->Nat->Bool}{f:Nat}{α:Type}{A:Arl α}{pre:α->List Prop}{res:α->SV}(ann:α->List (Nat×Ann))(hr:∀x,∃q,(res x).av= .p q)(h:∀x,Jp (pre x)->(aG6 X raw f (ann x) (A.enc x) (res x)).holds):(con A pre res).Ok X.P f:=by
 intro s x hd hp;obtain⟨B,hB⟩:=A.pl x;obtain⟨q,hq⟩:=hr x;exact⟨B,q,by rw[A.ok s x hd,hB],hq,aBk hX hB hq (h x (gE.2 hp))⟩
def Da(r:Rm):List Nat:=match r with
 |[] =>[]
 |(k,none)::r=>k::Da r
 |(_,some _)::r=>Da r
def aAw(ns:List Nat)(r:Rm):Bool:=jQ (fun q:Nat×Option Nat=>match q.2 with
 |some k=>(match Nat.beq q.1 k,mem ns q.1 with|true,false=>true|_,_=>false)
 |none=>mem ns q.1) r
open Classical in
def idm(ns:List Nat):Rf:=fun s=>if∃k∈ns,s=bD k then some none else some (some s)
theorem aFC{ns:List Nat}{k:Nat}(h:mem ns k=false):idm ns (bD k)=some (some (bD k)):=by
 unfold idm;rw[if_neg];rintro⟨x,hx,e⟩;rw[gW e,(mem_iff x ns).2 hx]at h;cases h
theorem aA7(ns:List Nat)(x a:Nat):idm ns (inn x (a+1))=some (some (inn x (a+1))):=by
 unfold idm;rw[if_neg];rintro⟨y,hy,e⟩;have e:inn x (a+1)=inn y 0:=e;have:=(dO e).2;omega
theorem Nq{ns:List Nat}{r:Rm}(h:aAw ns r=true):jM (idm ns) r:=by
 intro q hq;have h:=dY h q hq;obtain⟨s,o⟩:=q;cases o with
 |none=>
  unfold idm;exact if_pos ⟨s,(mem_iff s ns).1 h,rfl⟩
 |some k=>
  dsimp only at h;split at h
  ·rename_i e1 e2;show _=some (some (bD k));rw[<-Nat.eq_of_beq_eq_true e1];exact aFC e2
  ·cases h
def zB(ns:List Nat)(σ:Sg):bM->Option (List Prop)
 |[] =>some []
 |(_,none)::_=>none
 |(k,some ob)::l=>match zB ns σ l with
  |none=>none
  |some ps=>(match mem ns k with
   |true=>(match ob with| .row _ _ c=>some ((c=[])::ps)|_=>none)
   |false=>(match σ k with
    |none=>none
    |some ob'=>(match Hn ob ob' with
     |some (p,r)=>(match aAw ns r with|true=>some (p++ps)|false=>none)
     |none=>(match Mw [] k k ob ob' with
      |some p=>some (p++ps)
      |none=>none))))
theorem Iz{ns:List Nat}{σ:Sg}:∀{l:bM} {ps:List Prop},zB ns σ l=some ps->(∀p∈ps,p)->∀k o,(k,o)∈l->∃ob,o=some ob/\
  ((mem ns k=true/\∃ty t,ob= .row ty t [])\/(mem ns k=false/\∃ob',σ k=some ob'/\xH (idm ns) (ob.ob k) (ob'.ob k)/\(ob.flat=true\/ob=ob')))
 |[],_,_,_,_,_,hk=>by cases hk
 |(_,none)::_,_,h,_,_,_,_=>by unfold zB at h;cases h
 |(k,some ob)::l,ps,h,hp,k1,o1,hk=>by
  unfold zB at h;split at h
  ·cases h
  rename_i qs hqs;have ih:=Iz hqs;split at h
  ·rename_i hm;split at h<;>cases h;rename_i ty t c;rcases List.mem_cons.1 hk with e|hk
   ·cases e;have:c=[] :=hp _ List.mem_cons_self;subst this;exact⟨_,rfl,.inl ⟨hm,ty,t,rfl⟩⟩
   ·exact ih (fun p hpp=>hp p (List.mem_cons_of_mem _ hpp)) k1 o1 hk
  ·rename_i hm;split at h
   ·cases h
   rename_i ob' hob';split at h
   ·rename_i p r he;split at h<;>cases h;rename_i hs;rcases List.mem_cons.1 hk with e|hk
    ·cases e;exact⟨_,rfl,.inr ⟨hm,ob',hob',Iy he (fun q hq=>hp q (List.mem_append_left _ hq)) (Nq hs) _ _,.inl (Fu he)⟩⟩
    ·exact ih (fun p hpp=>hp p (List.mem_append_right _ hpp)) k1 o1 hk
   ·split at h<;>cases h;rename_i p hf;rcases List.mem_cons.1 hk with e|hk
    ·cases e;obtain⟨_,_,e3,_⟩:=Ox hf fun q hq=>hp q (List.mem_append_left _ hq)
     subst e3;refine⟨_,rfl,.inr ⟨hm,_,hob',?_,.inr rfl⟩⟩;unfold Mw at hf;split at hf
     ·refine⟨rfl,rfl,qH _ _ _ fun i _=> ?_⟩
      show cX _ (.own (inn k (i+1)) 0 _) (.own (inn k (i+1)) 0 _);unfold cX;exact .inl ⟨_,aA7 ns k (i+1-1),rfl⟩
     ·cases hf
    ·exact ih (fun p hpp=>hp p (List.mem_append_right _ hpp)) k1 o1 hk
theorem Tq{ns:List Nat}{L:bM}{l:bM}{ps:List Prop}(h:zB ns L.at l=some ps)(hp:∀p∈ps,p):Mz (idm ns) (Sg.a (bM.at l)) L.fn:=by
 have key:=Iz h hp;constructor
 ·intro s s' o h1 h2;unfold idm at h1 h2;split at h1<;>cases h1;split at h2<;>cases h2;rfl
 ·intro s ob' hs;rcases eL s with⟨x,rfl⟩|⟨x,a,rfl⟩|hno
  ·rw[Sg.cL]at hs;cases hx:bM.at l x with
   |none=>rw[hx]at hs;cases hs
   |some ob=>
    rw[hx]at hs;cases hs;obtain⟨ob1,e,h1⟩:=key x (some ob) (bM.Ho hx);cases e;rcases h1 with⟨hm,ty,t,rfl⟩|⟨hm,ob2,h2,h3,_⟩
    ·rw[show idm ns (bD x)=some none from if_pos ⟨x,(mem_iff x ns).1 hm,rfl⟩]
     exact⟨Nat.ne_of_gt t.oC,by show(LT.enc t []).map AV.p=[];rfl⟩
    ·rw[aFC hm];exact⟨_,by show Sg.a L.at (bD x)=_;rw[Sg.cL,h2];rfl,h3⟩
  ·rw[Sg.gK]at hs;cases hx:bM.at l x with
   |none=>rw[hx]at hs;cases hs
   |some ob=>
    rw[hx]at hs;obtain⟨ob1,e,h1⟩:=key x (some ob) (bM.Ho hx);cases e;have hs:ob.inner a=some ob':=hs;rw[aA7];rcases h1 with⟨hm,ty,t,rfl⟩|⟨hm,ob2,h2,h3,h4⟩
    ·cases hs
    ·rcases h4 with h4|h4
     ·rw[SOb.rH h4]at hs;cases hs
     ·subst h4;refine⟨ob',by show Sg.a L.at (inn x (a+1))=_;rw[Sg.gK,h2];exact hs,rfl,rfl,?_⟩
      cases ob with
      |fam ty ity t M ov=>
       have hs:(match ov.lookup a with|some _=>none|none=>(M[a]?).map fun l=>(⟨ity,t.w,(t.enc l).map .p⟩:Ob))=some ob':=hs
       cases ho:ov.lookup a with
       |some v=>rw[ho]at hs;cases hs
       |none=>
        rw[ho]at hs;cases hm:M[a]? with
        |none=>rw[hm]at hs;cases hs
        |some c=>rw[hm]at hs;cases hs;exact eX _ _
      |_=>cases hs
  ·rw[Sg.sF _ hno]at hs;cases hs
def aJd(l:List SV):Bool:=match l with
 |[_] =>true
 |[] =>false
 |l=>(match cR (avs l)with|none=>true|some _=>false)
def aCO(P:Program)(n:Nat)(rs:List ResultVar)(r:SV)(obs:bM)(F:Frm)(L:bM):Fm:=match Gk P n F L.at rs with
 |some l=>(match aJd l,eqv 3 r (Qq l)with
  |true,some (ps,m)=>(match aAw (Da m) m,zB (Da m) L.at obs with
   |true,some qs=>Al (ps++qs) .tt
   |_,_=> .stuck 990001)
  |_,_=> .stuck 990002)
 |none=> .stuck 990003
def aJb(P:Program)(r:SV)(obs:bM)(n:Nat)(rs:List ResultVar):vV:=fun e F L _=>match e with
 | .normal=>aCO P n rs r obs F L
 | .ret=>aCO P n rs r obs F L
 |_=> .stuck 910000
theorem aDk{l:List SV}(h:aJd l=true):Mn (avs l)=(Qq l).av:=by
 match l,h with
 |[x],_=>rfl
 |x::y::r,h=>
  show AV.tup (avs (x::y::r))=nB (avs (x::y::r));have h:(match cR (avs (x::y::r))with|none=>true|some _=>false)=true:=h
  unfold nB;split at h
  ·rename_i e;rw[e]
  ·cases h
theorem aDe{P:Program}{n:Nat}{rs:List ResultVar}{r:SV}{obs:bM}{e:Exit}{F:Frm}{L:bM}{N:Nat}(h:(aJb P r obs n rs e F L N).holds):aF1 P rs r.av (Sg.a (bM.at obs)) e (F.av n) L.fn N:=by
 have key:(aCO P n rs r obs F L).holds->pS P rs (F.av n) L.fn fun l=>∃m:Rf,Mz m (Sg.a (bM.at obs)) L.fn/\cX m r.av (Mn l):=by
  intro h;unfold aCO at h;split at h
  case h_2=>exact h.elim
  rename_i l hl;split at h
  case h_2=>exact h.elim
  rename_i ps m h1 he;split at h
  case h_2=>exact h.elim
  rename_i qs hs hq;have hp:=(jA h).1;rw[show L.fn=Sg.a L.at from rfl]
  refine pB hl ⟨idm (Da m),Tq hq fun p hpp=>hp p (List.mem_append_right _ hpp),?_⟩
  rw[aDk h1];exact uQ 3 r (Qq l) ps m he (fun p hpp=>hp p (List.mem_append_left _ hpp)) (Nq hs)
 cases e<;>first|exact h.elim|exact key h
def aGg{α:Type}(A:Arl α)(pre:α->List Prop)(res:α->SV)(obs:α->bM):Con:=⟨α,A.dec,pre,.tree res obs⟩
theorem Wr{X:Cx}(hX:X.Ok){st:Bool}{raw:Nat->Nat->Bool}{f:Nat}{α:Type}{A:Arl α}{pre:α->List Prop}{res:α->SV}{obs:α->bM}(ann:α->List (Nat×Ann))
  (h:∀x,Jp (pre x)->(Uh X st raw f (ann x) (A.enc x) (aJb X.P (res x) (obs x))).holds):(aGg A pre res obs).Ok X.P f:=by
 intro s x hd hp;obtain⟨B,hB⟩:=A.pl x;obtain⟨hok,fn,c,L0,N0,hf,hb,h0,hw⟩:=Dj hX (Q:=fun rs=>aF1 X.P rs (res x).av (Sg.a (bM.at (obs x)))) hB (fun n rs e F L N hh=>aDe hh) (h x (gE.2 hp))
 exact⟨B,by rw[A.ok s x hd,hB],Pr hok hf hb h0 hw⟩
theorem bL{p q:Prop}(h:p=q)(hq:q):p:=h▸hq
def cC:List (Nat×Con)->Tab->Tab
 |[],T,f=>T f
 |(k,c)::l,T,f=>match Nat.beq f k with|true=>some c|false=>cC l T f
def aFR(P:Program):List (Nat×Con)->Prop
 |[] =>True
 |q::l=>q.2.Ok P q.1/\aFR P l
theorem aK{P:Program}{T:Tab}(hT:T.Ok P):∀{l:List (Nat×Con)},aFR P l->(cC l T).Ok P
 |[],_=>hT
 |(k,c)::l,h=>by
  intro f d hd;unfold cC at hd;split at hd
  ·rename_i e;cases hd;rw[Nat.eq_of_beq_eq_true e];exact h.1
  ·exact aK hT h.2 f d hd
def aFU:Tab:=fun _=>none
theorem aCX{P:Program}:aFU.Ok P:=fun _ _ h=>by cases h
end
end Go.Proofs.YtdaeofhdgabhjaaGreat
namespace Go.Proofs.YtdaeofhdgabhjaaGreat
open Go.RowKit
noncomputable section
set_option maxRecDepth 100000 in
theorem aLb(N:Nat)(a b c d:Int)(w:World):Sem.run Tryz.prog (Op.equalIn (N+1+1) 44 (.agg #[.int .i64 a,.int .i64 b]) (.agg #[.int .i64 c,.int .i64 d])) w= .ok (a==c&&b==d) w:=by
 have u3:=Tryz.underlying3;have a3:=Tryz.isAgg3;have z3:=Tryz.sizeOf3;have hS:Tryz.prog.underlying 44=some (.struct (Tryz.prog.fieldsOf 44)):=by kernel_rfl
 have hp:Tryz.prog.stoodInHeld 44=false:=by kernel_rfl
 rw[run_equalIn_agg w (N+1) 44 _ _ hS hp];simp only[Program.fieldsOf,Tryz.underlying44]
 go_simp
 by_cases h1:a=c<;>by_cases h2:b=d<;>simp[h1,h2]
set_option maxRecDepth 100000 in
theorem aLc(a b c d a' b' c' d':Int)(w:World)(N:Nat):Sem.run Tryz.prog (Op.equalIn (N+1+1+1) 46 (.agg #[.int .i64 a,.int .i64 b,.int .i64 c,.int .i64 d]) (.agg #[.int .i64 a',.int .i64 b',.int .i64 c',.int .i64 d'])) w= .ok ((a==a'&&b==b')&&(c==c'&&d==d')) w:=by
 have hS6:Tryz.prog.underlying 46=some (.struct (Tryz.prog.fieldsOf 46)):=by kernel_rfl
 have hp6:Tryz.prog.stoodInHeld 46=false:=by kernel_rfl
 rw[run_equalIn_agg w (N+1+1) 46 _ _ hS6 hp6];unfold Program.fieldsOf;rw[Tryz.underlying46];dsimp only;have a44:=Tryz.isAgg44;have z44:=Tryz.sizeOf44;have p1:∀a b c d:Int,(part 44 #[Value.int .i64 a,Value.int .i64 b,Value.int .i64 c,Value.int .i64 d] 0).run Tryz.prog w= .ok (.agg #[.int .i64 a,.int .i64 b]) w:=by
  intro a b c d;simp[part,a44,z44]
 have p2:∀a b c d:Int,(part 44 #[Value.int .i64 a,Value.int .i64 b,Value.int .i64 c,Value.int .i64 d] 2).run Tryz.prog w= .ok (.agg #[.int .i64 c,.int .i64 d]) w:=by
  intro a b c d;simp[part,a44,z44]
 have hE:=aLb N;generalize N+1+1=M at hE|-;unfold Op.eqFields;unfold Op.eqFields;unfold Op.eqFields;rw[if_pos (by decide)]
 simp only[Sem.run_bind,p1,Result.andThen_ok,hE];cases h1:(a==a')<;>cases h2:(b==b')<;>simp[hE,p2,Sem.run_bind,Result.andThen_ok];by_cases h3:c=c'<;>by_cases h4:d=d'<;>simp[h3,h4]
set_option maxRecDepth 100000 in
theorem aCj:Dh Tryz.prog 46 4:=by
 intro xs ys x y w hx hy;match xs,ys,hx,hy with
 |[a,b,c,d],[a',b',c',d'],_,_=>
  have h1:=aLc a b c d a' b' c' d' w 9997;rw[show 9997+1+1+1=10000 from rfl]at h1
  have e:(([a,b,c,d] :List Int)==[a',b',c',d'])=((a==a'&&b==b')&&(c==c'&&d==d')):=by
   rw[Bool.eq_iff_iff];simp[and_assoc]
  refine⟨?_,?_⟩
  ·simp only[List.map_cons,List.map_nil];rw[e];simp only[eqGuard,Sem.run_bind];simp[Result.andThen];rw[run_eql_struct,h1];simp[Result.andThen]
  ·simp only[List.map_cons,List.map_nil];unfold bne;rw[e];simp[eqGuard];rw[run_neq_struct,h1];simp[Result.andThen]
noncomputable def ltL:List (Nat×LT)->Nat->Option LT
 |[],_=>none
 |(k,x)::l,t=>match Nat.beq t k with|true=>some x|false=>ltL l t
set_option maxRecDepth 100000 in
theorem u67:Tryz.prog.underlying 67=some (.array 2 3):=by kernel_rfl
theorem aLg:Tryz.prog.underlying 115=some (.map 67 4):=by kernel_rfl
theorem Hi(w:World)(xs:Array Value)(i:Nat)(a:Value)(h:xs[i]? =some a):(part 3 xs i).run Tryz.prog w= .ok a w:=by
 have a3:=Tryz.isAgg3;simp[part,a3,h]
set_option maxRecDepth 100000 in
theorem aGP:MKey Tryz.prog 67 2:=by
 have u3:=Tryz.underlying3;have hu3:Tryz.prog.underlying 3=some (.int .i64):=by kernel_rfl
 obtain⟨i3,hi3⟩:=info_of_underlying hu3;have c3:Tryz.prog.cellsOf 3=1:=by kernel_rfl
 have two:∀{xs:List Int},xs.length=2->∃a b,xs=[a,b] :=fun{xs} h=>by
  match xs,h with
  |[a,b],_=>exact⟨a,b,rfl⟩
 refine⟨?_,?_,⟨_,u67,fun a b=>rfl⟩⟩
 ·intro w em xs hx;obtain⟨a,b,rfl⟩:=two hx;show(Instr.checkKey em (9999+1) 67 (.agg #[.int .i64 a,.int .i64 b])).run _ w=_;have p0:=Hi w #[Value.int .i64 a,.int .i64 b] 0 (.int .i64 a) rfl;have p1:=Hi w #[Value.int .i64 a,.int .i64 b] 1 (.int .i64 b) rfl;have ck:∀a:Int,(Instr.checkKey em 9999 3 (.int .i64 a)).run Tryz.prog w= .ok () w:=by
   intro a;show(Instr.checkKey em (9998+1) 3 (.int .i64 a)).run _ w=_;generalize 9998=N;simp only[Instr.checkKey,Sem.run_bind,run_underlying hu3,Result.andThen_ok,Sem.run_pure]
  generalize 9999=N at ck|-;rw[Instr.checkKey];simp only[Sem.run_bind,run_underlying u67,Result.andThen_ok];simp only[Std.Legacy.Range.forIn_eq_forIn_range',Std.Legacy.Range.size,Nat.sub_zero,Nat.add_one_sub_one,Nat.div_one];simp only[show List.range' 0 2=[0,1]from rfl,List.forIn_cons,List.forIn_nil,Sem.run_bind,run_sizeOf w hi3,Result.andThen_ok,c3,p0,p1,ck,Sem.run_pure,Nat.zero_mul,Nat.one_mul]
 ·intro w xs ys hx hy;obtain⟨a,b,rfl⟩:=two hx;obtain⟨c,d,rfl⟩:=two hy;have p0:=Hi w #[Value.int .i64 a,.int .i64 b] 0 (.int .i64 a) rfl;have p1:=Hi w #[Value.int .i64 a,.int .i64 b] 1 (.int .i64 b) rfl;have q0:=Hi w #[Value.int .i64 c,.int .i64 d] 0 (.int .i64 c) rfl;have q1:=Hi w #[Value.int .i64 c,.int .i64 d] 1 (.int .i64 d) rfl;have e1:∀a b:Int,(Op.equalIn 9999 3 (.int .i64 a) (.int .i64 b)).run Tryz.prog w= .ok (a==b) w:=fun a b=>run_equalIn_int w 9998 3 _ _ a b hu3
  show(Op.equalIn (9999+1) 67 (.agg #[.int .i64 a,.int .i64 b]) (.agg #[.int .i64 c,.int .i64 d])).run _ w=_;rw[run_equalIn_array w 9999 _ _ u67 hi3,c3,show List.range 2=[0,1]from rfl]
  simp only[Op.eqItems,Sem.run_bind,Nat.zero_mul,Nat.one_mul,p0,q0,e1,Result.andThen_ok];have hab:∀a b:Int,a≠b->(a==b)=false:=fun a b h=>beq_eq_false_iff_ne.2 h
  by_cases h1:a=c
  ·subst h1;simp only[beq_self_eq_true,Bool.not_true,Bool.false_eq_true,if_false,Sem.run_bind];rw[p1,Result.andThen_ok,q1,Result.andThen_ok,e1,Result.andThen_ok];by_cases h2:b=d
   ·subst h2;simp
   ·simp[hab _ _ h2]
  ·simp[hab _ _ h1]
theorem aDs:aKO Tryz.prog 115:=⟨67,4,aLg,aGP,fun w=>by kernel_rfl⟩
noncomputable def cx(T:Tab):Cx:=⟨Tryz.prog,T,ltL [(44,.V),(46,.S),(23,.R),(67,.P),(3,.I),(2,.I),(1,.I),(4,.B)],[(44,2),(46,4)],fun t=>Nat.beq t 115,fun f=>match Nat.beq f 202 with|true=>true|false=>Nat.beq f 173⟩
theorem bK{T:Tab}(h:T.Ok Tryz.prog):(cx T).Ok:=⟨h,fun t m hm=>by
 have hm:(t,m)∈[(44,2),(46,4)] :=hm;rcases List.mem_cons.1 hm with h|h
 ·cases h;exact aCk
 ·rw[List.mem_singleton]at h;cases h;exact aCj,fun t ht=>by rw[show t=115 from Nat.eq_of_beq_eq_true ht];exact aDs⟩
noncomputable def sQ(F:Frm)(d:Nat):Option Nat:=match F.at d with
 | .int _ v=>some v.toNat
 |_=>none
noncomputable def aFB(F:Frm)(d:Nat):Option Int:=match F.at d with
 | .int _ v=>some v
 |_=>none
noncomputable def aF6(F:Frm)(d e:Nat):Option (Int×Int):=match aFB F d,aFB F e with
 |some x,some y=>some (x,y)
 |_,_=>none
noncomputable def lp(key d n:Nat)(I:Nat->List Prop)(rk:List Nat)(upd:Nat->Frm)(obs:Nat->List (Nat×SOb))(inner:Nat->List (Nat×Ann):=fun _=>[]):Nat×Ann:=
 (key,.mk Nat (fun F _=>sQ F d) rk (fun k=>(k<=n)::I k) (fun k=>(d,.int .i64 (k:Int))::upd k) obs (fun k=>n-k) inner)
noncomputable def cnt(key d n:Nat)(I:Nat->Prop)(inner:Nat->List (Nat×Ann):=fun _=>[]):Nat×Ann:=lp key d n (fun k=>[I k]) [] (fun _=>[]) (fun _=>[]) inner
noncomputable def jb(key d:Nat)(b:Bool):Nat×Ann:=(key+10000,.mk Unit (fun _ _=>some ()) [] (fun _=>[]) (fun _=>[(d,.bool b)]) (fun _=>[]) (fun _=>0) (fun _=>[]))
noncomputable def jP(key:Nat)(I:List Prop):Nat×Ann:=(key+10000,.mk Unit (fun _ _=>some ()) [] (fun _=>I) (fun _=>[]) (fun _=>[]) (fun _=>0) (fun _=>[]))
noncomputable def jU(key:Nat)(u:Frm):Nat×Ann:=(key+10000,.mk Unit (fun _ _=>some ()) [] (fun _=>[]) (fun _=>u) (fun _=>[]) (fun _=>0) (fun _=>[]))
noncomputable def jN(key d:Nat)(I:Nat->List Prop)(inner:Nat->List (Nat×Ann):=fun _=>[]):Nat×Ann:=(key+10000,.mk Nat (fun F _=>sQ F d) [] I (fun k=>[(d,.int .i64 (k:Int))]) (fun _=>[]) (fun _=>0) inner)
noncomputable def lU(key k:Nat):Nat×Ann:=(key+30000+k,.mk Unit (fun _ _=>none) [] (fun _=>[]) (fun _=>[]) (fun _=>[]) (fun _=>0) (fun _=>[]))
noncomputable def aU(q:Nat->Prop)(k:Nat):Prop:=∀j,j<k->q j
theorem nb{b:Bool}(h:(!b)=false):b=true:=by cases b<;>simp_all
theorem nb'{b:Bool}(h:(!b)=true):b=false:=by cases b<;>simp_all
theorem bC(q:Nat->Prop):aU q 0:=fun j h=>absurd h (Nat.not_lt_zero j)
theorem aE{q:Nat->Prop}{k:Nat}(h:aU q k)(hk:q k):aU q (k+1):=fun j hj=>by
 rcases Nat.lt_or_ge j k with h1|h1
 ·exact h j h1
 ·rw[show j=k by omega];exact hk
theorem aD0:aFU.Ok Tryz.prog:=aCX
end
end Go.Proofs.YtdaeofhdgabhjaaGreat
/-
  DERIVED: THE SHELF's CONTRACTS AT THIS DUMP, IN PLAIN WORDS (tools/lay-plain.mjs out of 'YtdaeofhdgabhjaaGreatLayS2.lean', which tools/lay-shelf.mjs wrote): THE SAME DECLARATIONS UNDER THE SAME NAMES: 'import', 'namespace', 'open', 'def', 'theorem' AND NOTHING ELSE: no command of the shelf's: FOR A HAND-IN. Each laying: the table of numbers ('.._ren') and one theorem, a field a fact of the dump's own or the kernel's comparison; each contract: ONE APPLICATION.
-/
namespace Go.Proofs
open Go.Shelf
def Tryz.sort221_ren:Go.Shelf.Ren:=⟨fun|6=>221|15=>143|14=>229|28=>195|29=>196|20=>230|21=>231|22=>232|23=>233|24=>234|25=>235|26=>236|27=>237|46=>238|47=>211|48=>212|49=>239|50=>240|57=>241|n=>n,fun|22=>112|24=>3|25=>131|3=>3|39=>134|0=>0|53=>170|55=>172|4=>4|46=>163|45=>162|50=>167|5=>5|9=>9|66=>180|70=>184|76=>193|77=>60|n=>n,fun|n=>n⟩
theorem Tryz.sort221:Go.Proofs.SlLaysF.n6 Tryz.prog Tryz.sort221_ren:={
 mixed:=by kernel_rfl
 f6:=⟨Tryz.f221.name,by decide,Tryz.func221.trans (congrArg some (by kernel_rfl))⟩
 f14:=⟨Tryz.f229.name,by decide,Tryz.func229.trans (congrArg some (by kernel_rfl))⟩
 f15:=Tryz.func143.trans (congrArg some (by kernel_rfl))
 f20:=⟨Tryz.f230.name,by decide,Tryz.func230.trans (congrArg some (by kernel_rfl))⟩
 f21:=⟨Tryz.f231.name,by decide,Tryz.func231.trans (congrArg some (by kernel_rfl))⟩
 f22:=⟨Tryz.f232.name,by decide,Tryz.func232.trans (congrArg some (by kernel_rfl))⟩
 f23:=⟨Tryz.f233.name,by decide,Tryz.func233.trans (congrArg some (by kernel_rfl))⟩
 f24:=⟨Tryz.f234.name,by decide,Tryz.func234.trans (congrArg some (by kernel_rfl))⟩
 f25:=⟨Tryz.f235.name,by decide,Tryz.func235.trans (congrArg some (by kernel_rfl))⟩
 f26:=⟨Tryz.f236.name,by decide,Tryz.func236.trans (congrArg some (by kernel_rfl))⟩
 f27:=⟨Tryz.f237.name,by decide,Tryz.func237.trans (congrArg some (by kernel_rfl))⟩
 f28:=Tryz.func195.trans (congrArg some (by kernel_rfl))
 f29:=Tryz.func196.trans (congrArg some (by kernel_rfl))
 f46:=⟨Tryz.f238.name,by decide,Tryz.func238.trans (congrArg some (by kernel_rfl))⟩
 f47:=Tryz.func211.trans (congrArg some (by kernel_rfl))
 f48:=Tryz.func212.trans (congrArg some (by kernel_rfl))
 f49:=⟨Tryz.f239.name,by decide,Tryz.func239.trans (congrArg some (by kernel_rfl))⟩
 f50:=⟨Tryz.f240.name,by decide,Tryz.func240.trans (congrArg some (by kernel_rfl))⟩
 f57:=⟨Tryz.f241.name,by decide,Tryz.func241.trans (congrArg some (by kernel_rfl))⟩
 t0:=Tryz.underlying0
 a0:=Tryz.isAgg0
 z0:=Tryz.sizeOf0
 v0:=Tryz.zeroValue0
 t3:=Tryz.underlying3
 a3:=Tryz.isAgg3
 z3:=Tryz.sizeOf3
 v3:=Tryz.zeroValue3
 t4:=Tryz.underlying4
 a4:=Tryz.isAgg4
 z4:=Tryz.sizeOf4
 v4:=Tryz.zeroValue4
 t5:=Tryz.underlying5
 a5:=Tryz.isAgg5
 z5:=Tryz.sizeOf5
 v5:=Tryz.zeroValue5
 t9:=Tryz.underlying9
 a9:=Tryz.isAgg9
 z9:=Tryz.sizeOf9
 v9:=Tryz.zeroValue9
 t22:=Tryz.underlying112
 a22:=Tryz.isAgg112
 z22:=Tryz.sizeOf112
 v22:=Tryz.zeroValue112
 a24:=Tryz.isAgg3
 z24:=Tryz.sizeOf3
 t25:=Tryz.underlying131
 a25:=Tryz.isAgg131
 z25:=Tryz.sizeOf131
 v25:=Tryz.zeroValue131
 t39:=Tryz.underlying134
 a39:=Tryz.isAgg134
 z39:=Tryz.sizeOf134
 v39:=Tryz.zeroValue134
 t45:=Tryz.underlying162
 a45:=Tryz.isAgg162
 z45:=Tryz.sizeOf162
 v45:=Tryz.zeroValue162
 t46:=Tryz.underlying163
 a46:=Tryz.isAgg163
 z46:=Tryz.sizeOf163
 v46:=Tryz.zeroValue163
 t50:=Tryz.underlying167
 a50:=Tryz.isAgg167
 z50:=Tryz.sizeOf167
 v50:=Tryz.zeroValue167
 t53:=Tryz.underlying170
 a53:=Tryz.isAgg170
 z53:=Tryz.sizeOf170
 v53:=Tryz.zeroValue170
 t55:=Tryz.underlying172
 a55:=Tryz.isAgg172
 z55:=Tryz.sizeOf172
 v55:=Tryz.zeroValue172
 t66:=Tryz.underlying180
 a66:=Tryz.isAgg180
 z66:=Tryz.sizeOf180
 v66:=Tryz.zeroValue180
 t70:=Tryz.underlying184
 a70:=Tryz.isAgg184
 z70:=Tryz.sizeOf184
 v70:=Tryz.zeroValue184
 t76:=Tryz.underlying193
 a76:=Tryz.isAgg193
 z76:=Tryz.sizeOf193
 v76:=Tryz.zeroValue193
 t77:=Tryz.underlying60
 a77:=Tryz.isAgg60
 z77:=Tryz.sizeOf60
 v77:=Tryz.zeroValue60}
def Tryz.del203_ren:Go.Shelf.Ren:=⟨fun|10=>203|6=>224|n=>n,fun|22=>112|23=>3|25=>159|3=>3|4=>4|0=>0|n=>n,fun|n=>n⟩
theorem Tryz.del203:Go.Proofs.SlLaysH.n10 Tryz.prog Tryz.del203_ren:={
 mixed:=by kernel_rfl
 f6:=⟨Tryz.f224.name,by decide,Tryz.func224.trans (congrArg some (by kernel_rfl))⟩
 f10:=⟨Tryz.f203.name,by decide,Tryz.func203.trans (congrArg some (by kernel_rfl))⟩
 t0:=Tryz.underlying0
 a0:=Tryz.isAgg0
 z0:=Tryz.sizeOf0
 v0:=Tryz.zeroValue0
 t3:=Tryz.underlying3
 a3:=Tryz.isAgg3
 z3:=Tryz.sizeOf3
 v3:=Tryz.zeroValue3
 t4:=Tryz.underlying4
 a4:=Tryz.isAgg4
 z4:=Tryz.sizeOf4
 v4:=Tryz.zeroValue4
 t22:=Tryz.underlying112
 a22:=Tryz.isAgg112
 z22:=Tryz.sizeOf112
 v22:=Tryz.zeroValue112
 a23:=Tryz.isAgg3
 z23:=Tryz.sizeOf3
 t25:=Tryz.underlying159
 a25:=Tryz.isAgg159
 z25:=Tryz.sizeOf159
 v25:=Tryz.zeroValue159}
end Go.Proofs
namespace Go.Proofs.YtdaeofhdgabhjaaGreat
open Go.RowKit Go.Sort Go.Shelf Go.Lib
theorem aCd(q x:Int)(B o:Nat)(W:World)(hc:W.cell? ⟨B,o,none⟩=some (.int .i64 q)):FnGives Tryz.prog 204 #[.pointer (some ⟨B,o,none⟩)] #[.int .i64 x] (.bool (x==q)) W:=by
 show Calls Tryz.prog 204 #[.int .i64 x,.pointer (some ⟨B,o,none⟩)] W _
 go_enter Tryz.func204,Tryz.ntmps204
 go_wp2
 all_goals (go_ret;exact⟨by simp_all,0,rfl⟩)
theorem aCc(q x:Int)(B o:Nat)(W:World)(hc:W.cell? ⟨B,o,none⟩=some (.int .i64 q)):FnGives Tryz.prog 205 #[.pointer (some ⟨B,o,none⟩)] #[.int .i64 x] (.bool (x==q)) W:=by
 show Calls Tryz.prog 205 #[.int .i64 x,.pointer (some ⟨B,o,none⟩)] W _
 go_enter Tryz.func205,Tryz.ntmps205
 go_wp2
 all_goals (go_ret;exact⟨by simp_all,0,rfl⟩)
theorem Pw{enc:Int->Value}{d:Array Int}{cur:Array Value}{i:Nat}(h:i<d.size)(hc:i<cur.size):(putCells enc 0 d cur)[i]? =some (enc d[i]!):=by
 unfold putCells;simp[h,hc]
theorem Hb{enc:Int->Value}{d:Array Int}{cur:Array Value}:(putCells enc 0 d cur).size=cur.size:=by
 unfold putCells;simp
theorem Su{enc:Int->Value}{w:World}{b:Nat}{d:Array Int}{cur:Array Value}{t:TypeId}(h:w.heap[b]? =some (.cells cur t (0,0))):(putRow enc w b 0 d).heap[b]? =some (.cells (putCells enc 0 d cur) t (0,0)):=by
 unfold putRow mapBlock;show(w.heap.modify b _)[b]? =_;rw[Array.getElem?_modify,if_pos rfl,h];rfl
theorem Mb{enc:Int->Value}{w:World}{b q:Nat}{d:Array Int}:w.grownBy (putRow enc (Sort.ahead w q) b 0 d) (some b):=by
 refine⟨rfl,rfl,rfl,?_,?_⟩
 ·unfold putRow mapBlock;simp
 ·intro k hk hne;unfold putRow mapBlock;show(w.heap.modify b _)[k]? =_;rw[Array.getElem?_modify,if_neg (fun e=>hne (by rw[e]))]
theorem vT(l:List Int):LT.I.enc l=l.map (PV.int .i64):=by
 show aCT l=_;unfold aCT;exact zY (fun n=>PV.int .i64 n) l
theorem Io{C:bR}{w:World}{b c:Nat}{l:List Int}{arr:Array Value}{ty:TypeId}(hL:Lent C w b c ty 1 (LT.I.enc l) arr):Holds (Value.int .i64) w b 0 l.toArray/\l.length<=arr.size:=by
 obtain⟨_,h2,_⟩:=hL.row (by decide)
 rw[vT,List.length_map]at h2;refine⟨fun j hj=> ?_,h2⟩
 have hj:j<l.length:=by simpa using hj
 obtain⟨v,h3,_,h4⟩:=hL.cells j (.int .i64 l[j]) (by rw[vT,List.getElem?_map,List.getElem?_eq_getElem hj];rfl)
 unfold aZ at h4;subst h4;refine⟨?_,?_⟩
 ·rw[Nat.zero_add];refine(cell_of_row w b j arr ty (0,0) hL.blk).trans (h3.trans ?_);rw[getElem!_pos _ j (by simpa using hj)];simp
 ·simp[World.frozen?,hL.blk]
theorem aDQ{C:bR}{w:World}{g:Nat}{q:Int}{vs:List Value}(_hC:∀b o v,C b o v->w.cell? ⟨b,o,none⟩=some v)(h:bZ C [.fn (.func g) [] [.pro [.int .i64 q] 0]] vs):∃B o,vs=[.func (.func g) #[] #[.pointer (some ⟨B,o,none⟩)]]/\C B o (.int .i64 q):=by
 unfold bZ at h;obtain⟨v,r,rfl,h1,h2⟩:=h;unfold bZ at h2;subst h2;unfold aZ at h1;obtain⟨a,b,rfl,h3,h4⟩:=h1;unfold bZ at h3 h4;subst h3;obtain⟨u,r,rfl,h5,h6⟩:=h4;unfold bZ at h6;subst h6;unfold aZ at h5;obtain⟨B,o,rfl,h7⟩:=h5;unfold eJ at h7;obtain⟨⟨x,h8,_,h9⟩,_⟩:=h7;unfold aZ at h9;subst h9;exact⟨B,o,rfl,h8⟩
theorem Vl(g:Nat)(eg:∀args w,(callFunc g args).run Tryz.prog w= .ok (.enter g args) w)(hg:∀(q x:Int) (B o:Nat) (W:World),W.cell? ⟨B,o,none⟩=some (.int .i64 q)->FnGives Tryz.prog g #[.pointer (some ⟨B,o,none⟩)] #[.int .i64 x] (.bool (x==q)) W)
  (l:List Int) (q:Int) (hn:l.length<=1000000):
  aGo Tryz.prog 203 l.length [.fn (.func g) [] [.pro [.int .i64 q] 0]] 3 1 (LT.I.enc l) (LT.I.enc (l.filter fun x=> !(x==q))) (l.filter fun x=> !(x==q)).length:=by
 refine⟨by kernel_rfl,?_,List.length_filter_le ..,?_,?_⟩
 ·rw[vT,vT,List.length_map,List.length_map];exact List.length_filter_le ..
 ·rw[vT,List.all_eq_true];intro x hx;obtain⟨n,_,rfl⟩:=List.mem_map.1 hx;rfl
 intro C w b c arr vs hC hL hnc hA;obtain⟨B,o,rfl,hBo⟩:=aDQ (fun b o v h=>(hC b o v h).1) hA
 obtain⟨hcell,hne⟩:=hC _ _ _ hBo;obtain⟨hH,hsz⟩:=Io hL;have hB:B<w.heap.size:=World.block_lt_of_cell? w ⟨B,o,none⟩ hcell;have hcon:=AnyE.slices_DeleteFunc (P:=Tryz.prog) (ρ:=Tryz.del203_ren) Tryz.del203 (Value.int .i64) (fun _=>rfl) (fun x:Int=>x==q) g #[.pointer (some ⟨B,o,none⟩)] eg 0 (fun w=>by kernel_rfl) b 0 c l.toArray w
  (fun W x hb=>hg q x B o W ((hb.cell (p:=⟨B,o,none⟩) hB).trans hcell))
  (fun n os dk x _=>hg q x B o _ (by
    unfold sortWorld;rw[cell?_grow _ _ _ (by show B<(putRow _ _ _ _ _).heap.size;rw[size_putRow];exact hB),cell?_putRow_other _ _ b 0 _ _ (Or.inl hne)]
    exact hcell)) hH (by simp;omega) (by simp;exact hnc)
 change Calls Tryz.prog 203 _ _ _ at hcon;have e1:l.toArray.toList=l:=rfl;rw[e1]at hcon;simp only[List.size_toArray]at hcon;refine hcon.mono ?_;rintro e w' ⟨rfl,q',rfl⟩;have hfl:=List.length_filter_le (fun x=> !(x==q)) l
 generalize (l.filter fun x=> !(x==q))=m at hfl|-
 refine⟨_,rfl,Su (w:=Sort.ahead w q') hL.blk,Hb,?_,Mb⟩;intro i x hi;rw[vT,List.getElem?_map]at hi;cases hx:m[i]? with
 |none=>rw[hx]at hi;cases hi
 |some y=>
  rw[hx]at hi;cases hi;have hi':i<m.length:=(List.getElem?_eq_some_iff.1 hx).1;refine⟨.int .i64 y,?_,rfl,by unfold aZ;rfl⟩
  rw[Pw (by simp;omega) (by omega)]
  rw[getElem!_pos _ i (by simp;omega)]
  simp[List.getElem_append_left hi',(List.getElem?_eq_some_iff.1 hx).2]
theorem aGD(args:Array Value)(w:World):(callFunc 204 args).run Tryz.prog w= .ok (.enter 204 args) w:=eB (by kernel_rfl) args w
theorem aGC(args:Array Value)(w:World):(callFunc 205 args).run Tryz.prog w= .ok (.enter 205 args) w:=eB (by kernel_rfl) args w
def aGf:List SV->Option (List Int×Bool×Int)
 |[.lst .I l,.fnp 204 [] [.pro [.int .i64 q] 0]] =>some (l,true,q)
 |[.lst .I l,.fnp 205 [] [.pro [.int .i64 q] 0]] =>some (l,false,q)
 |_=>none
theorem Zg{l:List Int}{rest:List SV}{x:List Int×Bool×Int}(h:aGf (.lst .I l::rest)=some x):∃q,(rest=[.fnp 204 [] [.pro [.int .i64 q] 0]]/\x=(l,true,q))\/(rest=[.fnp 205 [] [.pro [.int .i64 q] 0]]/\x=(l,false,q)):=by
 unfold aGf at h;split at h
 ·rename_i e;cases e;cases h;exact⟨_,.inl ⟨rfl,rfl⟩⟩
 ·rename_i e;cases e;cases h;exact⟨_,.inr ⟨rfl,rfl⟩⟩
 ·cases h
noncomputable def aJB:Con:=⟨List Int×Bool×Int,aGf,fun x=>[x.1.length<=1000000],.rowB .I 3 fun x=>x.1.filter fun y=> !(y==x.2.2)⟩
theorem aLV:aJB.Ok Tryz.prog 203:=by
 intro l rest x hd hp;obtain⟨q,⟨rfl,rfl⟩|⟨rfl,rfl⟩⟩:=Zg hd
 ·exact⟨[.fn (.func 204) [] [.pro [.int .i64 q] 0]],rfl,Vl 204 aGD aCd l q (hp _ List.mem_cons_self)⟩
 ·exact⟨[.fn (.func 205) [] [.pro [.int .i64 q] 0]],rfl,Vl 205 aGC aCc l q (hp _ List.mem_cons_self)⟩
end Go.Proofs.YtdaeofhdgabhjaaGreat
namespace Go.Proofs.YtdaeofhdgabhjaaGreat
open Go.RowKit
set_option maxRecDepth 100000
noncomputable section
open Geo (nth)
theorem fR{x y A B:Int}(hx: -A<=x/\x<=A)(hy: -B<=y/\y<=B): -(A*B)<=x*y/\x*y<=A*B:=by
 have h1:0<=(A-x)*(B-y):=Int.mul_nonneg (by omega) (by omega)
 have h2:0<=(A+x)*(B+y):=Int.mul_nonneg (by omega) (by omega)
 have h3:0<=(A-x)*(B+y):=Int.mul_nonneg (by omega) (by omega)
 have h4:0<=(A+x)*(B-y):=Int.mul_nonneg (by omega) (by omega)
 constructor<;>grind
def bd(M:Int)(v:Geo.V):Prop:=(-M<=v.x/\v.x<=M)/\ -M<=v.y/\v.y<=M
theorem xK{m M:Int}{v:Geo.V}(h:Geo.bG v m=true)(hm:m<=M:=by decide):bd M v:=by
 unfold Geo.bG at h;unfold bd;simp only[Bool.and_eq_true,decide_eq_true_eq]at h;omega
theorem bd.mono{m M:Int}{v:Geo.V}(h:bd m v)(hm:m<=M:=by decide):bd M v:=by unfold bd at*;omega
theorem iW{M:Int}{a b:Geo.V}(ha:bd M a)(hb:bd M b):(-(M*M)<=a.x*b.y/\a.x*b.y<=M*M)/\ -(M*M)<=a.y*b.x/\a.y*b.x<=M*M:=⟨fR ha.1 hb.2,fR ha.2 hb.1⟩
theorem gS{m:Int}{a b:Geo.V}(ha:bd m a)(hb:bd m b):bd (m+m) (Geo.sub a b):=by unfold bd Geo.sub at*;dsimp only;omega
theorem aGz(n:Int): -1<=Geo.sgn n/\Geo.sgn n<=1:=by unfold Geo.sgn;grind
theorem cP{x:Int}(h: -9000000000000000000<=x/\x<=9000000000000000000):aJ x:=by unfold aJ;omega
def aKa:Con:=con (ac aV (a1 aV)) (fun(_,_)=>[]) (fun(a,b)=> .bool (Geo.cH a b)
 )
theorem aMu:aKa.Ok Tryz.prog 149:=aX (bK aD0) (raw:=bO) (fun(_,_)=>[]) (fun(_,_)=>⟨_,rfl⟩) fun(a,b) _=>bL (q:=(a.y<b.y->true=Geo.cH a b)/\
 (¬a.y<b.y->(a.y=b.y->decide (a.x<b.x)=Geo.cH a b)/\
  (¬a.y=b.y->false=Geo.cH a b))) (by kernel_rfl) (by
  unfold Geo.cH;grind)
def aIA:Tab:=cC [(149,aKa)] aFU
theorem aEQ:aIA.Ok Tryz.prog:=aK aD0 ⟨aMu,trivial⟩
def c80:Con:=con (a1 aI) (fun _=>[]) (fun n=> .int .i64 (Geo.sgn n)
 )
theorem k80:c80.Ok Tryz.prog 80:=aX (bK aEQ) (raw:=bO) (fun _=>[]) (fun _=>⟨_,rfl⟩) fun n _=>bL (q:=(0<n->1=Geo.sgn n)/\
 (¬0<n->(n<0-> -1=Geo.sgn n)/\
  (¬n<0->0=Geo.sgn n))) (by kernel_rfl) (by
  unfold Geo.sgn;grind)
def t80:Tab:=cC [(80,c80)] aIA
theorem aLl:t80.Ok Tryz.prog:=aK aEQ ⟨k80,trivial⟩
def t79:Tab:=t80
theorem aHh:t79.Ok Tryz.prog:=aLl
def c35:Con:=con (ac aV (a1 aI)) (fun(_,m)=>[0<=m,m<=1000000000000]) (fun(a,m)=> .bool (Geo.bG a m)
 )
theorem k35:c35.Ok Tryz.prog 35:=aX (bK aHh) (raw:=bO) (fun(_,_)=>[]) (fun(_,_)=>⟨_,rfl⟩) fun(a,m) hp=>bL (q:=aJ (0-m)/\(0-m<=a.x->(a.x<=m->aJ (0-m)/\(0-m<=a.y->decide (a.y<=m)=Geo.bG a m)/\
   (¬0-m<=a.y->false=Geo.bG a m))/\
  (¬a.x<=m->false=Geo.bG a m))/\
 (¬0-m<=a.x->false=Geo.bG a m)) (by kernel_rfl) (by
  change 0<=m/\m<=1000000000000 at hp;unfold Geo.bG;have:= @aJ;grind[aJ])
def t35:Tab:=cC [(35,c35)] t79
theorem aHD:t35.Ok Tryz.prog:=aK aHh ⟨k35,trivial⟩
def c98:Con:=con (a1 aS) (fun _=>[]) (fun s=> .bool (Geo.bQ s)
 )
theorem k98:c98.Ok Tryz.prog 98:=aX (bK aHD) (raw:=bO) (fun _=>[]) (fun _=>⟨_,rfl⟩) fun s _=>bL (q:=(0:Int)<=4000/\(4000:Int)<=1000000000000/\(Geo.bG s.a 4000=true->(0:Int)<=4000/\(4000:Int)<=1000000000000/\Geo.bG s.b 4000=Geo.bQ s)/\
 (Geo.bG s.a 4000=false->false=Geo.bQ s)) (by kernel_rfl) (by
  unfold Geo.bQ;grind)
def t98:Tab:=cC [(98,c98)] t35
theorem aG8:t98.Ok Tryz.prog:=aK aHD ⟨k98,trivial⟩
def aKG:Con:=con (a1 aV) (fun _=>[]) (fun v=>(aT).enc (Geo.pT v)
 )
theorem aM0:aKG.Ok Tryz.prog 104:=aX (bK aG8) (raw:=bO) (fun _=>[]) (fun _=>⟨_,rfl⟩) fun v _=>bL (q:=v.x=(Geo.pT v).x/\v.y=(Geo.pT v).y/\1=(Geo.pT v).den) (by kernel_rfl) (by
 exact⟨rfl,rfl,rfl⟩)
def aI4:Tab:=cC [(104,aKG)] t98
theorem aFl:aI4.Ok Tryz.prog:=aK aG8 ⟨aM0,trivial⟩
def aKf:Con:=con (ac aV (a1 aV)) (fun(a,b)=>[bd 2000000000 a,bd 2000000000 b]) (fun(a,b)=> .int .i64 (Geo.cross a b)
 )
theorem aMz:aKf.Ok Tryz.prog 144:=aX (bK aFl) (raw:=bO) (fun(_,_)=>[]) (fun(_,_)=>⟨_,rfl⟩) fun(a,b) hp=>bL (q:=aJ (a.x*b.y)/\aJ (a.y*b.x)/\aJ (a.x*b.y-a.y*b.x)/\a.x*b.y-a.y*b.x=Geo.cross a b) (by kernel_rfl) (by
 change bd 2000000000 a/\bd 2000000000 b at hp;have:=iW hp.1 hp.2;exact⟨cP (by omega),cP (by omega),cP (by omega),rfl⟩)
def aIF:Tab:=cC [(144,aKf)] aI4
theorem aEU:aIF.Ok Tryz.prog:=aK aFl ⟨aMz,trivial⟩
def aKe:Con:=con (ac aV (a1 aV)) (fun(a,b)=>[bd 1000000000 a,bd 1000000000 b]) (fun(a,b)=>aV.enc (Geo.sub a b)
 )
theorem aMy:aKe.Ok Tryz.prog 145:=aX (bK aEU) (raw:=bO) (fun(_,_)=>[]) (fun(_,_)=>⟨_,rfl⟩) fun(a,b) hp=>bL (q:=aJ (a.x-b.x)/\aJ (a.y-b.y)/\a.x-b.x=(Geo.sub a b).x/\a.y-b.y=(Geo.sub a b).y) (by kernel_rfl) (by
 change bd 1000000000 a/\bd 1000000000 b at hp;unfold bd at hp;exact⟨cP (by omega),cP (by omega),rfl,rfl⟩)
def aIE:Tab:=cC [(145,aKe)] aIF
theorem aET:aIE.Ok Tryz.prog:=aK aEU ⟨aMy,trivial⟩
theorem sI{s:Geo.S}(h:(!Geo.bQ s)=false){M:Int}(hM:4000<=M:=by decide):bd M s.a/\bd M s.b:=by
 unfold Geo.bQ at h;simp only[Bool.not_eq_false',Bool.and_eq_true]at h;exact⟨xK h.1 hM,xK h.2 hM⟩
theorem aA6{s:Geo.S}{p:Geo.V}{M:Int}(h1:bd M s.a/\bd M s.b)(h:Geo.iM s p=true):bd M p:=by
 unfold Geo.iM at h;unfold bd at*;simp only[Bool.and_eq_true,decide_eq_true_eq]at h;omega
theorem xW(s:Geo.S)(p:Geo.V): -1<=Geo.iD s p/\Geo.iD s p<=1:=by
 unfold Geo.iD Geo.cT;split
 ·omega
 ·exact aGz _
def c70:Con:=con (ac aV (ac aV (a1 aV))) (fun(a,b,c)=>[bd 1000000000 a,bd 1000000000 b,bd 1000000000 c]) (fun(a,b,c)=> .int .i64 (Geo.cT a b c)
 )
theorem k70:c70.Ok Tryz.prog 70:=aX (bK aET) (raw:=bO) (fun(_,_,_)=>[]) (fun(_,_,_)=>⟨_,rfl⟩) fun(a,b,c) hp=>bL (q:=bd 1000000000 b/\bd 1000000000 a/\bd 1000000000 c/\bd 1000000000 a/\bd 2000000000 (Geo.sub b a)/\bd 2000000000 (Geo.sub c a)/\Geo.sgn (Geo.cross (Geo.sub b a) (Geo.sub c a))=Geo.cT a b c) (by kernel_rfl) (by
 change bd 1000000000 a/\bd 1000000000 b/\bd 1000000000 c at hp;exact⟨hp.2.1,hp.1,hp.2.2,hp.1,gS hp.2.1 hp.1,gS hp.2.2 hp.1,rfl⟩)
def t70:Tab:=cC [(70,c70)] aIE
theorem aHn:t70.Ok Tryz.prog:=aK aET ⟨k70,trivial⟩
def aKK:Con:=con (ac aS (a1 aV)) (fun(_,_)=>[]) (fun(s,p)=> .int .i64 (Geo.iD s p)
 )
theorem aM4:aKK.Ok Tryz.prog 100:=aX (bK aHn) (raw:=bO) (fun(_,_)=>[]) (fun(_,_)=>⟨_,rfl⟩) fun(s,p) _=>bL (q:=((!Geo.bQ s)=true->0=Geo.iD s p)/\
 ((!Geo.bQ s)=false->(0:Int)<=4000/\(4000:Int)<=1000000000000/\((!Geo.bG p 4000)=true->0=Geo.iD s p)/\
  ((!Geo.bG p 4000)=false->bd 1000000000 s.a/\bd 1000000000 s.b/\bd 1000000000 p/\Geo.cT s.a s.b p=Geo.iD s p))) (by kernel_rfl) (by
  unfold Geo.iD;refine⟨fun h=>by rw[h];rfl,fun h=>⟨by decide,by decide,fun h2=>by rw[h,h2];rfl,fun h2=>⟨(sI h).1,(sI h).2,xK (by simpa using h2),by rw[h,h2];rfl⟩⟩⟩)
def aI8:Tab:=cC [(100,aKK)] t70
theorem aFp:aI8.Ok Tryz.prog:=aK aHn ⟨aM4,trivial⟩
def aJ0:Con:=con (ac aS (a1 aV)) (fun(_,_)=>[]) (fun(s,p)=> .bool (Geo.onS s p))
theorem aMk:aJ0.Ok Tryz.prog 163:=aX (bK aFp) (raw:=bO) (fun(s,p)=>[jb 4 5 (Geo.iM s p)]
  ) (fun(_,_)=>⟨_,rfl⟩) fun(s,p) _=>bL (q:=((!Geo.bQ s)=true->false=Geo.onS s p)/\
 ((!Geo.bQ s)=false->((Min.min s.a.x s.b.x<=p.x->(p.x<=Max.max s.a.x s.b.x->(Min.min s.a.y s.b.y<=p.y->decide (p.y<=Max.max s.a.y s.b.y)=Geo.iM s p)/\
     (¬Min.min s.a.y s.b.y<=p.y->false=Geo.iM s p))/\
    (¬p.x<=Max.max s.a.x s.b.x->false=Geo.iM s p))/\
   (¬Min.min s.a.x s.b.x<=p.x->false=Geo.iM s p))/\
  (∀y:Unit,(Geo.iM s p=true->bd 1000000000 s.a/\bd 1000000000 s.b/\bd 1000000000 p/\decide (Geo.cT s.a s.b p=0)=Geo.onS s p)/\
   (Geo.iM s p=false->false=Geo.onS s p)))) (by kernel_rfl) (by
  refine⟨fun h=>by unfold Geo.onS;simp at h;simp[h],fun h=>⟨by unfold Geo.iM;grind,fun _=>⟨fun h2=>⟨(sI h).1,(sI h).2,aA6 (sI h) h2,by unfold Geo.onS;simp at h;rw[h,h2];grind⟩,fun h2=>by unfold Geo.onS;rw[h2];simp⟩⟩⟩)
def aIo:Tab:=cC [(163,aJ0)] aI8
theorem aEC:aIo.Ok Tryz.prog:=aK aFp ⟨aMk,trivial⟩
def so(l:List Geo.V)(k:Nat):List Geo.V:=Geo.jE (l.take k)
def qso(l:List Geo.V)(k j:Nat):Prop:=Geo.cH (nth (so l k) j) (nth l k)=true
def cm(s t:Geo.S)(k:Nat):List Geo.V:=([s.a,s.b,t.a,t.b].take k).filter fun p=>Geo.onS s p&&Geo.onS t p
theorem Ko{l:List Geo.V}{k:Nat}(h:k<l.length):so l (k+1)=Geo.sA (so l k) (nth l k):=by
 unfold so Geo.jE;rw[List.take_add_one,List.getElem?_eq_getElem h,List.foldl_append,nth_eq h];rfl
theorem zR{p:Geo.V}:∀{l:List Geo.V} {k:Nat},k<=l.length->(∀j,j<k->Geo.cH (nth l j) p=true)->(k<l.length->¬Geo.cH (nth l k) p=true)->
  Geo.sA l p=if k<l.length/\nth l k=p then l else l.take k++p::l.drop k
 |[],k,h1,_,_=>by simp at h1;subst h1;rfl
 |q::r,0,_,_,h3=>by
  have h3:¬Geo.cH q p=true:=h3 (by simp)
  unfold Geo.sA;rw[if_neg h3];show(if q=p then q::r else p::q::r)=if 0<(q::r).length/\q=p then q::r else p::q::r
  simp
 |q::r,k+1,h1,h2,h3=>by
  have h0:Geo.cH q p=true:=h2 0 (by omega)
  unfold Geo.sA;rw[if_pos h0,zR (l:=r) (k:=k) (by simpa using h1) (fun j hj=>h2 (j+1) (by omega)) (fun hk=>h3 (by simpa using hk))]
  show(q::if _ then _ else _)=if k+1<(q::r).length/\nth r k=p then q::r else q::(r.take k++p::r.drop k)
  simp only[List.length_cons,Nat.add_lt_add_iff_right];split<;>rfl
theorem aB5(l:List Geo.V)(p:Geo.V):(Geo.sA l p).length<=l.length+1:=by
 induction l with
 |nil=>simp[Geo.sA]
 |cons q r ih=>unfold Geo.sA;split;(simp;omega);split<;>simp
theorem aAV{l:List Geo.V}{k y:Nat}(hk:k<l.length)(h1:y<=(so l k).length)(h2:aU (qso l k) y)(h3:y<(so l k).length->¬qso l k y)(h4:¬(y<(so l k).length/\nth (so l k) y=nth l k)):
  ([] :List Geo.V)++List.take y (List.drop 0 (so l k))++[nth l k] ++List.take ((so l k).length-y) (List.drop y (so l k))=so l (k+1):=by
 have e:List.take ((so l k).length-y) (List.drop y (so l k))=List.drop y (so l k):=List.take_of_length_le (by simp)
 rw[Ko hk,zR h1 h2 h3,if_neg h4,e];simp
theorem Vj{l:List Geo.V}{k y:Nat}(hk:k<l.length)(h1:y<=(so l k).length)(h2:aU (qso l k) y)(h3:y<(so l k).length->¬qso l k y)(h4:y<(so l k).length)(h5:nth (so l k) y=nth l k):so l k=so l (k+1):=by
 rw[Ko hk,zR h1 h2 h3,if_pos ⟨h4,h5⟩]
theorem aDL(s t:Geo.S){k:Nat}(h:k<4):cm s t (k+1)=if(Geo.onS s (nth [s.a,s.b,t.a,t.b] k)&&Geo.onS t (nth [s.a,s.b,t.a,t.b] k))=true then cm s t k++[nth [s.a,s.b,t.a,t.b] k]else cm s t k:=by
 unfold cm;rw[List.take_add_one,List.getElem?_eq_getElem (show k<[s.a,s.b,t.a,t.b].length from h),List.filter_append,nth_eq (show k<[s.a,s.b,t.a,t.b].length from h)]
 simp only[Option.toList_some,List.filter_cons,List.filter_nil];split<;>simp
theorem aG0(s t:Geo.S)(k:Nat):(cm s t k).length<=4:=Nat.le_trans (List.length_filter_le _ _) (by simp;omega)
def aJZ:Con:=con (a1 (aL .V)) (fun l=>[l.length<=1000]) (fun l=> .lst .V (Geo.jE l))
theorem aMj:aJZ.Ok Tryz.prog 164:=aX (bK aEC) (raw:=bO) (fun l=>[lp 3 4 l.length (fun k=>[(so l k).length<=k]) [900] (fun k=>[(3,.own 900 .V (so l k).length)]) (fun k=>[(900,.row 44 .V (so l k))]) fun k=>[cnt 6 5 (so l k).length (aU (qso l k)),jN 8 5 (fun j=>[j<=(so l k).length,aU (qso l k) j,j<(so l k).length->¬qso l k j]) fun j=>[jP 9 [¬(j<(so l k).length/\nth (so l k) j=nth l k)]]]]
  ) (fun _=>⟨_,rfl⟩) fun l hp=>bL (q:=(0=(0:Int)/\(so l 0).length=0/\so l 0=([] :List Geo.V)/\(0:Nat)<=l.length/\(so l 0).length<=0)/\
 (∀x:Nat,x<=l.length/\(so l x).length<=x->((x:Int)<l.length->((0=(0:Int)/\(0:Nat)<=(so l x).length/\aU (qso l x) 0)/\
    (∀x_1:Nat,x_1<=(so l x).length/\aU (qso l x) x_1->((x_1:Int)<(so l x).length->ix (x_1:Int) (so l x).length/\x_1<(so l x).length/\ix (x:Int) l.length/\(Geo.cH (nth (so l x) x_1) (nth l x)=true->aJ ((x_1:Int)+1)/\(x_1:Int)+1=((x_1+1:Nat):Int)/\x_1+1<=(so l x).length/\aU (qso l x) (x_1+1)/\(so l x).length-(x_1+1)<(so l x).length-x_1)/\
      (Geo.cH (nth (so l x) x_1) (nth l x)=false->(x_1:Int)=x_1/\x_1<=(so l x).length/\aU (qso l x) x_1/\(x_1<(so l x).length->¬qso l x x_1)))/\
     (¬(x_1:Int)<(so l x).length->(x_1:Int)=x_1/\x_1<=(so l x).length/\aU (qso l x) x_1/\(x_1<(so l x).length->¬qso l x x_1))))/\
   (∀y:Nat,y<=(so l x).length/\aU (qso l x) y/\(y<(so l x).length->¬qso l x y)->(((y:Int)<(so l x).length->ix (y:Int) (so l x).length/\y<(so l x).length/\ix (x:Int) l.length/\((nth (so l x) y)=(nth l x)->aJ ((x:Int)+1)/\(x:Int)+1=((x+1:Nat):Int)/\(so l x).length=(so l (x+1)).length/\so l x=so l (x+1)/\x+1<=l.length/\(so l (x+1)).length<=x+1/\l.length-(x+1)<l.length-x)/\
      (¬(nth (so l x) y)=(nth l x)->¬(y<(so l x).length/\nth (so l x) y=nth l x)))/\
     (¬(y:Int)<(so l x).length->¬(y<(so l x).length/\nth (so l x) y=nth l x)))/\
    (∀y_1:Unit,¬(y<(so l x).length/\nth (so l x) y=nth l x)->(0<=(y:Int)/\(y:Int)<=(so l x).length)/\0+y<=(so l x).length/\([] :List Geo.V).length+(List.take y (List.drop 0 (so l x))).length<=1000000/\ix (x:Int) l.length/\(([] :List Geo.V)++List.take y (List.drop 0 (so l x))).length=(([] :List Geo.V)++List.take y (List.drop 0 (so l x))).length/\(([] :List Geo.V)++List.take y (List.drop 0 (so l x))).length+[(nth l x)].length<=1000000/\(0<=(y:Int)/\(y:Int)<=(so l x).length)/\(([] :List Geo.V)++List.take y (List.drop 0 (so l x))++[(nth l x)]).length=(([] :List Geo.V)++List.take y (List.drop 0 (so l x))++[(nth l x)]).length/\y+((so l x).length-y)<=(so l x).length/\(([] :List Geo.V)++List.take y (List.drop 0 (so l x))++[(nth l x)]).length+(List.take ((so l x).length-y) (List.drop y (so l x))).length<=1000000/\aJ ((x:Int)+1)/\(x:Int)+1=((x+1:Nat):Int)/\(([] :List Geo.V)++List.take y (List.drop 0 (so l x))++[(nth l x)] ++List.take ((so l x).length-y) (List.drop y (so l x))).length=(so l (x+1)).length/\([] :List Geo.V)++List.take y (List.drop 0 (so l x))++[(nth l x)] ++List.take ((so l x).length-y) (List.drop y (so l x))=so l (x+1)/\x+1<=l.length/\(so l (x+1)).length<=x+1/\l.length-(x+1)<l.length-x)))/\
  (¬(x:Int)<l.length->(so l x).length=(so l x).length/\so l x=Geo.jE l))) (by kernel_rfl) (by
  change l.length<=1000 at hp;have e0:so l 0=[] :=rfl;have e1:so l l.length=Geo.jE l:=by unfold so;rw[List.take_length]
  have el:∀x,x<l.length->(so l x).length<=x->(so l (x+1)).length<=x+1:=by intro x h h2;rw[Ko h];exact Nat.le_trans (aB5 _ _) (by omega)
  have e2:(so l 0).length=0:=rfl
  repeat' first|with_reducible apply And.intro|with_reducible intro
  all_goals repeat with_reducible cases‹_/\_›
  all_goals first|assumption|rfl|exact trivial|exact nb ‹_› |exact nb' ‹_› |omega|exact cQ (by omega)|(unfold ix;omega)|(unfold aJ;omega)|exact bC _|exact aE ‹_› ‹_› |(refine aE ‹_› ?_;simp_all;done)|exact aAV (by omega) ‹_› ‹_› ‹_› ‹_› |exact congrArg List.length (aAV (by omega) ‹_› ‹_› ‹_› ‹_›)|exact Vj (by omega) ‹_› ‹_› ‹_› (by omega) ‹_› |exact congrArg List.length (Vj (by omega) ‹_› ‹_› ‹_› (by omega) ‹_›)|exact el _ (by omega) ‹_› |(unfold qso at*;simp_all;done)|grind)
def aIn:Tab:=cC [(164,aJZ)] aIo
theorem aEB:aIn.Ok Tryz.prog:=aK aEC ⟨aMj,trivial⟩
def c99:Con:=con (ac aS (a1 aS)) (fun(_,_)=>[]) (fun(s,t)=> .lst .V (Geo.fK s t))
theorem k99:c99.Ok Tryz.prog 99:=aX (bK aEB) (raw:=bO) (fun(s,t)=>[lp 4 7 4 (fun _=>[]) [900,11] (fun k=>[(6,.own 900 .V (cm s t k).length),(5,.own 11 .V 4)]) (fun k=>[(900,.row 44 .V (cm s t k)),(11,.row 44 .V [s.a,s.b,t.a,t.b])]) fun k=>[jb 7 34 (Geo.onS s (nth [s.a,s.b,t.a,t.b] k)&&Geo.onS t (nth [s.a,s.b,t.a,t.b] k))]]
  ) (fun(_,_)=>⟨_,rfl⟩) fun(s,t) _=>bL (q:=(0=(0:Int)/\(cm s t 0).length=0/\(4:Nat)=4/\cm s t 0=([] :List Geo.V)/\[s.a,s.b,t.a,t.b] =[s.a,s.b,t.a,t.b]/\(0:Nat)<=4)/\
 (∀x:Nat,x<=4->((x:Int)<4->(ix (x:Int) 4/\x<[s.a,s.b,t.a,t.b].length/\(Geo.onS s (nth [s.a,s.b,t.a,t.b] x)=true->ix (x:Int) 4/\x<[s.a,s.b,t.a,t.b].length/\Geo.onS t (nth [s.a,s.b,t.a,t.b] x)=(Geo.onS s (nth [s.a,s.b,t.a,t.b] x)&&Geo.onS t (nth [s.a,s.b,t.a,t.b] x)))/\
    (Geo.onS s (nth [s.a,s.b,t.a,t.b] x)=false->false=(Geo.onS s (nth [s.a,s.b,t.a,t.b] x)&&Geo.onS t (nth [s.a,s.b,t.a,t.b] x))))/\
   (∀y:Unit,((Geo.onS s (nth [s.a,s.b,t.a,t.b] x)&&Geo.onS t (nth [s.a,s.b,t.a,t.b] x))=true->ix (x:Int) 4/\x<[s.a,s.b,t.a,t.b].length/\(cm s t x).length=(cm s t x).length/\(cm s t x).length+[(nth [s.a,s.b,t.a,t.b] x)].length<=1000000/\aJ ((x:Int)+1)/\(x:Int)+1=((x+1:Nat):Int)/\(cm s t x++[(nth [s.a,s.b,t.a,t.b] x)]).length=(cm s t (x+1)).length/\(4:Nat)=4/\cm s t x++[(nth [s.a,s.b,t.a,t.b] x)] =cm s t (x+1)/\[s.a,s.b,t.a,t.b] =[s.a,s.b,t.a,t.b]/\x+1<=4/\4-(x+1)<4-x)/\
    ((Geo.onS s (nth [s.a,s.b,t.a,t.b] x)&&Geo.onS t (nth [s.a,s.b,t.a,t.b] x))=false->aJ ((x:Int)+1)/\(x:Int)+1=((x+1:Nat):Int)/\(cm s t x).length=(cm s t (x+1)).length/\(4:Nat)=4/\cm s t x=cm s t (x+1)/\[s.a,s.b,t.a,t.b] =[s.a,s.b,t.a,t.b]/\x+1<=4/\4-(x+1)<4-x)))/\
  (¬(x:Int)<4->(cm s t x).length=(cm s t x).length/\(cm s t x).length<=1000/\Geo.jE (cm s t x)=Geo.fK s t))) (by kernel_rfl) (by
  have e0:cm s t 0=[] :=rfl;have e4:Geo.jE (cm s t 4)=Geo.fK s t:=rfl;have es:=fun k=> @aDL s t k
  have el:=aG0 s t
  repeat' first|with_reducible apply And.intro|with_reducible intro
  all_goals repeat with_reducible cases‹_/\_›
  all_goals first|assumption|rfl|exact trivial|exact nb ‹_› |exact nb' ‹_› |omega|exact cQ (by omega)|(unfold ix;omega)|(unfold aJ;omega)|exact bC _|exact aE ‹_› ‹_› |(refine aE ‹_› ?_;simp_all;done)|grind)
def t99:Tab:=cC [(99,c99)] aIn
theorem aG7:t99.Ok Tryz.prog:=aK aEB ⟨k99,trivial⟩
def c32:Con:=con (ac aS (a1 aS)) (fun(_,_)=>[]) (fun(s,t)=> .int .i64 (Geo.dU s t)
 )
theorem k32:c32.Ok Tryz.prog 32:=aX (bK aG7) (raw:=bO) (fun(_,_)=>[]) (fun(_,_)=>⟨_,rfl⟩) fun(s,t) _=>bL (q:=((!Geo.bQ s)=true->0=Geo.dU s t)/\
 ((!Geo.bQ s)=false->((!Geo.bQ t)=true->0=Geo.dU s t)/\
  ((!Geo.bQ t)=false->(1<((Geo.fK s t).length:Int)->3=Geo.dU s t)/\
   (¬1<((Geo.fK s t).length:Int)->(((Geo.fK s t).length:Int)=1->1=Geo.dU s t)/\
    (¬((Geo.fK s t).length:Int)=1->aJ (Geo.iD s t.a*Geo.iD s t.b)/\(Geo.iD s t.a*Geo.iD s t.b<0->aJ (Geo.iD t s.a*Geo.iD t s.b)/\(Geo.iD t s.a*Geo.iD t s.b<0->2=Geo.dU s t)/\
      (¬Geo.iD t s.a*Geo.iD t s.b<0->0=Geo.dU s t))/\
     (¬Geo.iD s t.a*Geo.iD s t.b<0->0=Geo.dU s t)))))) (by kernel_rfl) (by
  have d1:=xW s t.a;have d2:=xW s t.b;have d3:=xW t s.a;have d4:=xW t s.b;have m1:=fR d1 d2;have m2:=fR d3 d4;unfold Geo.dU
  repeat' first|with_reducible apply And.intro|with_reducible intro
  all_goals repeat with_reducible cases‹_/\_›
  all_goals first|assumption|rfl|exact trivial|exact nb ‹_› |exact nb' ‹_› |omega|exact cQ (by omega)|(unfold ix;omega)|(unfold aJ;omega)|exact bC _|exact aE ‹_› ‹_› |(refine aE ‹_› ?_;simp_all;done)|grind)
def t32:Tab:=cC [(32,c32)] t99
theorem aHF:t32.Ok Tryz.prog:=aK aG7 ⟨k32,trivial⟩
end
end Go.Proofs.YtdaeofhdgabhjaaGreat
namespace Go.Proofs.YtdaeofhdgabhjaaGreat
open Go.RowKit
set_option maxRecDepth 100000
noncomputable section
open Geo (nth)
def eg(r:Geo.aM)(k:Nat):List Geo.S:=(List.range k).map (Geo.dL r)
theorem aDG(r:Geo.aM)(k:Nat):eg r k++[(⟨nth r k,nth r ((k+1) % r.length)⟩:Geo.S)] =eg r (k+1):=by
 unfold eg;rw[List.range_succ,List.map_append];rfl
theorem aGW(r:Geo.aM)(k:Nat):(eg r k).length=k:=by unfold eg;simp
def ar(r:Geo.aM)(k:Nat):Int:=((List.range k).map fun i=>Geo.cross (nth r i) (Geo.nxt r i)).sum
theorem Cj(r:Geo.aM)(k:Nat):ar r (k+1)=ar r k+Geo.cross (nth r k) (nth r ((k+1) % r.length)):=by
 unfold ar;rw[List.range_succ,List.map_append,List.sum_append];simp[Geo.nxt]
theorem lH{r:Geo.aM}(h:Geo.near r=true){i:Nat}(hi:i<r.length){M:Int}(hM:2000<=M:=by decide):bd M (nth r i):=xK (Geo.qJ h i hi) hM
theorem aDn{r:Geo.aM}{i:Nat}(hi:i<r.length)(h:(!Geo.bG (nth r i) 2000)=true):Geo.near r=false:=by
 cases hn:Geo.near r with
 |false=>rfl
 |true=>have:=Geo.qJ hn i hi;rw[this]at h;cases h
theorem aBV{r:Geo.aM}(h:aU (fun i=>Geo.bG (nth r i) 2000=true) r.length):Geo.near r=true:=by
 unfold Geo.near;rw[List.all_eq_true];intro v hv;obtain⟨j,hj,rfl⟩:=List.getElem_of_mem hv;rw[<-nth_eq hj];exact h j hj
theorem Cw{r:Geo.aM}(h:Geo.near r=true):∀k:Nat,k<=r.length-> -8000000*(k:Int)<=ar r k/\ar r k<=8000000*k
 |0,_=>by simp[ar]
 |k+1,hk=>by
  have ih:=Cw h k (by omega)
  have:=iW (lH h (i:=k) (by omega) (M:=2000)) (lH h (i:=(k+1) % r.length) (Nat.mod_lt _ (by omega)) (M:=2000))
  rw[Cj];unfold Geo.cross;omega
def aKI:Con:=con (a1 (aL .V)) (fun r=>[r.length<=100000]) (fun r=> .lst .S (Geo.aD r))
theorem aM2:aKI.Ok Tryz.prog 102:=aX (bK aHF) (raw:=bO) (fun r=>[lp 5 4 r.length (fun _=>[]) [900] (fun k=>[(3,.own 900 .S (eg r k).length)]) (fun k=>[(900,.row 46 .S (eg r k))])]
  ) (fun _=>⟨_,rfl⟩) fun r hp=>bL (q:=((r.length:Int)<2->Geo.aD r=([] :List Geo.S))/\
 (¬(r.length:Int)<2->(0=(0:Int)/\(eg r 0).length=0/\eg r 0=([] :List Geo.S)/\(0:Nat)<=r.length)/\
  (∀x:Nat,x<=r.length->((x:Int)<r.length->ix (x:Int) r.length/\aJ ((x:Int)+1)/\(r.length:Int)≠0/\ix (((x+1) % r.length:Nat):Int) r.length/\(eg r x).length=(eg r x).length/\(eg r x).length+[(⟨(nth r x),(nth r ((x+1) % r.length))⟩:Geo.S)].length<=1000000/\aJ ((x:Int)+1)/\(x:Int)+1=((x+1:Nat):Int)/\(eg r x++[(⟨(nth r x),(nth r ((x+1) % r.length))⟩:Geo.S)]).length=(eg r (x+1)).length/\eg r x++[(⟨(nth r x),(nth r ((x+1) % r.length))⟩:Geo.S)] =eg r (x+1)/\x+1<=r.length/\r.length-(x+1)<r.length-x)/\
   (¬(x:Int)<r.length->(eg r x).length=(eg r x).length/\eg r x=Geo.aD r)))) (by kernel_rfl) (by
  change r.length<=100000 at hp;have e0:eg r 0=[] :=rfl;have es:=aDG r;have el:=aGW r;have ee:Geo.aD r=if r.length<2 then []else eg r r.length:=rfl
  repeat' first|with_reducible apply And.intro|with_reducible intro
  all_goals repeat with_reducible cases‹_/\_›
  all_goals first|assumption|rfl|exact trivial|exact nb ‹_› |exact nb' ‹_› |omega|exact cQ (by omega)|(unfold ix;omega)|(unfold aJ;omega)|exact bC _|exact aE ‹_› ‹_› |(refine aE ‹_› ?_;simp_all;done)|grind)
def aI6:Tab:=cC [(102,aKI)] t32
theorem aFn:aI6.Ok Tryz.prog:=aK aHF ⟨aM2,trivial⟩
def aJ2:Con:=con (a1 (aL .V)) (fun r=>[r.length<=100000]) (fun r=> .bool (Geo.near r))
theorem aMm:aJ2.Ok Tryz.prog 160:=aX (bK aFn) (raw:=bO) (fun r=>[cnt 2 3 r.length (aU fun i=>Geo.bG (nth r i) 2000=true)]
  ) (fun _=>⟨_,rfl⟩) fun r hp=>bL (q:=(0=(0:Int)/\(0:Nat)<=r.length/\aU (fun i=>Geo.bG (nth r i) 2000=true) 0)/\
 (∀x:Nat,x<=r.length/\aU (fun i=>Geo.bG (nth r i) 2000=true) x->((x:Int)<r.length->ix (x:Int) r.length/\(0:Int)<=2000/\(2000:Int)<=1000000000000/\((!Geo.bG (nth r x) 2000)=true->false=Geo.near r)/\
   ((!Geo.bG (nth r x) 2000)=false->aJ ((x:Int)+1)/\(x:Int)+1=((x+1:Nat):Int)/\x+1<=r.length/\aU (fun i=>Geo.bG (nth r i) 2000=true) (x+1)/\r.length-(x+1)<r.length-x))/\
  (¬(x:Int)<r.length->true=Geo.near r))) (by kernel_rfl) (by
  change r.length<=100000 at hp;have e1:= @aDn r;have e2:= @aBV r
  repeat' first|with_reducible apply And.intro|with_reducible intro
  all_goals repeat with_reducible cases‹_/\_›
  all_goals first|assumption|rfl|exact trivial|exact nb ‹_› |exact nb' ‹_› |omega|exact cQ (by omega)|(unfold ix;omega)|(unfold aJ;omega)|exact bC _|exact aE ‹_› ‹_› |(refine aE ‹_› ?_;simp_all;done)|exact(e2 (by rw[show r.length=_ from(by omega)];assumption)).symm|grind)
def aIq:Tab:=cC [(160,aJ2)] aI6
theorem aEE:aIq.Ok Tryz.prog:=aK aFn ⟨aMm,trivial⟩
def aKy:Con:=con (a1 (aL .V)) (fun r=>[Geo.near r=true,r.length<=100000]) (fun r=> .int .i64 (Geo.dX r))
theorem aMS:aKy.Ok Tryz.prog 113:=aX (bK aEE) (raw:=bO) (fun r=>[lp 3 4 r.length (fun _=>[]) [] (fun k=>[(3,.int .i64 (ar r k))]) (fun _=>[])]
  ) (fun _=>⟨_,rfl⟩) fun r hp=>bL (q:=(0=(0:Int)/\0=ar r 0/\(0:Nat)<=r.length)/\
 (∀x:Nat,x<=r.length->((x:Int)<r.length->ix (x:Int) r.length/\aJ ((x:Int)+1)/\(r.length:Int)≠0/\ix (((x+1) % r.length:Nat):Int) r.length/\bd 2000000000 (nth r x)/\bd 2000000000 (nth r ((x+1) % r.length))/\aJ (ar r x+Geo.cross (nth r x) (nth r ((x+1) % r.length)))/\aJ ((x:Int)+1)/\(x:Int)+1=((x+1:Nat):Int)/\ar r x+Geo.cross (nth r x) (nth r ((x+1) % r.length))=ar r (x+1)/\x+1<=r.length/\r.length-(x+1)<r.length-x)/\
  (¬(x:Int)<r.length->ar r x=Geo.dX r))) (by kernel_rfl) (by
  change Geo.near r=true/\r.length<=100000 at hp;have e0:ar r r.length=Geo.dX r:=rfl;have es:=Cj r;have eb:∀x,x<r.length->aJ (ar r x+Geo.cross (nth r x) (nth r ((x+1) % r.length))):=fun x h=>by rw[<-es];exact cP (by have:=Cw hp.1 (x+1) (by omega);omega)
  have en:=fun i hi=> @lH r hp.1 i hi 2000000000
  repeat' first|with_reducible apply And.intro|with_reducible intro
  all_goals repeat with_reducible cases‹_/\_›
  all_goals first|assumption|rfl|exact trivial|exact nb ‹_› |exact nb' ‹_› |omega|exact cQ (by omega)|(unfold ix;omega)|(unfold aJ;omega)|exact bC _|exact aE ‹_› ‹_› |(refine aE ‹_› ?_;simp_all;done)|exact eb _ (by omega)|exact en _ (by omega) (by decide)|exact en _ (Nat.mod_lt _ (by omega)) (by decide)|(rw[es])|grind)
def aIY:Tab:=cC [(113,aKy)] aIq
theorem aFd:aIY.Ok Tryz.prog:=aK aEE ⟨aMS,trivial⟩
def aJC:Con:=con (a1 aI) (fun n=>[-9000000000000000000<=n,n<=9000000000000000000]) (fun n=> .int .i64 (n.natAbs:Int)
 )
theorem aLW:aJC.Ok Tryz.prog 201:=aX (bK aFd) (raw:=bO) (fun _=>[]) (fun _=>⟨_,rfl⟩) fun n hp=>bL (q:=(0<=n->n=Int.natAbs n)/\
 (¬0<=n->aJ (0-n)/\0-n=Int.natAbs n)) (by kernel_rfl) (by
  change-9000000000000000000<=n/\n<=9000000000000000000 at hp
  repeat' first|with_reducible apply And.intro|with_reducible intro
  all_goals repeat with_reducible cases‹_/\_›
  all_goals first|assumption|rfl|exact trivial|exact nb ‹_› |exact nb' ‹_› |omega|exact cQ (by omega)|(unfold ix;omega)|(unfold aJ;omega)|exact bC _|exact aE ‹_› ‹_› |(refine aE ‹_› ?_;simp_all;done)|grind)
def aHY:Tab:=cC [(201,aJC)] aIY
theorem aEe:aHY.Ok Tryz.prog:=aK aFd ⟨aLW,trivial⟩
def aJD:Con:=con (ac aI (a1 aI)) (fun(a,b)=>[0<=a,0<=b]) (fun(a,b)=> .int .i64 ((Nat.gcd a.natAbs b.natAbs:Nat):Int))
theorem aLX:aJD.Ok Tryz.prog 200:=aX (bK aEe) (raw:=bO) (fun(a,b)=>[(1,.mk (Int×Int) (fun F _=>aF6 F 0 1) [] (fun p=>[0<=p.1,0<=p.2,Nat.gcd p.1.natAbs p.2.natAbs=Nat.gcd a.natAbs b.natAbs]) (fun p=>[(0,.int .i64 p.1),(1,.int .i64 p.2)]) (fun _=>[]) (fun p=>p.2.natAbs) (fun _=>[]))]
  ) (fun(_,_)=>⟨_,rfl⟩) fun(a,b) hp=>bL (q:=(a=a/\b=b/\0<=a/\0<=b/\Nat.gcd (Int.natAbs a) (Int.natAbs b)=Nat.gcd (Int.natAbs a) (Int.natAbs b))/\
 (∀x:Prod Int Int,0<=x.1/\0<=x.2/\Nat.gcd (Int.natAbs x.1) (Int.natAbs x.2)=Nat.gcd (Int.natAbs a) (Int.natAbs b)->(¬x.2=0->x.2≠0/\x.2=x.2/\Int.tmod x.1 x.2=Int.tmod x.1 x.2/\0<=x.2/\0<=Int.tmod x.1 x.2/\Nat.gcd (Int.natAbs x.snd) (Int.natAbs (Int.tmod x.1 x.2))=Nat.gcd (Int.natAbs a) (Int.natAbs b)/\Int.natAbs (Int.tmod x.1 x.2)<Int.natAbs x.2)/\
  (¬(¬x.2=0)->x.1=Nat.gcd (Int.natAbs a) (Int.natAbs b)))) (by kernel_rfl) (by
  change 0<=a/\0<=b at hp;have e1:∀x y:Int,0<=x->0<=y->Nat.gcd y.natAbs (Int.tmod x y).natAbs=Nat.gcd x.natAbs y.natAbs:=fun x y _ _=>by
   rw[Int.natAbs_tmod,Nat.gcd_comm,<-Nat.gcd_rec,Nat.gcd_comm]
  have e2:∀x y:Int,0<=x->¬y=0->(Int.tmod x y).natAbs<y.natAbs:=fun x y _ h=>by
   rw[Int.natAbs_tmod];exact Nat.mod_lt _ (by omega)
  have e3:∀x y:Int,0<=x->0<=Int.tmod x y:=fun x y h=>Int.tmod_nonneg _ h
  repeat' first|with_reducible apply And.intro|with_reducible intro
  all_goals repeat with_reducible cases‹_/\_›
  all_goals first|assumption|rfl|exact trivial|exact nb ‹_› |exact nb' ‹_› |omega|exact cQ (by omega)|(unfold ix;omega)|(unfold aJ;omega)|exact bC _|exact aE ‹_› ‹_› |(refine aE ‹_› ?_;simp_all;done)|exact e3 _ _ ‹_› |exact e2 _ _ (by assumption) ‹_› |(rw[e1 _ _ (by assumption) (by assumption)];assumption)|(have h0:=Decidable.of_not_not ‹¬¬_›;simp_all;omega)|grind)
def aHZ:Tab:=cC [(200,aJD)] aHY
theorem aEf:aHZ.Ok Tryz.prog:=aK aEe ⟨aLX,trivial⟩
def PtB(p:Geo.Pt):Prop:=(1<=p.den/\p.den<=134217728)/\(-600000000000<=p.x/\p.x<=600000000000)/\(-600000000000<=p.y/\p.y<=600000000000)
theorem PtB.of{p:Geo.Pt}(h:Geo.dG p=true):PtB p:=by
 unfold Geo.dG Geo.dN Geo.bG at h;simp only[Bool.and_eq_true,decide_eq_true_eq]at h;unfold PtB;omega
theorem PtB.off{p:Geo.Pt}(hp:PtB p){v:Geo.V}(hv:bd 10000 v):(-1400000000000<=v.x*p.den/\v.x*p.den<=1400000000000)/\(-1400000000000<=v.y*p.den/\v.y*p.den<=1400000000000):=by
 have h1:=fR (x:=v.x) (y:=p.den) (A:=10000) (B:=134217728) (by unfold bd at hv;omega) (by unfold PtB at hp;omega)
 have h2:=fR (x:=v.y) (y:=p.den) (A:=10000) (B:=134217728) (by unfold bd at hv;omega) (by unfold PtB at hp;omega)
 omega
def aJ1:Con:=con (a1 aT) (fun _=>[]) (fun p=> .bool (Geo.dG p))
theorem aMl:aJ1.Ok Tryz.prog 162:=aX (bK aEf) (raw:=bO) (fun p=>[jb 2 42 (!Geo.dN p 4000)]
  ) (fun _=>⟨_,rfl⟩) fun p _=>bL (q:=((p.den<1->true=(!Geo.dN p 4000))/\
  (¬p.den<1->(134217728<p.den->true=(!Geo.dN p 4000))/\
   (¬134217728<p.den->aJ (-4000*p.den)/\(p.x< -4000*p.den->true=(!Geo.dN p 4000))/\
    (¬p.x< -4000*p.den->aJ (4000*p.den)/\(4000*p.den<p.x->true=(!Geo.dN p 4000))/\
     (¬4000*p.den<p.x->aJ (-4000*p.den)/\(p.y< -4000*p.den->true=(!Geo.dN p 4000))/\
      (¬p.y< -4000*p.den->aJ (4000*p.den)/\decide (4000*p.den<p.y)=(!Geo.dN p 4000)))))))/\
 (∀y:Unit,((!Geo.dN p 4000)=true->false=Geo.dG p)/\
  ((!Geo.dN p 4000)=false-> -9000000000000000000<=p.x/\p.x<=9000000000000000000/\ -9000000000000000000<=p.y/\p.y<=9000000000000000000/\0<=(Int.natAbs p.x:Int)/\0<=(Int.natAbs p.y:Int)/\0<=(Nat.gcd (Int.natAbs (Int.natAbs p.x:Int)) (Int.natAbs (Int.natAbs p.y:Int)):Int)/\0<=p.den/\decide ((Nat.gcd (Int.natAbs (Nat.gcd (Int.natAbs (Int.natAbs p.x:Int)) (Int.natAbs (Int.natAbs p.y:Int)):Int)) (Int.natAbs p.den):Int)=1)=Geo.dG p))) (by kernel_rfl) (by
  unfold Geo.dG Geo.dN Geo.bG;simp only[Int.natAbs_natCast]
  repeat' first|with_reducible apply And.intro|with_reducible intro
  all_goals repeat with_reducible cases‹_/\_›
  all_goals first|assumption|rfl|exact trivial|exact nb ‹_› |exact nb' ‹_› |omega|exact cQ (by omega)|(unfold ix;omega)|(unfold aJ;omega)|exact bC _|exact aE ‹_› ‹_› |(refine aE ‹_› ?_;simp_all;done)|grind)
def aIp:Tab:=cC [(162,aJ1)] aHZ
theorem aED:aIp.Ok Tryz.prog:=aK aEf ⟨aMl,trivial⟩
def aJX:Con:=con (ac aV (ac aV (a1 aT))) (fun(a,b,p)=>[bd 10000 a,bd 10000 b,PtB p]) (fun(a,b,p)=> .int .i64 (Geo.sgn (Geo.iK ⟨a,b⟩ p))
 )
theorem aMh:aJX.Ok Tryz.prog 166:=aX (bK aED) (raw:=bO) (fun(_,_,_)=>[]) (fun(_,_,_)=>⟨_,rfl⟩) fun(a,b,p) hp=>bL (q:=bd 1000000000 b/\bd 1000000000 a/\aJ (a.y*p.den)/\aJ (p.y-a.y*p.den)/\aJ ((Geo.sub b a).x*(p.y-a.y*p.den))/\aJ (a.x*p.den)/\aJ (p.x-a.x*p.den)/\aJ ((Geo.sub b a).y*(p.x-a.x*p.den))/\aJ ((Geo.sub b a).x*(p.y-a.y*p.den)-(Geo.sub b a).y*(p.x-a.x*p.den))/\Geo.sgn ((Geo.sub b a).x*(p.y-a.y*p.den)-(Geo.sub b a).y*(p.x-a.x*p.den))=Geo.sgn (Geo.iK (⟨a,b⟩:Geo.S) p)) (by kernel_rfl) (by
 change bd 10000 a/\bd 10000 b/\PtB p at hp;have h1:=hp.2.2.off hp.1;have h2:=gS hp.2.1 hp.1;have h3:=hp.2.2;unfold PtB at h3;have m1:=fR (A:=20000) (B:=2000000000000) h2.1 (y:=p.y-a.y*p.den) (by omega)
 have m2:=fR (A:=20000) (B:=2000000000000) h2.2 (y:=p.x-a.x*p.den) (by omega)
 exact⟨hp.2.1.mono,hp.1.mono,cP (by omega),cP (by omega),cP (by omega),cP (by omega),cP (by omega),cP (by omega),cP (by omega),rfl⟩)
def aIl:Tab:=cC [(166,aJX)] aIp
theorem aEz:aIl.Ok Tryz.prog:=aK aED ⟨aMh,trivial⟩
def inR(s:Geo.S)(p:Geo.Pt):Bool:=decide (min s.a.x s.b.x*p.den<=p.x)&&decide (p.x<=max s.a.x s.b.x*p.den)&&decide (min s.a.y s.b.y*p.den<=p.y)&&decide (p.y<=max s.a.y s.b.y*p.den)
def aJY:Con:=con (ac aS (a1 aT)) (fun(s,p)=>[bd 10000 s.a,bd 10000 s.b,PtB p]) (fun(s,p)=> .bool (Geo.onR s p))
theorem aMi:aJY.Ok Tryz.prog 165:=aX (bK aEz) (raw:=bO) (fun(s,p)=>[jb 2 5 (inR s p)]
  ) (fun(_,_)=>⟨_,rfl⟩) fun(s,p) hp=>bL (q:=(aJ (Min.min s.a.x s.b.x*p.den)/\(Min.min s.a.x s.b.x*p.den<=p.x->aJ (Max.max s.a.x s.b.x*p.den)/\(p.x<=Max.max s.a.x s.b.x*p.den->aJ (Min.min s.a.y s.b.y*p.den)/\(Min.min s.a.y s.b.y*p.den<=p.y->aJ (Max.max s.a.y s.b.y*p.den)/\decide (p.y<=Max.max s.a.y s.b.y*p.den)=inR s p)/\
    (¬Min.min s.a.y s.b.y*p.den<=p.y->false=inR s p))/\
   (¬p.x<=Max.max s.a.x s.b.x*p.den->false=inR s p))/\
  (¬Min.min s.a.x s.b.x*p.den<=p.x->false=inR s p))/\
 (∀y:Unit,(inR s p=true->bd 10000 s.a/\bd 10000 s.b/\PtB p/\decide (Geo.sgn (Geo.iK s p)=0)=Geo.onR s p)/\
  (inR s p=false->false=Geo.onR s p))) (by kernel_rfl) (by
  change bd 10000 s.a/\bd 10000 s.b/\PtB p at hp;have h1:=hp.2.2.off (v:=⟨min s.a.x s.b.x,min s.a.y s.b.y⟩) (by unfold bd at*;dsimp only;omega)
  have h2:=hp.2.2.off (v:=⟨max s.a.x s.b.x,max s.a.y s.b.y⟩) (by unfold bd at*;dsimp only;omega)
  dsimp only at h1 h2;have e:Geo.onR s p=(inR s p&&Geo.sgn (Geo.iK s p)==0):=rfl;unfold inR at*
  repeat' first|with_reducible apply And.intro|with_reducible intro
  all_goals repeat with_reducible cases‹_/\_›
  all_goals first|assumption|rfl|exact trivial|exact nb ‹_› |exact nb' ‹_› |omega|exact cQ (by omega)|(unfold ix;omega)|(unfold aJ;omega)|exact bC _|exact aE ‹_› ‹_› |(refine aE ‹_› ?_;simp_all;done)|grind)
def aIm:Tab:=cC [(165,aJY)] aIl
theorem aEA:aIm.Ok Tryz.prog:=aK aEz ⟨aMi,trivial⟩
def kL(r:Geo.aM)(i k:Nat):Bool:=if k=i+1\/(i=0/\k=r.length-1)then Geo.dU (Geo.dL r i) (Geo.dL r k)==1 else Geo.dU (Geo.dL r i) (Geo.dL r k)==0
theorem rA(r:Geo.aM):Geo.dK r=true↔3<=r.length/\r.length<=40/\Geo.near r=true/\(∀i,i<r.length->Geo.cT (nth r i) (nth r ((i+1) % r.length)) (nth r ((i+2) % r.length))≠0)/\(∀i k,i<k->k<r.length->kL r i k=true)/\0<Geo.dX r:=by
 unfold Geo.dK;simp only[Bool.and_eq_true,decide_eq_true_eq,List.all_eq_true,List.mem_range,bne_iff_ne,Bool.or_eq_true];constructor
 ·rintro⟨⟨⟨⟨⟨h1,h2⟩,h3⟩,h4⟩,h5⟩,h6⟩;refine⟨h1,h2,h3,h4,fun i k hik hk=> ?_,h6⟩
  rcases h5 i (by omega) k hk with h|h
  ·omega
  ·exact h
 ·rintro⟨h1,h2,h3,h4,h5,h6⟩;refine⟨⟨⟨⟨⟨h1,h2⟩,h3⟩,h4⟩,fun i hi k hk=> ?_⟩,h6⟩
  by_cases h:k<=i
  ·exact .inl h
  ·exact .inr (h5 i k (by omega) hk)
theorem lM(r:Geo.aM)(h:2<=r.length):(Geo.aD r).length=r.length:=by unfold Geo.aD;rw[if_neg (by omega)];simp
theorem oR{r:Geo.aM}{i:Nat}(h:2<=r.length)(hi:i<r.length):bB (Geo.aD r) i=Geo.dL r i:=by
 rw[gP (by rw[lM r h];exact hi)]
 simp only[Geo.aD,if_neg (show¬r.length<2 by omega),List.getElem_map,List.getElem_range]
def Zx(p:Geo.Pt)(l:List Geo.S):Bool:=l.foldl (fun b s=>b !=Geo.sB s p) false
theorem Yi{p:Geo.Pt}{l:List Geo.S}{k:Nat}(h:k<l.length):Zx p (l.take (k+1))=(Zx p (l.take k) !=Geo.sB (bB l k) p):=by
 unfold Zx;rw[List.take_add_one,List.getElem?_eq_getElem h,List.foldl_append,gP h];rfl
theorem Nn{p:Geo.Pt}:∀{l:List Geo.S} {k:Nat} (ins:Bool),k<l.length->(∀j,j<k->Geo.onR (bB l j) p=false)->Geo.onR (bB l k) p=true->Geo.rM p l ins=1
 |[],k,ins,h,_,_=>by simp at h
 |s::l,0,ins,h,_,h2=>by
  unfold Geo.rM;rw[show Geo.onR s p=true from h2];rfl
 |s::l,k+1,ins,h,h1,h2=>by
  unfold Geo.rM;rw[show Geo.onR s p=false from h1 0 (by omega)]
  exact Nn (l:=l) (k:=k) _ (by simpa using h) (fun j hj=>h1 (j+1) (by omega)) h2
theorem Hx{p:Geo.Pt}:∀{l:List Geo.S} (ins:Bool),(∀j,j<l.length->Geo.onR (bB l j) p=false)->Geo.rM p l ins=if l.foldl (fun b s=>b !=Geo.sB s p) ins=true then 2 else 0
 |[],ins,_=>rfl
 |s::l,ins,h1=>by
  unfold Geo.rM;rw[show Geo.onR s p=false from h1 0 (by simp)]
  exact Hx (l:=l) _ (fun j hj=>h1 (j+1) (by simpa using hj))
def pr(r:Geo.aM)(p:Geo.Pt)(k:Nat):Bool:=Zx p ((Geo.aD r).take k)
theorem Wo{r:Geo.aM}(h:Geo.dK r=true){j:Nat}(hj:j<(Geo.aD r).length):bd 2000 (bB (Geo.aD r) j).a/\bd 2000 (bB (Geo.aD r) j).b:=by
 obtain⟨h1,h2,h3,_⟩:=(rA r).1 h;rw[lM r (by omega)]at hj
 rw[oR (by omega) hj]
 exact⟨lH h3 hj,lH h3 (Nat.mod_lt _ (by omega))⟩
def nxR(r:Geo.aM)(i k:Nat):Bool:=decide (k=i+1\/(i=0/\k=r.length-1))
abbrev nE(r:Geo.aM)(i:Nat):Geo.S:=bB (Geo.aD r) i
def upR(e:Geo.S)(p:Geo.Pt):Bool:=decide (e.a.y*p.den<=p.y)&&decide (p.y<e.b.y*p.den)
def dnR(e:Geo.S)(p:Geo.Pt):Bool:=decide (e.b.y*p.den<=p.y)&&decide (p.y<e.a.y*p.den)
def tp(r:Geo.aM)(i:Nat):Prop:=Geo.cT (nth r i) (nth r ((i+1) % r.length)) (nth r ((i+2) % r.length))≠0
def c91:Con:=con (a1 (aL .V)) (fun r=>[r.length<=100000]) (fun r=> .bool (Geo.dK r))
theorem k91:c91.Ok Tryz.prog 91:=aX (bK aEA) (raw:=bO) (fun r=>[jP 4 [3<=r.length,r.length<=40,Geo.near r=true],cnt 5 4 r.length (aU (tp r)),cnt 11 6 r.length (aU fun i=>∀k,i<k->k<r.length->kL r i k=true) fun i=>[(14,.mk Nat (fun F _=>sQ F 7) [] (fun k=>[i<k,k<=r.length,∀j,i<j->j<k->kL r i j=true]) (fun k=>[(7,.int .i64 (k:Int))]) (fun _=>[]) (fun k=>r.length-k) fun k=>[jb 17 8 (nxR r i k),jb 19 97 (!kL r i k)])]]
  ) (fun _=>⟨_,rfl⟩) fun r hp=>bL (q:=(((r.length:Int)<3->false=Geo.dK r)/\
  (¬(r.length:Int)<3->(40<(r.length:Int)->false=Geo.dK r)/\
   (¬40<(r.length:Int)->r.length<=100000/\((!Geo.near r)=true->false=Geo.dK r)/\
    ((!Geo.near r)=false->(3:Nat)<=r.length/\r.length<=40/\Geo.near r=true))))/\
 (∀y:Unit,(3:Nat)<=r.length/\r.length<=40/\Geo.near r=true->(0=(0:Int)/\(0:Nat)<=r.length/\aU (tp r) 0)/\
  (∀x:Nat,x<=r.length/\aU (tp r) x->((x:Int)<r.length->ix (x:Int) r.length/\aJ ((x:Int)+1)/\(r.length:Int)≠0/\ix (((x+1) % r.length:Nat):Int) r.length/\aJ ((x:Int)+2)/\(r.length:Int)≠0/\ix (((x+2) % r.length:Nat):Int) r.length/\bd 1000000000 (nth r x)/\bd 1000000000 (nth r ((x+1) % r.length))/\bd 1000000000 (nth r ((x+2) % r.length))/\(Geo.cT (nth r x) (nth r ((x+1) % r.length)) (nth r ((x+2) % r.length))=0->false=Geo.dK r)/\
    (¬Geo.cT (nth r x) (nth r ((x+1) % r.length)) (nth r ((x+2) % r.length))=0->aJ ((x:Int)+1)/\(x:Int)+1=((x+1:Nat):Int)/\x+1<=r.length/\aU (tp r) (x+1)/\r.length-(x+1)<r.length-x))/\
   (¬(x:Int)<r.length->r.length<=100000/\(0=(0:Int)/\(0:Nat)<=r.length/\aU (fun i=>∀k:Nat,i<k->k<r.length->kL r i k=true) 0)/\
    (∀x_1:Nat,x_1<=r.length/\aU (fun i=>∀k:Nat,i<k->k<r.length->kL r i k=true) x_1->((x_1:Int)<r.length->aJ ((x_1:Int)+1)/\((x_1:Int)+1=((x_1+1:Nat):Int)/\x_1<x_1+1/\x_1+1<=r.length/\(∀j:Nat,x_1<j->j<x_1+1->kL r x_1 j=true))/\
      (∀x_2:Nat,x_1<x_2/\x_2<=r.length/\(∀j:Nat,x_1<j->j<x_2->kL r x_1 j=true)->((x_2:Int)<r.length->(aJ ((x_1:Int)+1)/\((x_2:Int)=x_1+1->true=nxR r x_1 x_2)/\
         (¬(x_2:Int)=x_1+1->((x_1:Int)=0->aJ ((r.length:Int)-1)/\decide ((x_2:Int)=r.length-1)=nxR r x_1 x_2)/\
          (¬(x_1:Int)=0->false=nxR r x_1 x_2)))/\
        (∀y_1:Unit,ix (x_1:Int) (Geo.aD r).length/\ix (x_2:Int) (Geo.aD r).length/\((nxR r x_1 x_2=true->(¬Geo.dU (bB (Geo.aD r) x_1) (bB (Geo.aD r) x_2)=1->true=(!kL r x_1 x_2))/\
           (¬(¬Geo.dU (bB (Geo.aD r) x_1) (bB (Geo.aD r) x_2)=1)->((!nxR r x_1 x_2)=true->decide (¬Geo.dU (bB (Geo.aD r) x_1) (bB (Geo.aD r) x_2)=0)=(!kL r x_1 x_2))/\
            ((!nxR r x_1 x_2)=false->false=(!kL r x_1 x_2))))/\
          (nxR r x_1 x_2=false->((!nxR r x_1 x_2)=true->decide (¬Geo.dU (bB (Geo.aD r) x_1) (bB (Geo.aD r) x_2)=0)=(!kL r x_1 x_2))/\
           ((!nxR r x_1 x_2)=false->false=(!kL r x_1 x_2))))/\
         (∀y_2:Unit,((!kL r x_1 x_2)=true->false=Geo.dK r)/\
          ((!kL r x_1 x_2)=false->aJ ((x_2:Int)+1)/\(x_2:Int)+1=((x_2+1:Nat):Int)/\x_1<x_2+1/\x_2+1<=r.length/\(∀j:Nat,x_1<j->j<x_2+1->kL r x_1 j=true)/\r.length-(x_2+1)<r.length-x_2))))/\
       (¬(x_2:Int)<r.length->aJ ((x_1:Int)+1)/\(x_1:Int)+1=((x_1+1:Nat):Int)/\x_1+1<=r.length/\aU (fun i=>∀k:Nat,i<k->k<r.length->kL r i k=true) (x_1+1)/\r.length-(x_1+1)<r.length-x_1)))/\
     (¬(x_1:Int)<r.length->Geo.near r=true/\r.length<=100000/\decide (0<Geo.dX r)=Geo.dK r)))))) (by kernel_rfl) (by
  change r.length<=100000 at hp;have iff:=rA r;have hf:(Geo.dK r=true->False)->false=Geo.dK r:=fun h=>by cases e:Geo.dK r;rfl;exact(h e).elim
  have el:3<=r.length->(Geo.aD r).length=r.length:=fun h=>lM r (by omega)
  have en:Geo.near r=true->∀i,i<r.length->bd 1000000000 (nth r i):=fun h i hi=>lH h hi
  have hp':3<=r.length->∀i k,i<k->k<r.length->kL r i k=if nxR r i k=true then Geo.dU (bB (Geo.aD r) i) (bB (Geo.aD r) k)==1 else Geo.dU (bB (Geo.aD r) i) (bB (Geo.aD r) k)==0:=fun h i k h1 h2=>by
   unfold kL nxR;rw[oR (by omega) (by omega),oR (by omega) (by omega)];simp only[decide_eq_true_eq]
  have hE:3<=r.length->r.length<=40->Geo.near r=true->∀x y:Nat,¬(x:Int)<r.length->¬(y:Int)<r.length->aU (tp r) x->aU (fun i=>∀k:Nat,i<k->k<r.length->kL r i k=true) y->decide (0<Geo.dX r)=Geo.dK r:=fun h1 h2 h3 x y hx hy h4 h5=>by
   rw[Bool.eq_iff_iff,iff,decide_eq_true_eq];exact⟨fun h=>⟨h1,h2,h3,fun i hi=>h4 i (by omega),fun i k hi hk=>h5 i (by omega) k hi hk,h⟩,fun h=>h.2.2.2.2.2⟩
  repeat' first|with_reducible apply And.intro|with_reducible intro
  all_goals repeat with_reducible cases‹_/\_›
  all_goals first|assumption|rfl|exact trivial|exact nb ‹_› |exact nb' ‹_› |omega|exact cQ (by omega)|(unfold ix;omega)|(unfold aJ;omega)|exact bC _|exact aE ‹_› ‹_› |(refine aE ‹_› ?_;simp_all;done)|exact en ‹_› _ (by omega)|exact en ‹_› _ (Nat.mod_lt _ (by omega))|(rw[el ‹_›];exact eE (by omega))|exact hE ‹_› ‹_› ‹_› _ _ ‹_› ‹_› ‹_› ‹_› |(refine hf fun h=> ?_;have h:=iff.1 h;first|omega|(exact h.2.2.2.1 _ (by omega) ‹_=0›)|(have h2:=h.2.2.2.2.1 _ _ ‹_› (by omega);simp_all;done)|(simp_all;done))|(refine aE ‹_› ?_;grind)|(unfold nxR;exact(decide_eq_true (by omega)).symm)|(unfold nxR;exact(decide_eq_false (by omega)).symm)|(unfold nxR;exact decide_eq_decide.2 (by omega))|(rw[hp' ‹_› _ _ ‹_› (by omega),‹nxR _ _ _=_›];grind)|(intro j h1 h2;omega)|grind)
def t91:Tab:=cC [(91,c91)] aIm
theorem aHb:t91.Ok Tryz.prog:=aK aEA ⟨k91,trivial⟩
def aKH:Con:=con (ac (aL .V) (a1 aT)) (fun(r,_)=>[r.length<=100000]) (fun(r,p)=> .int .i64 (Geo.dM r p))
theorem aM1:aKH.Ok Tryz.prog 103:=aX (bK aHb) (raw:=bO) (fun(r,p)=>[jP 3 [Geo.dK r=true,Geo.dG p=true],lp 6 7 (Geo.aD r).length (fun k=>[aU (fun j=>Geo.onR (nE r j) p=false) k]) [] (fun k=>[(6,.bool (pr r p k))]) (fun _=>[]) fun k=>[(10012,.mk Unit (fun _ _=>some ()) [] (fun _=>[]) (fun _=>[(10,.bool (upR (nE r k) p)),(11,.bool (dnR (nE r k) p))]) (fun _=>[]) (fun _=>0) fun _=>[]),jb 13 97 (Geo.sB (nE r k) p)]]
  ) (fun(_,_)=>⟨_,rfl⟩) fun(r,p) hp=>bL (q:=(r.length<=100000/\((!Geo.dK r)=true->0=Geo.dM r p)/\
  ((!Geo.dK r)=false->((!Geo.dG p)=true->0=Geo.dM r p)/\
   ((!Geo.dG p)=false->Geo.dK r=true/\Geo.dG p=true)))/\
 (∀y:Unit,Geo.dK r=true/\Geo.dG p=true->r.length<=100000/\(0=(0:Int)/\false=pr r p 0/\(0:Nat)<=(Geo.aD r).length/\aU (fun j=>Geo.onR (nE r j) p=false) 0)/\
  (∀x:Nat,x<=(Geo.aD r).length/\aU (fun j=>Geo.onR (nE r j) p=false) x->((x:Int)<(Geo.aD r).length->ix (x:Int) (Geo.aD r).length/\bd 10000 (nE r x).a/\bd 10000 (nE r x).b/\PtB p/\(Geo.onR (nE r x) p=true->1=Geo.dM r p)/\
    (Geo.onR (nE r x) p=false->ix (x:Int) (Geo.aD r).length/\ix (x:Int) (Geo.aD r).length/\(aJ ((nE r x).a.y*p.den)/\((nE r x).a.y*p.den<=p.y->aJ ((nE r x).b.y*p.den)/\aJ ((nE r x).b.y*p.den)/\((nE r x).b.y*p.den<=p.y->aJ ((nE r x).a.y*p.den)/\decide (p.y<(nE r x).b.y*p.den)=upR (nE r x) p/\decide (p.y<(nE r x).a.y*p.den)=dnR (nE r x) p)/\
       (¬(nE r x).b.y*p.den<=p.y->decide (p.y<(nE r x).b.y*p.den)=upR (nE r x) p/\false=dnR (nE r x) p))/\
      (¬(nE r x).a.y*p.den<=p.y->aJ ((nE r x).b.y*p.den)/\((nE r x).b.y*p.den<=p.y->aJ ((nE r x).a.y*p.den)/\false=upR (nE r x) p/\decide (p.y<(nE r x).a.y*p.den)=dnR (nE r x) p)/\
       (¬(nE r x).b.y*p.den<=p.y->false=upR (nE r x) p/\false=dnR (nE r x) p)))/\
     (∀y_1:Unit,((upR (nE r x) p=true->bd 10000 (nE r x).a/\bd 10000 (nE r x).b/\PtB p/\(0<Geo.sgn (Geo.iK (nE r x) p)->true=Geo.sB (nE r x) p)/\
        (¬0<Geo.sgn (Geo.iK (nE r x) p)->(dnR (nE r x) p=true->bd 10000 (nE r x).a/\bd 10000 (nE r x).b/\PtB p/\decide (Geo.sgn (Geo.iK (nE r x) p)<0)=Geo.sB (nE r x) p)/\
         (dnR (nE r x) p=false->false=Geo.sB (nE r x) p)))/\
       (upR (nE r x) p=false->(dnR (nE r x) p=true->bd 10000 (nE r x).a/\bd 10000 (nE r x).b/\PtB p/\decide (Geo.sgn (Geo.iK (nE r x) p)<0)=Geo.sB (nE r x) p)/\
        (dnR (nE r x) p=false->false=Geo.sB (nE r x) p)))/\
      (∀y_2:Unit,(Geo.sB (nE r x) p=true->aJ ((x:Int)+1)/\(x:Int)+1=((x+1:Nat):Int)/\(!pr r p x)=pr r p (x+1)/\x+1<=(Geo.aD r).length/\aU (fun j=>Geo.onR (nE r j) p=false) (x+1)/\(Geo.aD r).length-(x+1)<(Geo.aD r).length-x)/\
       (Geo.sB (nE r x) p=false->aJ ((x:Int)+1)/\(x:Int)+1=((x+1:Nat):Int)/\pr r p x=pr r p (x+1)/\x+1<=(Geo.aD r).length/\aU (fun j=>Geo.onR (nE r j) p=false) (x+1)/\(Geo.aD r).length-(x+1)<(Geo.aD r).length-x)))))/\
   (¬(x:Int)<(Geo.aD r).length->(pr r p x=true->2=Geo.dM r p)/\
    (pr r p x=false->0=Geo.dM r p))))) (by kernel_rfl) (by
  change r.length<=100000 at hp;have e0:pr r p 0=false:=rfl;have es:∀k,k<(Geo.aD r).length->pr r p (k+1)=(pr r p k !=Geo.sB (nE r k) p):=fun k h=>Yi h
  have eh:∀e,Geo.sB e p=(upR e p&&decide (0<Geo.sgn (Geo.iK e p))||dnR e p&&decide (Geo.sgn (Geo.iK e p)<0)):=fun e=>rfl
  have hw0:Geo.dK r=false\/Geo.dG p=false->0=Geo.dM r p:=fun h=>by unfold Geo.dM;rcases h with h|h<;>simp[h]
  have hw:Geo.dK r=true->Geo.dG p=true->Geo.dM r p=Geo.rM p (Geo.aD r) false:=fun h1 h2=>by unfold Geo.dM;simp[h1,h2]
  have eb:Geo.dK r=true->∀j,j<(Geo.aD r).length->bd 2000 (nE r j).a/\bd 2000 (nE r j).b:=fun h j hj=>Wo h hj
  have el:(Geo.aD r).length<=100000:=by unfold Geo.aD;split<;>simp<;>omega
  have ey:Geo.dK r=true->Geo.dG p=true->∀j,j<(Geo.aD r).length->aJ ((nE r j).a.y*p.den)/\aJ ((nE r j).b.y*p.den):=fun h1 h2 j hj=>⟨cP (by have:=(PtB.of h2).off (eb h1 j hj).1.mono;omega),cP (by have:=(PtB.of h2).off (eb h1 j hj).2.mono;omega)⟩
  have s1:∀j,j<(Geo.aD r).length->aU (fun j=>Geo.onR (nE r j) p=false) j->Geo.onR (nE r j) p=true->Geo.rM p (Geo.aD r) false=1:=fun j h1 h2 h3=>Nn false h1 h2 h3
  have s2:∀k:Nat,¬(k:Int)<(Geo.aD r).length->k<=(Geo.aD r).length->aU (fun j=>Geo.onR (nE r j) p=false) k->Geo.rM p (Geo.aD r) false=if pr r p k=true then 2 else 0:=fun k h1 h2 h=>by
   obtain rfl:k=(Geo.aD r).length:=by omega
   rw[Hx false h];unfold pr Zx;rw[List.take_length]
  repeat' first|with_reducible apply And.intro|with_reducible intro
  all_goals repeat with_reducible cases‹_/\_›
  all_goals first|assumption|rfl|exact trivial|exact nb ‹_› |exact nb' ‹_› |omega|exact cQ (by omega)|(unfold ix;omega)|(unfold aJ;omega)|exact bC _|exact aE ‹_› ‹_› |(refine aE ‹_› ?_;simp_all;done)|exact(eb ‹_› _ (by omega)).1.mono|exact(eb ‹_› _ (by omega)).2.mono|exact(ey ‹_› ‹_› _ (by omega)).1|exact(ey ‹_› ‹_› _ (by omega)).2|exact PtB.of ‹_› |exact hw0 (.inl (nb' ‹_›))|exact hw0 (.inr (nb' ‹_›))|(rw[hw ‹_› ‹_›,s1 _ (by omega) ‹_› ‹_›])|(rw[hw ‹_› ‹_›,s2 _ ‹_› ‹_› ‹_›,‹pr _ _ _=_›];rfl)|(rw[es _ (by omega),‹Geo.sB _ _=_›];simp;done)|(rw[eh,‹upR _ _=_›,‹dnR _ _=_›];grind)|(rw[eh,‹upR _ _=_›];simp_all;done)|(unfold upR;simp_all;done)|(unfold dnR;simp_all;done)|grind)
def aI5:Tab:=cC [(103,aKH)] t91
theorem aFm:aI5.Ok Tryz.prog:=aK aHb ⟨aM1,trivial⟩
end
end Go.Proofs.YtdaeofhdgabhjaaGreat
namespace Go.Proofs.YtdaeofhdgabhjaaGreat
open Go.RowKit
set_option maxRecDepth 100000
noncomputable section
open Geo (aY nth aC)
def c36:Con:=con (ac (aL .V) (a1 aV)) (fun(r,_)=>[r.length<=100000]) (fun(r,v)=> .int .i64 (Geo.hU r v)
 )
theorem k36:c36.Ok Tryz.prog 36:=aX (bK aFm) (raw:=bO) (fun(_,_)=>[]) (fun(_,_)=>⟨_,rfl⟩) fun(r,v) hp=>bL (q:=(0:Int)<=8000/\(8000:Int)<=1000000000000/\((!Geo.bG v 8000)=true->0=Geo.hU r v)/\
 ((!Geo.bG v 8000)=false->r.length<=100000/\Geo.dM r (Geo.pT v)=Geo.hU r v)) (by kernel_rfl) (by
  change r.length<=100000 at hp;unfold Geo.hU;exact⟨by decide,by decide,fun h=>by rw[h];rfl,fun h=>⟨hp,by rw[h];rfl⟩⟩)
def t36:Tab:=cC [(36,c36)] aI5
theorem aLw:t36.Ok Tryz.prog:=aK aFm ⟨k36,trivial⟩
def t97:Tab:=t36
theorem aLh:t97.Ok Tryz.prog:=aLw
def t96:Tab:=t97
theorem aG9:t96.Ok Tryz.prog:=aLh
theorem rG(r:Geo.aM):∀k,Geo.bV r k<=k
 |0=>Nat.le_refl _
 |k+1=>by unfold Geo.bV;have:=rG r k;split<;>omega
theorem wR{r:Geo.aM}{k:Nat}(h:0<k):Geo.bV r k<k:=Geo.wR r k h
theorem aDt(r:Geo.aM)(k:Nat):Geo.bV r (k+1)=if Geo.cH (nth r k) (nth r (Geo.bV r k))=true then k else Geo.bV r k:=rfl
def aKd:Con:=con (a1 (aL .V)) (fun r=>[r.length<=100000]) (fun r=> .lst .V (Geo.dH r))
theorem aMx:aKd.Ok Tryz.prog 146:=aX (bK aG9) (raw:=bO) (fun r=>[lp 3 4 r.length (fun _=>[]) [] (fun k=>[(3,.int .i64 (Geo.bV r k))]) (fun _=>[])]
  ) (fun _=>⟨_,rfl⟩) fun r hp=>bL (q:=(0=(0:Int)/\0=(Geo.bV r 0:Int)/\(0:Nat)<=r.length)/\
 (∀x:Nat,x<=r.length->((x:Int)<r.length->ix (x:Int) r.length/\ix (Geo.bV r x:Int) r.length/\(Geo.cH (nth r x) (nth r (Geo.bV r x))=true->aJ ((x:Int)+1)/\(x:Int)+1=((x+1:Nat):Int)/\(x:Int)=Geo.bV r (x+1)/\x+1<=r.length/\r.length-(x+1)<r.length-x)/\
   (Geo.cH (nth r x) (nth r (Geo.bV r x))=false->aJ ((x:Int)+1)/\(x:Int)+1=((x+1:Nat):Int)/\(Geo.bV r x:Int)=Geo.bV r (x+1)/\x+1<=r.length/\r.length-(x+1)<r.length-x))/\
  (¬(x:Int)<r.length->(0<=(Geo.bV r x:Int)/\(Geo.bV r x:Int)<=r.length)/\([] :List Geo.V).length+(List.drop (Geo.bV r x) r).length<=1000000/\(0<=(Geo.bV r x:Int)/\(Geo.bV r x:Int)<=r.length)/\(([] :List Geo.V)++List.drop (Geo.bV r x) r).length=(([] :List Geo.V)++List.drop (Geo.bV r x) r).length/\(([] :List Geo.V)++List.drop (Geo.bV r x) r).length+(List.take (Geo.bV r x) r).length<=1000000/\(([] :List Geo.V)++List.drop (Geo.bV r x) r++List.take (Geo.bV r x) r).length=(([] :List Geo.V)++List.drop (Geo.bV r x) r++List.take (Geo.bV r x) r).length/\([] :List Geo.V)++List.drop (Geo.bV r x) r++List.take (Geo.bV r x) r=Geo.dH r))) (by kernel_rfl) (by
  change r.length<=100000 at hp;have e0:Geo.bV r 0=0:=rfl;have es:=aDt r;have el:=rG r;have eb:([] :List Geo.V)++List.drop (Geo.bV r r.length) r++List.take (Geo.bV r r.length) r=Geo.dH r:=rfl
  repeat' first|with_reducible apply And.intro|with_reducible intro
  all_goals repeat with_reducible cases‹_/\_›
  all_goals first|assumption|rfl|exact trivial|exact nb ‹_› |exact nb' ‹_› |omega|exact cQ (by omega)|(unfold ix;omega)|(unfold aJ;omega)|exact bC _|exact aE ‹_› ‹_› |(refine aE ‹_› ?_;simp_all;done)|exact eE (Nat.lt_of_le_of_lt (el _) (by omega))|(rw[es,if_pos ‹_›])|(rw[es,if_neg (by simp_all)])|(have:=el r.length;simp;omega)|grind)
def aID:Tab:=cC [(146,aKd)] t96
theorem aKT:aID.Ok Tryz.prog:=aK aG9 ⟨aMx,trivial⟩
def t71:Tab:=aID
theorem aHm:t71.Ok Tryz.prog:=aKT
theorem aC9{a b:Geo.aM}{k:Nat}(h:¬nth a k=nth b k):false=(a==b):=by
 symm;rw[beq_eq_false_iff_ne];intro e;subst e;exact h rfl
theorem aBH{a b:Geo.aM}(hl:(a.length:Int)=b.length){k:Nat}(hk:¬(k:Int)<a.length)(h:aU (fun j=>nth a j=nth b j) k):true=(a==b):=by
 symm;rw[beq_iff_eq];refine List.ext_getElem (by omega) fun j h1 h2=> ?_
 rw[<-nth_eq h1,<-nth_eq h2];exact h j (by omega)
def c23:Con:=con (ac (aL .V) (a1 (aL .V))) (fun(a,_)=>[a.length<=1000000]) (fun(a,b)=> .bool (a==b))
theorem k23:c23.Ok Tryz.prog 23:=aX (bK aHm) (raw:=bO) (fun(a,b)=>[cnt 4 5 a.length (aU fun j=>nth a j=nth b j)]
  ) (fun(_,_)=>⟨_,rfl⟩) fun(a,b) hp=>bL (q:=(¬(a.length:Int)=b.length->false=(a==b))/\
 (¬(¬(a.length:Int)=b.length)->(0=(0:Int)/\(0:Nat)<=a.length/\aU (fun j=>nth a j=nth b j) 0)/\
  (∀x:Nat,x<=a.length/\aU (fun j=>nth a j=nth b j) x->((x:Int)<a.length->ix (x:Int) a.length/\ix (x:Int) b.length/\(¬(nth a x)=(nth b x)->false=(a==b))/\
    (¬(¬(nth a x)=(nth b x))->aJ ((x:Int)+1)/\(x:Int)+1=((x+1:Nat):Int)/\x+1<=a.length/\aU (fun j=>nth a j=nth b j) (x+1)/\a.length-(x+1)<a.length-x))/\
   (¬(x:Int)<a.length->true=(a==b))))) (by kernel_rfl) (by
  change a.length<=1000000 at hp
  repeat' first|with_reducible apply And.intro|with_reducible intro
  all_goals repeat with_reducible cases‹_/\_›
  all_goals first|assumption|rfl|exact trivial|exact nb ‹_› |exact nb' ‹_› |omega|exact cQ (by omega)|(unfold ix;omega)|(unfold aJ;omega)|exact bC _|exact aE ‹_› ‹_› |(refine aE ‹_› ?_;simp_all;done)|exact aC9 ‹¬nth a _=_› |exact aBH (by omega) ‹_› ‹_› |(symm;rw[beq_eq_false_iff_ne];intro e;subst e;omega)|grind)
def t23:Tab:=cC [(23,c23)] t71
theorem aHK:t23.Ok Tryz.prog:=aK aHm ⟨k23,trivial⟩
def c76:Con:=con (ac (aL .V) (a1 (aL .V))) (fun(a,_)=>[a.length<=1000000]) (fun(a,b)=> .bool (a==b)
 )
theorem k76:c76.Ok Tryz.prog 76:=aX (bK aHK) (raw:=bO) (fun(_,_)=>[]) (fun(_,_)=>⟨_,rfl⟩) fun(a,b) hp=>bL (q:=a.length<=1000000/\(a==b)=(a==b)) (by kernel_rfl) (by
 change a.length<=1000000 at hp;exact⟨hp,rfl⟩)
def t76:Tab:=cC [(76,c76)] t23
theorem aHk:t76.Ok Tryz.prog:=aK aHK ⟨k76,trivial⟩
def Fit(s:Geo.Shape):Prop:=s.outer.length<=1000/\s.holes.length<=900/\∀r∈s.holes,r.length<=1000
theorem Fit.rings{s:Geo.Shape}(hf:Fit s):∀r∈Geo.aA s,r.length<=1000:=by
 intro r hr;unfold Geo.aA at hr;rcases List.mem_cons.1 hr with rfl|hr
 ·exact hf.1
 ·exact hf.2.2 r hr
theorem Fit.ring{s:Geo.Shape}(hf:Fit s){k:Nat}(hk:k<(Geo.aA s).length):(aC (Geo.aA s) k).length<=1000:=hf.rings _ (Geo.eM hk)
theorem Fit.hole{s:Geo.Shape}(hf:Fit s){k:Nat}(hk:k<s.holes.length):(aC s.holes k).length<=1000:=hf.2.2 _ (Geo.eM hk)
theorem Fit.rlen{s:Geo.Shape}(hf:Fit s):(Geo.aA s).length<=901:=by have:=hf.2.1;simp[Geo.aA];omega
def eS(s:Geo.Shape)(k:Nat):List Geo.S:=((Geo.aA s).take k).flatMap Geo.aD
theorem Lf{s:Geo.Shape}{k:Nat}(h:k<(Geo.aA s).length):eS s k++Geo.aD (aC (Geo.aA s) k)=eS s (k+1):=by
 unfold eS;rw[List.take_add_one,List.getElem?_eq_getElem h,List.flatMap_append,gQ h];simp
theorem tJ(r:Geo.aM):(Geo.aD r).length<=r.length:=by unfold Geo.aD;split<;>simp
theorem aBb{s:Geo.Shape}(hf:Fit s):∀k,k<=(Geo.aA s).length->(eS s k).length<=1000*k
 |0,_=>by simp[eS]
 |k+1,h=>by
  rw[<-Lf (by omega),List.length_append]
  have:=aBb hf k (by omega)
  have:=tJ (aC (Geo.aA s) k);have:=hf.ring (k:=k) (by omega)
  omega
theorem aGX(s:Geo.Shape):eS s (Geo.aA s).length=aY s:=by unfold eS;rw[List.take_length];rfl
def aKJ:Con:=con (a1 aSh) (fun s=>[Fit s]) (fun s=> .lst .R (Geo.aA s)
 )
theorem aM3:aKJ.Ok Tryz.prog 101:=aX (bK aHk) (raw:=bO) (fun _=>[]) (fun _=>⟨_,rfl⟩) fun s hp=>bL (q:=[s.outer].length+s.holes.length<=1000000/\([s.outer] ++s.holes).length=([s.outer] ++s.holes).length/\[s.outer] ++s.holes=Geo.aA s) (by kernel_rfl) (by
 change Fit s at hp;have h:=hp.2.1;exact⟨by simp;omega,rfl,rfl⟩)
def aI7:Tab:=cC [(101,aKJ)] t76
theorem aFo:aI7.Ok Tryz.prog:=aK aHk ⟨aM3,trivial⟩
def c33:Con:=con (a1 aSh) (fun s=>[Fit s]) (fun s=> .lst .S (aY s))
theorem k33:c33.Ok Tryz.prog 33:=aX (bK aFo) (raw:=bO) (fun s=>[lp 4 5 (Geo.aA s).length (fun _=>[]) [900] (fun k=>[(3,.own 900 .S (eS s k).length)]) (fun k=>[(900,.row 46 .S (eS s k))])]
  ) (fun _=>⟨_,rfl⟩) fun s hp=>bL (q:=Fit s/\(0=(0:Int)/\(eS s 0).length=0/\eS s 0=([] :List Geo.S)/\(0:Nat)<=(Geo.aA s).length)/\
 (∀x:Nat,x<=(Geo.aA s).length->((x:Int)<(Geo.aA s).length->ix (x:Int) (Geo.aA s).length/\(aC (Geo.aA s) x).length<=100000/\(eS s x).length=(eS s x).length/\(eS s x).length+(Geo.aD (aC (Geo.aA s) x)).length<=1000000/\aJ ((x:Int)+1)/\(x:Int)+1=((x+1:Nat):Int)/\(eS s x++Geo.aD (aC (Geo.aA s) x)).length=(eS s (x+1)).length/\eS s x++Geo.aD (aC (Geo.aA s) x)=eS s (x+1)/\x+1<=(Geo.aA s).length/\(Geo.aA s).length-(x+1)<(Geo.aA s).length-x)/\
  (¬(x:Int)<(Geo.aA s).length->(eS s x).length=(eS s x).length/\eS s x=aY s))) (by kernel_rfl) (by
  change Fit s at hp;have e0:eS s 0=[] :=rfl;have ea:=aGX s;have er:=hp.rlen;have es:= @Lf s;have eb:∀k,k<(Geo.aA s).length->(eS s k).length+(Geo.aD (aC (Geo.aA s) k)).length<=1000000:=fun k h=>by
   have:=aBb hp (k+1) (by omega);rw[<-Lf h,List.length_append]at this;omega
  have ek:= @Fit.ring s hp
  repeat' first|with_reducible apply And.intro|with_reducible intro
  all_goals repeat with_reducible cases‹_/\_›
  all_goals first|assumption|rfl|exact trivial|exact nb ‹_› |exact nb' ‹_› |omega|exact cQ (by omega)|(unfold ix;omega)|(unfold aJ;omega)|exact bC _|exact aE ‹_› ‹_› |(refine aE ‹_› ?_;simp_all;done)|exact es (by omega)|exact congrArg List.length (es (by omega))|exact Nat.le_trans (ek (by omega)) (by decide)|exact eb _ (by omega)|(rw[<-ea];congr 1;omega)|grind)
def t33:Tab:=cC [(33,c33)] aI7
theorem aHE:t33.Ok Tryz.prog:=aK aFo ⟨k33,trivial⟩
end
end Go.Proofs.YtdaeofhdgabhjaaGreat
namespace Go.Proofs.YtdaeofhdgabhjaaGreat
open Go.RowKit
set_option maxRecDepth 100000
noncomputable section
open Geo (nth aC)
def fC(a b:Geo.aM)(al:Bool):Bool:=if al=true then Geo.iA a b else Geo.fA a b
theorem Te{a b:Geo.aM}{al:Bool}{j:Nat}(hj:j<a.length)(h:(Geo.hU b (nth a j)==2)≠al):fC a b al= !al:=by
 unfold fC Geo.iA Geo.fA;cases al with
 |true=>rw[if_pos rfl];exact List.all_eq_false.2 ⟨_,Geo.dV hj,by simpa using h⟩
 |false=>rw[if_neg (by simp)];exact List.any_eq_true.2 ⟨_,Geo.dV hj,by simpa using h⟩
theorem Qb{a b:Geo.aM}{al:Bool}(h:∀j,j<a.length->(Geo.hU b (nth a j)==2)=al):fC a b al=al:=by
 unfold fC Geo.iA Geo.fA;cases al with
 |true=>
  rw[if_pos rfl];refine List.all_eq_true.2 fun x hx=> ?_
  obtain⟨j,hj,rfl⟩:=List.getElem_of_mem hx;rw[<-nth_eq hj];exact h j hj
 |false=>
  rw[if_neg (by simp)];refine List.any_eq_false.2 fun x hx=> ?_
  obtain⟨j,hj,rfl⟩:=List.getElem_of_mem hx;rw[<-nth_eq hj,h j hj];simp
def iT(s:Geo.Shape)(i:Nat):Bool:=Geo.dK (aC s.holes i)&& !Geo.gI (aC s.holes i) s.outer&&Geo.iA (aC s.holes i) s.outer
def gX(s:Geo.Shape)(i k:Nat):Bool:= !Geo.gI (aC s.holes i) (aC s.holes k)&& !Geo.fA (aC s.holes i) (aC s.holes k)&& !Geo.fA (aC s.holes k) (aC s.holes i)
def gY(s:Geo.Shape)(k:Nat):Nat:=s.outer.length+((s.holes.take k).map List.length).sum
theorem uB(s:Geo.Shape):gY s 0=s.outer.length:=by simp[gY]
theorem uC{s:Geo.Shape}{k:Nat}(h:k<s.holes.length):gY s (k+1)=gY s k+(aC s.holes k).length:=by
 unfold gY;rw[List.take_add_one,List.getElem?_eq_getElem h,List.map_append,List.sum_append,gQ h,<-Nat.add_assoc];rfl
theorem Fw(s:Geo.Shape):gY s s.holes.length=Geo.eN s:=by unfold gY Geo.eN Geo.aA;rw[List.take_length];simp
theorem Zi{s:Geo.Shape}(hf:Fit s)(k:Nat)(hk:k<=s.holes.length):gY s k<=1000*(k+1):=by
 induction k with
 |zero=>have:=hf.1;rw[uB];omega
 |succ k ih=>
  rw[uC (by omega)]
  have h1:=ih (by omega)
  have h2:=hf.2.2 _ (Geo.eM (show k<s.holes.length by omega))
  omega
theorem mS(s:Geo.Shape):Geo.bP s=true↔s.holes.length<=6/\Geo.dK s.outer=true/\(∀i,i<s.holes.length->iT s i=true/\∀k,k<i->gX s i k=true)/\Geo.eN s<=80:=by
 unfold Geo.bP;simp only[Bool.and_eq_true,decide_eq_true_eq,List.all_eq_true,List.mem_range];unfold iT gX;simp only[Bool.and_eq_true];constructor
 ·rintro⟨⟨⟨h1,h2⟩,h3⟩,h4⟩;exact⟨h1,h2,fun i hi=>⟨(h3 i hi).1,fun k hk=>(h3 i hi).2 k hk⟩,h4⟩
 ·rintro⟨h1,h2,h3,h4⟩;exact⟨⟨⟨h1,h2⟩,fun i hi=>⟨(h3 i hi).1,fun k hk=>(h3 i hi).2 k hk⟩⟩,h4⟩
theorem aBY{a b:Geo.aM}{i j:Nat}(h:¬Geo.dU (bB (Geo.aD a) i) (bB (Geo.aD b) j)=0)(hi:i<(Geo.aD a).length)(hj:j<(Geo.aD b).length):true=Geo.gI a b:=by
 unfold Geo.gI;symm;exact List.any_eq_true.2 ⟨_,Ny hi,List.any_eq_true.2 ⟨_,Ny hj,by simpa using h⟩⟩
def Wz(a b:Geo.aM)(i:Nat):Prop:=∀j,j<(Geo.aD b).length->Geo.dU (bB (Geo.aD a) i) (bB (Geo.aD b) j)=0
theorem aBX{a b:Geo.aM}{k:Nat}(hk:¬(k:Int)<(Geo.aD a).length)(h:aU (Wz a b) k):false=Geo.gI a b:=by
 unfold Geo.gI;symm;refine List.any_eq_false.2 fun x hx=> ?_
 obtain⟨i,hi,rfl⟩:=List.getElem_of_mem hx;rw[<-gP hi,Bool.not_eq_true];refine List.any_eq_false.2 fun y hy=> ?_
 obtain⟨j,hj,rfl⟩:=List.getElem_of_mem hy;rw[<-gP hj,h i (by omega) j hj];decide
theorem aDl{a b:Geo.aM}{i k:Nat}(hk:¬(k:Int)<(Geo.aD b).length)(h:aU (fun j=>Geo.dU (bB (Geo.aD a) i) (bB (Geo.aD b) j)=0) k):Wz a b i:=fun j hj=>h j (by omega)
def aKs:Con:=con (ac (aL .V) (a1 (aL .V))) (fun(a,b)=>[a.length<=100000,b.length<=100000]) (fun(a,b)=> .bool (Geo.gI a b))
theorem aMM:aKs.Ok Tryz.prog 128:=aX (bK aHE) (raw:=bO) (fun(a,b)=>[cnt 3 7 (Geo.aD a).length (aU (Wz a b)) fun i=>[cnt 6 8 (Geo.aD b).length (aU fun j=>Geo.dU (bB (Geo.aD a) i) (bB (Geo.aD b) j)=0)]]
  ) (fun(_,_)=>⟨_,rfl⟩) fun(a,b) hp=>bL (q:=a.length<=100000/\b.length<=100000/\(0=(0:Int)/\(0:Nat)<=(Geo.aD a).length/\aU (Wz a b) 0)/\
 (∀x:Nat,x<=(Geo.aD a).length/\aU (Wz a b) x->((x:Int)<(Geo.aD a).length->(0=(0:Int)/\(0:Nat)<=(Geo.aD b).length/\aU (fun j=>Geo.dU (bB (Geo.aD a) x) (bB (Geo.aD b) j)=0) 0)/\
   (∀x_1:Nat,x_1<=(Geo.aD b).length/\aU (fun j=>Geo.dU (bB (Geo.aD a) x) (bB (Geo.aD b) j)=0) x_1->((x_1:Int)<(Geo.aD b).length->ix (x:Int) (Geo.aD a).length/\ix (x_1:Int) (Geo.aD b).length/\(¬Geo.dU (bB (Geo.aD a) x) (bB (Geo.aD b) x_1)=0->true=Geo.gI a b)/\
     (¬(¬Geo.dU (bB (Geo.aD a) x) (bB (Geo.aD b) x_1)=0)->aJ ((x_1:Int)+1)/\(x_1:Int)+1=((x_1+1:Nat):Int)/\x_1+1<=(Geo.aD b).length/\aU (fun j=>Geo.dU (bB (Geo.aD a) x) (bB (Geo.aD b) j)=0) (x_1+1)/\(Geo.aD b).length-(x_1+1)<(Geo.aD b).length-x_1))/\
    (¬(x_1:Int)<(Geo.aD b).length->aJ ((x:Int)+1)/\(x:Int)+1=((x+1:Nat):Int)/\x+1<=(Geo.aD a).length/\aU (Wz a b) (x+1)/\(Geo.aD a).length-(x+1)<(Geo.aD a).length-x)))/\
  (¬(x:Int)<(Geo.aD a).length->false=Geo.gI a b))) (by kernel_rfl) (by
  change a.length<=100000/\b.length<=100000 at hp;have ha:=tJ a;have hb:=tJ b
  repeat' first|with_reducible apply And.intro|with_reducible intro
  all_goals repeat with_reducible cases‹_/\_›
  all_goals first|assumption|rfl|exact trivial|exact nb ‹_› |exact nb' ‹_› |omega|exact cQ (by omega)|(unfold ix;omega)|(unfold aJ;omega)|exact bC _|exact aE ‹_› ‹_› |(refine aE ‹_› ?_;simp_all;done)|exact aBY ‹¬Geo.dU _ _=0› (by omega) (by omega)|exact aBX ‹_› ‹_› |exact aE ‹_› (aDl ‹_› ‹_›)|(refine aE ‹_› ?_;exact Decidable.of_not_not ‹¬¬_›)|grind)
def aIR:Tab:=cC [(128,aKs)] t33
theorem aE7:aIR.Ok Tryz.prog:=aK aHE ⟨aMM,trivial⟩
def inQ(a b:Geo.aM)(al:Bool)(j:Nat):Prop:=(Geo.hU b (nth a j)==2)=al
def aKr:Con:=con (ac (aL .V) (ac (aL .V) (a1 aB))) (fun(a,b,_)=>[a.length<=100000,b.length<=100000]) (fun(a,b,al)=> .bool (fC a b al))
theorem aML:aKr.Ok Tryz.prog 129:=aX (bK aE7) (raw:=bO) (fun(a,b,al)=>[cnt 2 7 a.length (aU (inQ a b al))]
  ) (fun(_,_,_)=>⟨_,rfl⟩) fun(a,b,al) hp=>bL (q:=(0=(0:Int)/\(0:Nat)<=a.length/\aU (inQ a b al) 0)/\
 (∀x:Nat,x<=a.length/\aU (inQ a b al) x->((x:Int)<a.length->ix (x:Int) a.length/\b.length<=100000/\((decide (Geo.hU b (nth a x)=2) !=al)=true->(!al)=fC a b al)/\
   ((decide (Geo.hU b (nth a x)=2) !=al)=false->aJ ((x:Int)+1)/\(x:Int)+1=((x+1:Nat):Int)/\x+1<=a.length/\aU (inQ a b al) (x+1)/\a.length-(x+1)<a.length-x))/\
  (¬(x:Int)<a.length->al=fC a b al))) (by kernel_rfl) (by
  change a.length<=100000/\b.length<=100000 at hp;have c1:∀j:Nat,(decide (Geo.hU b (nth a j)=2) !=al)=true->j<a.length->(!al)=fC a b al:=fun j h hj=>(Te hj (bne_iff_ne.1 h)).symm
  have c2:∀j:Nat,(decide (Geo.hU b (nth a j)=2) !=al)=false->inQ a b al j:=fun j h=>bne_eq_false_iff_eq.1 h
  have e2:∀k:Nat,¬(k:Int)<a.length->aU (inQ a b al) k->fC a b al=al:=fun k h1 h2=>Qb fun j hj=>h2 j (by omega)
  repeat' first|with_reducible apply And.intro|with_reducible intro
  all_goals repeat with_reducible cases‹_/\_›
  all_goals first|assumption|rfl|exact trivial|exact nb ‹_› |exact nb' ‹_› |omega|exact cQ (by omega)|(unfold ix;omega)|(unfold aJ;omega)|exact bC _|exact aE ‹_› ‹_› |(refine aE ‹_› ?_;simp_all;done)|exact(e2 _ ‹_› ‹_›).symm|exact c1 _ ‹_› (by omega)|exact aE ‹_› (c2 _ ‹_›)|grind)
def aIQ:Tab:=cC [(129,aKr)] aIR
theorem aE6:aIQ.Ok Tryz.prog:=aK aE7 ⟨aML,trivial⟩
def c58:Con:=con (a1 aSh) (fun s=>[Fit s]) (fun s=> .bool (Geo.bP s))
set_option maxHeartbeats 1000000 in
theorem k58:c58.Ok Tryz.prog 58:=aX (bK aE6) (raw:=bO) (fun s=>[jP 3 [s.holes.length<=6,Geo.dK s.outer=true],lp 5 4 s.holes.length (fun k=>[aU (fun i=>iT s i=true/\∀k,k<i->gX s i k=true) k]) [] (fun k=>[(3,.int .i64 (gY s k:Int))]) (fun _=>[]) fun i=>[jP 11 [iT s i=true],cnt 12 6 i (aU fun k=>gX s i k=true)]]
  ) (fun _=>⟨_,rfl⟩) fun s hp=>bL (q:=((6<(s.holes.length:Int)->false=Geo.bP s)/\
  (¬6<(s.holes.length:Int)->s.outer.length<=100000/\((!Geo.dK s.outer)=true->false=Geo.bP s)/\
   ((!Geo.dK s.outer)=false->s.holes.length<=6/\Geo.dK s.outer=true)))/\
 (∀y:Unit,s.holes.length<=6/\Geo.dK s.outer=true->(0=(0:Int)/\(s.outer.length:Int)=gY s 0/\(0:Nat)<=s.holes.length/\aU (fun i=>iT s i=true/\(∀k:Nat,k<i->gX s i k=true)) 0)/\
  (∀x:Nat,x<=s.holes.length/\aU (fun i=>iT s i=true/\(∀k:Nat,k<i->gX s i k=true)) x->((x:Int)<s.holes.length->ix (x:Int) s.holes.length/\aJ ((gY s x:Int)+(aC s.holes x).length)/\((aC s.holes x).length<=100000/\((!Geo.dK (aC s.holes x))=true->false=Geo.bP s)/\
     ((!Geo.dK (aC s.holes x))=false->(aC s.holes x).length<=100000/\s.outer.length<=100000/\(Geo.gI (aC s.holes x) s.outer=true->false=Geo.bP s)/\
      (Geo.gI (aC s.holes x) s.outer=false->(aC s.holes x).length<=100000/\s.outer.length<=100000/\((!fC (aC s.holes x) s.outer true)=true->false=Geo.bP s)/\
       ((!fC (aC s.holes x) s.outer true)=false->iT s x=true))))/\
    (∀y_1:Unit,iT s x=true->(0=(0:Int)/\(0:Nat)<=x/\aU (fun k=>gX s x k=true) 0)/\
     (∀x_1:Nat,x_1<=x/\aU (fun k=>gX s x k=true) x_1->((x_1:Int)<x->ix (x_1:Int) s.holes.length/\(aC s.holes x).length<=100000/\(aC s.holes x_1).length<=100000/\(Geo.gI (aC s.holes x) (aC s.holes x_1)=true->false=Geo.bP s)/\
       (Geo.gI (aC s.holes x) (aC s.holes x_1)=false->ix (x_1:Int) s.holes.length/\(aC s.holes x).length<=100000/\(aC s.holes x_1).length<=100000/\(fC (aC s.holes x) (aC s.holes x_1) false=true->false=Geo.bP s)/\
        (fC (aC s.holes x) (aC s.holes x_1) false=false->ix (x_1:Int) s.holes.length/\(aC s.holes x_1).length<=100000/\(aC s.holes x).length<=100000/\(fC (aC s.holes x_1) (aC s.holes x) false=true->false=Geo.bP s)/\
         (fC (aC s.holes x_1) (aC s.holes x) false=false->aJ ((x_1:Int)+1)/\(x_1:Int)+1=((x_1+1:Nat):Int)/\x_1+1<=x/\aU (fun k=>gX s x k=true) (x_1+1)/\x-(x_1+1)<x-x_1))))/\
      (¬(x_1:Int)<x->aJ ((x:Int)+1)/\(x:Int)+1=((x+1:Nat):Int)/\(gY s x:Int)+(aC s.holes x).length=gY s (x+1)/\x+1<=s.holes.length/\aU (fun i=>iT s i=true/\(∀k:Nat,k<i->gX s i k=true)) (x+1)/\s.holes.length-(x+1)<s.holes.length-x))))/\
   (¬(x:Int)<s.holes.length->decide ((gY s x:Int)<=80)=Geo.bP s)))) (by kernel_rfl) (by
  change Fit s at hp;have hf:(Geo.bP s=true->False)->false=Geo.bP s:=fun h=>by cases e:Geo.bP s;rfl;exact(h e).elim
  have n1:∀i,iT s i=false->i<s.holes.length->false=Geo.bP s:=fun i h hi=>hf fun hv=>by rw[(((mS s).1 hv).2.2.1 i hi).1]at h;cases h
  have n2:∀i k,gX s i k=false->k<i->i<s.holes.length->false=Geo.bP s:=fun i k h hk hi=>hf fun hv=>by rw[(((mS s).1 hv).2.2.1 i hi).2 k hk]at h;cases h
  have a1:∀i,(!Geo.dK (aC s.holes i))=true->i<s.holes.length->false=Geo.bP s:=fun i h=>n1 i (by unfold iT;rw[nb' h];rfl)
  have a2:∀i,Geo.gI (aC s.holes i) s.outer=true->i<s.holes.length->false=Geo.bP s:=fun i h=>n1 i (by unfold iT;rw[h];simp)
  have a3:∀i,(!fC (aC s.holes i) s.outer true)=true->i<s.holes.length->false=Geo.bP s:=fun i h=>n1 i (by unfold iT;rw[show Geo.iA (aC s.holes i) s.outer=false from nb' h];simp)
  have a4:∀i,(!Geo.dK (aC s.holes i))=false->Geo.gI (aC s.holes i) s.outer=false->(!fC (aC s.holes i) s.outer true)=false->iT s i=true:=fun i h1 h2 h3=>by
   unfold iT;rw[nb h1,h2,show Geo.iA (aC s.holes i) s.outer=true from nb h3];rfl
  have b1:∀i k,Geo.gI (aC s.holes i) (aC s.holes k)=true->k<i->i<s.holes.length->false=Geo.bP s:=fun i k h=>n2 i k (by unfold gX;rw[h];rfl)
  have b2:∀i k,fC (aC s.holes i) (aC s.holes k) false=true->k<i->i<s.holes.length->false=Geo.bP s:=fun i k h=>n2 i k (by unfold gX;rw[show Geo.fA (aC s.holes i) (aC s.holes k)=true from h];simp)
  have b3:∀i k,fC (aC s.holes k) (aC s.holes i) false=true->k<i->i<s.holes.length->false=Geo.bP s:=fun i k h=>n2 i k (by unfold gX;rw[show Geo.fA (aC s.holes k) (aC s.holes i)=true from h];simp)
  have b4:∀i k,Geo.gI (aC s.holes i) (aC s.holes k)=false->fC (aC s.holes i) (aC s.holes k) false=false->fC (aC s.holes k) (aC s.holes i) false=false->gX s i k=true:=fun i k h1 h2 h3=>by
   unfold gX;rw[h1,show Geo.fA (aC s.holes i) (aC s.holes k)=false from h2,show Geo.fA (aC s.holes k) (aC s.holes i)=false from h3];rfl
  have b5:∀i k:Nat,¬(k:Int)<i->aU (fun k=>gX s i k=true) k->∀k,k<i->gX s i k=true:=fun i k h1 h2 j hj=>h2 j (by omega)
  have e0:=uB s;have es:∀k,k<s.holes.length->(gY s k:Int)+(aC s.holes k).length=gY s (k+1):=fun k h=>by rw[uC h];rfl
  have el:∀k,k<s.holes.length->aJ ((gY s k:Int)+(aC s.holes k).length):=fun k h=>by rw[es k h];exact cP (by have:=Zi hp (k+1) (by omega);have:=hp.2.1;omega)
  have ef:s.holes.length<=6->Geo.dK s.outer=true->∀k:Nat,¬(k:Int)<s.holes.length->k<=s.holes.length->aU (fun i=>iT s i=true/\∀k,k<i->gX s i k=true) k->decide ((gY s k:Int)<=80)=Geo.bP s:=fun h1 h2 k h3 h4 h5=>by
   obtain rfl:k=s.holes.length:=by omega
   rw[Fw,Bool.eq_iff_iff,mS,decide_eq_true_eq];exact⟨fun h=>⟨h1,h2,h5,by omega⟩,fun h=>by have:=h.2.2.2;omega⟩
  have ho:=hp.1;have hh:= @Fit.hole s hp
  repeat' first|with_reducible apply And.intro|with_reducible intro
  all_goals repeat with_reducible cases‹_/\_›
  all_goals first|assumption|rfl|exact trivial|exact nb ‹_› |exact nb' ‹_› |omega|exact cQ (by omega)|(unfold ix;omega)|(unfold aJ;omega)|exact bC _|exact aE ‹_› ‹_› |(refine aE ‹_› ?_;simp_all;done)|exact Nat.le_trans (hh (by omega)) (by decide)|exact el _ (by omega)|exact es _ (by omega)|exact ef ‹_› ‹_› _ ‹_› ‹_› ‹_› |exact a1 _ ‹_› (by omega)|exact a2 _ ‹_› (by omega)|exact a3 _ ‹_› (by omega)|exact a4 _ ‹_› ‹_› ‹_› |exact b1 _ _ ‹_› (by omega) (by omega)|exact b2 _ _ ‹_› (by omega) (by omega)|exact b3 _ _ ‹_› (by omega) (by omega)|exact aE ‹_› (b4 _ _ ‹_› ‹_› ‹_›)|exact aE ‹_› ⟨‹_›,b5 _ _ ‹_› ‹_›⟩|exact hf fun h=>by have h:=(mS s).1 h;first|omega|(simp_all;done)|grind)
def t58:Tab:=cC [(58,c58)] aIQ
theorem aHv:t58.Ok Tryz.prog:=aK aE6 ⟨k58,trivial⟩
theorem It{p:Geo.Pt}{l:List Geo.aM}{w:Int}{k:Nat}(hk:k<l.length)(h:∀j,j<k->Geo.dM (aC l j) p≠2/\Geo.dM (aC l j) p≠1):Geo.lT p l w=if Geo.dM (aC l k) p=2 then 0 else if Geo.dM (aC l k) p=1 then 1 else Geo.lT p (l.drop (k+1)) w:=by
 induction l generalizing k with
 |nil=>simp at hk
 |cons r l ih=>
  cases k with
  |zero=>rfl
  |succ k=>
   have h0:=h 0 (by omega)
   have e:aC (r::l) 0=r:=rfl;rw[e]at h0;have e1:Geo.lT p (r::l) w=(if Geo.dM r p=2 then 0 else if Geo.dM r p=1 then 1 else Geo.lT p l w):=rfl
   rw[e1,if_neg h0.1,if_neg h0.2];exact ih (k:=k) (by simpa using hk) (fun j hj=>h (j+1) (by omega))
theorem Ti{p:Geo.Pt}{l:List Geo.aM}{w:Int}(h:∀j,j<l.length->Geo.dM (aC l j) p≠2/\Geo.dM (aC l j) p≠1):Geo.lT p l w=w:=by
 induction l with
 |nil=>rfl
 |cons r l ih=>
  have h0:=h 0 (by simp)
  have e:aC (r::l) 0=r:=rfl;rw[e]at h0;unfold Geo.lT;rw[if_neg h0.1,if_neg h0.2];exact ih (fun j hj=>h (j+1) (by simpa using hj))
theorem Wk{X:List Geo.aM}{h:Geo.aM}:∀{k:Nat},k<=X.length->(∀j,j<k->Geo.cH (nth (aC X j) 0) (nth h 0)=true)->(k<X.length->Geo.cH (nth (aC X k) 0) (nth h 0)=false)->Geo.xD X h=X.take k++[h] ++X.drop k:=by
 induction X with
 |nil=>intro k hk _ _;simp[Geo.xD]
 |cons q r ih=>
  intro k hk h1 h2;cases k with
  |zero=>
   unfold Geo.xD;rw[if_neg (by rw[show Geo.cH (nth q 0) (nth h 0)=false from h2 (by simp)];simp)];rfl
  |succ k=>
   unfold Geo.xD;rw[if_pos (show Geo.cH (nth q 0) (nth h 0)=true from h1 0 (by omega)),ih (k:=k) (by simpa using hk) (fun j hj=>h1 (j+1) (by omega)) (fun hh=>h2 (by simpa using hh))];rfl
def bW(s:Geo.Shape)(i:Nat):List Geo.aM:=Geo.xG ((s.holes.take i).map Geo.dH)
theorem Au{s:Geo.Shape}{i:Nat}(h:i<s.holes.length):bW s (i+1)=Geo.xD (bW s i) (Geo.dH (aC s.holes i)):=by
 unfold bW Geo.xG;rw[List.take_add_one,List.getElem?_eq_getElem h,List.map_append,List.foldl_append,gQ h];rfl
theorem Av(s:Geo.Shape)(i:Nat):(bW s i).Perm ((s.holes.take i).map Geo.dH):=Geo.kF _
theorem vY(s:Geo.Shape)(i:Nat):(bW s i).length<=s.holes.length:=by
 rw[(Av s i).length_eq,List.length_map,List.length_take];exact Nat.min_le_right _ _
theorem Eo{s:Geo.Shape}{i:Nat}{r:Geo.aM}(h:r∈bW s i):∃q∈s.holes,r=Geo.dH q:=by
 have:=(Av s i).mem_iff.1 h;obtain⟨q,hq,rfl⟩:=List.mem_map.1 this;exact⟨q,List.mem_of_mem_take hq,rfl⟩
theorem Sj{s:Geo.Shape}(hp:∀r∈s.holes,0<r.length){i j:Nat}(h:j<(bW s i).length):0<(aC (bW s i) j).length:=by
 obtain⟨q,hq,e⟩:=Eo (Geo.eM h);rw[e,Geo.fM];exact hp q hq
def hQ(s:Geo.Shape)(p:Geo.Pt)(j:Nat):Prop:=Geo.dM (aC s.holes j) p≠2/\Geo.dM (aC s.holes j) p≠1
def c73:Con:=con (ac aSh (a1 aT)) (fun(s,_)=>[Fit s]) (fun(s,p)=> .int .i64 (Geo.fH s p))
theorem k73:c73.Ok Tryz.prog 73:=aX (bK aHv) (raw:=bO) (fun(s,p)=>[cnt 5 6 s.holes.length (aU (hQ s p))]
  ) (fun(_,_)=>⟨_,rfl⟩) fun(s,p) hp=>bL (q:=Fit s/\((!Geo.bP s)=true->0=Geo.fH s p)/\
 ((!Geo.bP s)=false->s.outer.length<=100000/\(0=(0:Int)/\(0:Nat)<=s.holes.length/\aU (hQ s p) 0)/\
  (∀x:Nat,x<=s.holes.length/\aU (hQ s p) x->((x:Int)<s.holes.length->ix (x:Int) s.holes.length/\(aC s.holes x).length<=100000/\(Geo.dM (aC s.holes x) p=2->0=Geo.fH s p)/\
    (¬Geo.dM (aC s.holes x) p=2->(Geo.dM (aC s.holes x) p=1->1=Geo.fH s p)/\
     (¬Geo.dM (aC s.holes x) p=1->aJ ((x:Int)+1)/\(x:Int)+1=((x+1:Nat):Int)/\x+1<=s.holes.length/\aU (hQ s p) (x+1)/\s.holes.length-(x+1)<s.holes.length-x)))/\
   (¬(x:Int)<s.holes.length->Geo.dM s.outer p=Geo.fH s p)))) (by kernel_rfl) (by
  change Fit s at hp;have h0:(!Geo.bP s)=true->0=Geo.fH s p:=fun h=>by unfold Geo.fH;rw[if_pos h]
  have h1:(!Geo.bP s)=false->Geo.fH s p=Geo.lT p s.holes (Geo.dM s.outer p):=fun h=>by unfold Geo.fH;rw[if_neg (by rw[h];simp)]
  have c1:∀k,aU (hQ s p) k->Geo.dM (aC s.holes k) p=2->(!Geo.bP s)=false->k<s.holes.length->0=Geo.fH s p:=fun k h h2 h3 hk=>by rw[h1 h3,It hk h,if_pos h2]
  have c2:∀k,aU (hQ s p) k->¬Geo.dM (aC s.holes k) p=2->Geo.dM (aC s.holes k) p=1->(!Geo.bP s)=false->k<s.holes.length->1=Geo.fH s p:=fun k h h2 h3 h4 hk=>by rw[h1 h4,It hk h,if_neg h2,if_pos h3]
  have c3:∀k:Nat,¬(k:Int)<s.holes.length->aU (hQ s p) k->(!Geo.bP s)=false->Geo.dM s.outer p=Geo.fH s p:=fun k hk h h2=>by rw[h1 h2,Ti fun j hj=>h j (by omega)]
  have ho:=hp.1;have hl:=hp.2.1;have hh:= @Fit.hole s hp
  repeat' first|with_reducible apply And.intro|with_reducible intro
  all_goals repeat with_reducible cases‹_/\_›
  all_goals first|assumption|rfl|exact trivial|exact nb ‹_› |exact nb' ‹_› |omega|exact cQ (by omega)|(unfold ix;omega)|(unfold aJ;omega)|exact bC _|exact aE ‹_› ‹_› |(refine aE ‹_› ?_;simp_all;done)|exact Nat.le_trans (hh (by omega)) (by decide)|exact h0 ‹_› |exact c1 _ ‹_› ‹_› ‹_› (by omega)|exact c2 _ ‹_› ‹_› ‹_› ‹_› (by omega)|exact c3 _ ‹_› ‹_› ‹_› |exact aE ‹_› ⟨‹_›,‹_›⟩|grind)
def t73:Tab:=cC [(73,c73)] t58
theorem aHl:t73.Ok Tryz.prog:=aK aHv ⟨k73,trivial⟩
def aKc:Con:=con (ac aI (a1 aI)) (fun(a,b)=>[-9000000000000000000<=a,a<=9000000000000000000,-9000000000000000000<=b,b<=9000000000000000000]) (fun(a,b)=> .int .i64 ((Nat.gcd a.natAbs b.natAbs:Nat):Int))
theorem aMw:aKc.Ok Tryz.prog 147:=aX (bK aHl) (raw:=bO) (fun(a,b)=>[jU 3 [(0,.int .i64 (a.natAbs:Int))],jU 5 [(1,.int .i64 (b.natAbs:Int))],(5,.mk (Int×Int) (fun F _=>aF6 F 0 1) [] (fun p=>[0<=p.1,0<=p.2,Nat.gcd p.1.natAbs p.2.natAbs=Nat.gcd a.natAbs b.natAbs]) (fun p=>[(0,.int .i64 p.1),(1,.int .i64 p.2)]) (fun _=>[]) (fun p=>p.2.natAbs) (fun _=>[]))]
  ) (fun(_,_)=>⟨_,rfl⟩) fun(a,b) hp=>bL (q:=((a<0->aJ (0-a)/\0-a=Int.natAbs a)/\
  (¬a<0->a=Int.natAbs a))/\
 (∀y:Unit,((b<0->aJ (0-b)/\0-b=Int.natAbs b)/\
   (¬b<0->b=Int.natAbs b))/\
  (∀y_1:Unit,((Int.natAbs a:Int)=Int.natAbs a/\(Int.natAbs b:Int)=Int.natAbs b/\0<=(Int.natAbs a:Int)/\0<=(Int.natAbs b:Int)/\Nat.gcd (Int.natAbs (Int.natAbs a:Int)) (Int.natAbs (Int.natAbs b:Int))=Nat.gcd (Int.natAbs a) (Int.natAbs b))/\
   (∀x:Prod Int Int,0<=x.1/\0<=x.2/\Nat.gcd (Int.natAbs x.1) (Int.natAbs x.2)=Nat.gcd (Int.natAbs a) (Int.natAbs b)->(¬x.2=0->x.2≠0/\x.2=x.2/\Int.tmod x.1 x.2=Int.tmod x.1 x.2/\0<=x.2/\0<=Int.tmod x.1 x.2/\Nat.gcd (Int.natAbs x.snd) (Int.natAbs (Int.tmod x.1 x.2))=Nat.gcd (Int.natAbs a) (Int.natAbs b)/\Int.natAbs (Int.tmod x.1 x.2)<Int.natAbs x.2)/\
    (¬(¬x.2=0)->x.1=Nat.gcd (Int.natAbs a) (Int.natAbs b)))))) (by kernel_rfl) (by
  change-9000000000000000000<=a/\a<=9000000000000000000/\ -9000000000000000000<=b/\b<=9000000000000000000 at hp;have e1:∀x y:Int,0<=x->0<=y->Nat.gcd y.natAbs (Int.tmod x y).natAbs=Nat.gcd x.natAbs y.natAbs:=fun x y _ _=>by
   rw[Int.natAbs_tmod,Nat.gcd_comm,<-Nat.gcd_rec,Nat.gcd_comm]
  have e2:∀x y:Int,0<=x->¬y=0->(Int.tmod x y).natAbs<y.natAbs:=fun x y _ h=>by
   rw[Int.natAbs_tmod];exact Nat.mod_lt _ (by omega)
  have e3:∀x y:Int,0<=x->0<=Int.tmod x y:=fun x y h=>Int.tmod_nonneg _ h
  repeat' first|with_reducible apply And.intro|with_reducible intro
  all_goals repeat with_reducible cases‹_/\_›
  all_goals first|assumption|rfl|exact trivial|exact nb ‹_› |exact nb' ‹_› |omega|exact cQ (by omega)|(unfold ix;omega)|(unfold aJ;omega)|exact bC _|exact aE ‹_› ‹_› |(refine aE ‹_› ?_;simp_all;done)|exact e3 _ _ ‹_› |exact e2 _ _ (by assumption) ‹_› |(rw[e1 _ _ (by assumption) (by assumption)];assumption)|(have h0:=Decidable.of_not_not ‹¬¬_›;simp_all;omega)|grind)
def aIC:Tab:=cC [(147,aKc)] t73
theorem aES:aIC.Ok Tryz.prog:=aK aHl ⟨aMw,trivial⟩
theorem zH{l:List Geo.V}{k:Nat}(h:k<l.length):Geo.iQ (l.take (k+1))=Geo.iQ (l.take k)+(nth l k).x:=by
 unfold Geo.iQ;rw[List.take_add_one,List.getElem?_eq_getElem h,List.map_append,List.sum_append,nth_eq h];simp
theorem zG{l:List Geo.V}{k:Nat}(h:k<l.length):Geo.iP (l.take (k+1))=Geo.iP (l.take k)+(nth l k).y:=by
 unfold Geo.iP;rw[List.take_add_one,List.getElem?_eq_getElem h,List.map_append,List.sum_append,nth_eq h];simp
theorem Ve{x:Int}{g:Nat}{B:Int}(h: -B<=x/\x<=B): -B<=x.tdiv (g:Int)/\x.tdiv (g:Int)<=B:=by
 have h1:(x.tdiv (g:Int)).natAbs<=x.natAbs:=by rw[Int.natAbs_tdiv];exact Nat.div_le_self _ _
 omega
theorem Vf{l:List Geo.V}(hm:∀v∈l,bd 10000 v):∀k:Nat,k<=l.length->(-(10000*(k:Int))<=Geo.iQ (l.take k)/\Geo.iQ (l.take k)<=10000*(k:Int))/\(-(10000*(k:Int))<=Geo.iP (l.take k)/\Geo.iP (l.take k)<=10000*(k:Int))
 |0,_=>by simp[Geo.iQ,Geo.iP]
 |k+1,h=>by
  have:=Vf hm k (by omega)
  have h2:=hm _ (Geo.dV (show k<l.length by omega))
  rw[zH (by omega),zG (by omega)];unfold bd at h2;omega
def c74:Con:=con (a1 (aL .V)) (fun l=>[0<l.length,l.length<=1000,(∀v∈l,bd 10000 v)]) (fun l=>aT.enc (Geo.jG l))
theorem k74:c74.Ok Tryz.prog 74:=aX (bK aES) (raw:=bO) (fun l=>[lp 3 4 l.length (fun _=>[]) [] (fun _=>[]) (fun k=>[(4,.box 74 [.int .i64 (Geo.iQ (l.take k)),.int .i64 (Geo.iP (l.take k)),.int .i64 (l.length:Int)])])]
  ) (fun _=>⟨_,rfl⟩) fun l hp=>bL (q:=(0=(0:Int)/\0=Geo.iQ (List.take 0 l)/\0=Geo.iP (List.take 0 l)/\(l.length:Int)=l.length/\(0:Nat)<=l.length)/\
 (∀x:Nat,x<=l.length->((x:Int)<l.length->ix (x:Int) l.length/\aJ (Geo.iQ (List.take x l)+(nth l x).x)/\ix (x:Int) l.length/\aJ (Geo.iP (List.take x l)+(nth l x).y)/\aJ ((x:Int)+1)/\(x:Int)+1=((x+1:Nat):Int)/\Geo.iQ (List.take x l)+(nth l x).x=Geo.iQ (List.take (x+1) l)/\Geo.iP (List.take x l)+(nth l x).y=Geo.iP (List.take (x+1) l)/\(l.length:Int)=l.length/\x+1<=l.length/\l.length-(x+1)<l.length-x)/\
  (¬(x:Int)<l.length-> -9000000000000000000<=Geo.iQ (List.take x l)/\Geo.iQ (List.take x l)<=9000000000000000000/\ -9000000000000000000<=Geo.iP (List.take x l)/\Geo.iP (List.take x l)<=9000000000000000000/\ -9000000000000000000<=(Nat.gcd (Int.natAbs (Geo.iQ (List.take x l))) (Int.natAbs (Geo.iP (List.take x l))):Int)/\(Nat.gcd (Int.natAbs (Geo.iQ (List.take x l))) (Int.natAbs (Geo.iP (List.take x l))):Int)<=9000000000000000000/\ -9000000000000000000<=(l.length:Int)/\(l.length:Int)<=9000000000000000000/\(Nat.gcd (Int.natAbs (Nat.gcd (Int.natAbs (Geo.iQ (List.take x l))) (Int.natAbs (Geo.iP (List.take x l))):Int)) (Int.natAbs (l.length:Int)):Int)≠0/\aJ (Int.tdiv (Geo.iQ (List.take x l)) (Nat.gcd (Int.natAbs (Nat.gcd (Int.natAbs (Geo.iQ (List.take x l))) (Int.natAbs (Geo.iP (List.take x l))):Int)) (Int.natAbs (l.length:Int)):Int))/\(Nat.gcd (Int.natAbs (Nat.gcd (Int.natAbs (Geo.iQ (List.take x l))) (Int.natAbs (Geo.iP (List.take x l))):Int)) (Int.natAbs (l.length:Int)):Int)≠0/\aJ (Int.tdiv (Geo.iP (List.take x l)) (Nat.gcd (Int.natAbs (Nat.gcd (Int.natAbs (Geo.iQ (List.take x l))) (Int.natAbs (Geo.iP (List.take x l))):Int)) (Int.natAbs (l.length:Int)):Int))/\(Nat.gcd (Int.natAbs (Nat.gcd (Int.natAbs (Geo.iQ (List.take x l))) (Int.natAbs (Geo.iP (List.take x l))):Int)) (Int.natAbs (l.length:Int)):Int)≠0/\aJ ((l.length/Nat.gcd (Int.natAbs (Nat.gcd (Int.natAbs (Geo.iQ (List.take x l))) (Int.natAbs (Geo.iP (List.take x l))):Int)) (Int.natAbs (l.length:Int)):Nat):Int)/\Int.tdiv (Geo.iQ (List.take x l)) (Nat.gcd (Int.natAbs (Nat.gcd (Int.natAbs (Geo.iQ (List.take x l))) (Int.natAbs (Geo.iP (List.take x l))):Int)) (Int.natAbs (l.length:Int)):Int)=(Geo.jG l).x/\Int.tdiv (Geo.iP (List.take x l)) (Nat.gcd (Int.natAbs (Nat.gcd (Int.natAbs (Geo.iQ (List.take x l))) (Int.natAbs (Geo.iP (List.take x l))):Int)) (Int.natAbs (l.length:Int)):Int)=(Geo.jG l).y/\((l.length/Nat.gcd (Int.natAbs (Nat.gcd (Int.natAbs (Geo.iQ (List.take x l))) (Int.natAbs (Geo.iP (List.take x l))):Int)) (Int.natAbs (l.length:Int)):Nat):Int)=(Geo.jG l).den))) (by kernel_rfl) (by
  change 0<l.length/\l.length<=1000/\((∀v∈l,bd 10000 v))at hp;obtain⟨h0,h1,hm⟩:=hp;simp only[Int.natAbs_natCast];have et:∀x:Nat,¬(x:Int)<l.length->x<=l.length->List.take x l=l:=fun x h1 h2=>List.take_of_length_le (by omega)
  have hg:∀n m,((Nat.gcd (Nat.gcd n m) l.length:Nat):Int)≠0:=fun n m=>by have:=Nat.gcd_pos_of_pos_right (Nat.gcd n m) h0;omega
  have hs:=Vf hm;have hd:∀x n m,x<=l.length->aJ (Int.tdiv (Geo.iQ (List.take x l)) (Nat.gcd (Nat.gcd n m) l.length:Int))/\aJ (Int.tdiv (Geo.iP (List.take x l)) (Nat.gcd (Nat.gcd n m) l.length:Int)):=fun x n m h=>by
   have:=hs x h;exact⟨cP (by have:=Ve (x:=Geo.iQ (List.take x l)) (g:=Nat.gcd (Nat.gcd n m) l.length) (B:=10000*x) this.1;omega),cP (by have:=Ve (x:=Geo.iP (List.take x l)) (g:=Nat.gcd (Nat.gcd n m) l.length) (B:=10000*x) this.2;omega)⟩
  have ha:∀x,x<l.length->aJ (Geo.iQ (List.take x l)+(nth l x).x)/\aJ (Geo.iP (List.take x l)+(nth l x).y):=fun x h=>by
   rw[<-zH h,<-zG h];have:=hs (x+1) (by omega);exact⟨cP (by omega),cP (by omega)⟩
  have hq:∀n m,aJ ((l.length/Nat.gcd (Nat.gcd n m) l.length:Nat):Int):=fun n m=>cP (by have:=Nat.div_le_self l.length (Nat.gcd (Nat.gcd n m) l.length);generalize l.length/Nat.gcd (Nat.gcd n m) l.length=q at*;omega)
  have hn:∀n m B:Nat,n<=B->m<=B->Nat.gcd n m<=B:=fun n m B h1 h2=>by
   rcases Nat.eq_zero_or_pos n with e|e
   ·rw[e,Nat.gcd_zero_left];exact h2
   ·exact Nat.le_trans (Nat.gcd_le_left m e) h1
  have hk:∀x,x<=l.length->((Nat.gcd (Geo.iQ (List.take x l)).natAbs (Geo.iP (List.take x l)).natAbs:Nat):Int)<=9000000000000000000:=fun x h=>by
   have:=hn (Geo.iQ (List.take x l)).natAbs (Geo.iP (List.take x l)).natAbs 10000000 (by have:=hs x h;omega) (by have:=hs x h;omega)
   omega
  repeat' first|with_reducible apply And.intro|with_reducible intro
  all_goals repeat with_reducible cases‹_/\_›
  all_goals first|assumption|rfl|exact trivial|exact nb ‹_› |exact nb' ‹_› |omega|exact cQ (by omega)|(unfold ix;omega)|(unfold aJ;omega)|exact bC _|exact aE ‹_› ‹_› |(refine aE ‹_› ?_;simp_all;done)|exact hk _ ‹_› |exact(ha _ (by omega)).1|exact(ha _ (by omega)).2|exact hg _ _|exact(hd _ _ _ ‹_›).1|exact(hd _ _ _ ‹_›).2|exact hq _ _|exact(zH (by omega)).symm|exact(zG (by omega)).symm|(have:=hs _ ‹_›;omega)|(rw[et _ ‹_› ‹_›];rfl)|grind)
def t74:Tab:=cC [(74,c74)] aIC
theorem aLn:t74.Ok Tryz.prog:=aK aES ⟨k74,trivial⟩
theorem Fy:∀{a b:Geo.aM} {k:Nat},(∀j,j<k->Geo.dW (nth a j) (nth b j)=0)->Geo.dW (nth a k) (nth b k)≠0->k<a.length->k<b.length->Geo.cD a b=Geo.dW (nth a k) (nth b k)
 |[],_,k,_,_,h,_=>by simp at h
 |_::_,[],k,_,_,_,h=>by simp at h
 |x::a,y::b,0,_,h,_,_=>by
  have e:Geo.dW x y≠0:=h;unfold Geo.cD;rw[if_pos e];rfl
 |x::a,y::b,k+1,h3,h4,h1,h2=>by
  have e:Geo.dW x y=0:=h3 0 (by omega)
  unfold Geo.cD;rw[if_neg (fun hne=>hne e)]
  exact Fy (a:=a) (b:=b) (k:=k) (fun j hj=>h3 (j+1) (by omega)) h4 (by simpa using h1) (by simpa using h2)
theorem uD:∀{a b:Geo.aM} {k:Nat},k<=a.length->k<=b.length->(k=a.length\/k=b.length)->(∀j,j<k->Geo.dW (nth a j) (nth b j)=0)->Geo.cD a b=Geo.sgn ((a.length:Int)-(b.length:Int))
 |[],[],_,_,_,_,_=>rfl
 |[],y::b,k,_,_,_,_=>by unfold Geo.cD Geo.sgn;simp only[List.length_cons,List.length_nil];rw[if_neg (by omega),if_pos (by omega)]
 |x::a,[],k,_,_,_,_=>by unfold Geo.cD Geo.sgn;simp only[List.length_cons,List.length_nil];rw[if_pos (by omega)]
 |x::a,y::b,0,_,_,h,_=>by simp at h
 |x::a,y::b,k+1,h1,h2,h3,h4=>by
  have e:Geo.dW x y=0:=h4 0 (by omega)
  unfold Geo.cD;rw[if_neg (fun hne=>hne e)]
  rw[uD (a:=a) (b:=b) (k:=k) (by simpa using h1) (by simpa using h2) (by simpa using h3) (fun j hj=>h4 (j+1) (by omega))]
  congr 1;simp only[List.length_cons];omega
def t27:Tab:=t74
theorem aHG:t27.Ok Tryz.prog:=aLn
theorem Pn{s:Geo.Shape}(hv:Geo.bP s=true):0<s.outer.length/\∀r∈s.holes,0<r.length:=by
 have h:=(mS s).1 hv;refine⟨by have:=((rA s.outer).1 h.2.1).1;omega,fun r hr=> ?_⟩
 obtain⟨i,hi,rfl⟩:=Geo.tI hr;have h2:=(h.2.2.1 i hi).1;unfold iT at h2;simp only[BI]at h2;have:=((rA _).1 h2.1.1).1;omega
theorem Jd(s:Geo.Shape):Geo.cY s=⟨Geo.dH s.outer,bW s s.holes.length⟩:=by unfold Geo.cY bW;rw[List.take_length]
theorem Ad{s:Geo.Shape}(hf:Fit s):Fit (Geo.cY s):=by
 rw[Jd];refine⟨by dsimp only;rw[Geo.fM];exact hf.1,?_,fun r hr=> ?_⟩
 ·have:=vY s s.holes.length;have:=hf.2.1;dsimp only;omega
 ·obtain⟨q,hq,rfl⟩:=Eo hr;rw[Geo.fM];exact hf.2.2 q hq
theorem Fs{L:List Geo.aM}{k:Nat}(hk:k<L.length):(L.take (k+1)).flatten=(L.take k).flatten++aC L k:=by
 rw[List.take_add_one,List.flatten_append,List.getElem?_eq_getElem hk,gQ hk];simp
theorem aCe{L:List Geo.aM}(h:∀r∈L,r.length<=1000)(k:Nat)(hk:k<=L.length):((L.take k).flatten).length<=1000*k:=by
 induction k with
 |zero=>simp
 |succ k ih=>
  rw[Fs (by omega),List.length_append]
  have h1:=ih (by omega)
  have h3:=h _ (Geo.eM (show k<L.length by omega))
  omega
def qSU(s:Geo.Shape)(i j:Nat):Prop:=Geo.cH (nth (aC (bW s i) j) 0) (nth (Geo.dH (aC s.holes i)) 0)=true
def jSU(s:Geo.Shape)(i j:Nat):List Geo.aM:=(bW s i).take j++[Geo.dH (aC s.holes i)] ++(bW s i).drop j
theorem aA5{s:Geo.Shape}{i j:Nat}(h:bW s (i+1)=jSU s i j):([] :List (List Geo.V))++List.take j (List.drop 0 (bW s i))++[Geo.dH (aC s.holes i)] ++List.take ((bW s i).length-j) (List.drop j (bW s i))=bW s (i+1):=by
 have e:List.take ((bW s i).length-j) (List.drop j (bW s i))=List.drop j (bW s i):=List.take_of_length_le (by simp)
 rw[h,e];unfold jSU;simp
def aKq:Con:=con (a1 aSh) (fun s=>[Fit s,0<s.outer.length,(∀r∈s.holes,0<r.length)]) (fun s=> .agg [.lst .V (Geo.dH s.outer),.lst .R (bW s s.holes.length)])
theorem aMK:aKq.Ok Tryz.prog 130:=aX (bK aHG) (raw:=bO) (fun s=>[lp 3 4 s.holes.length (fun _=>[]) [900] (fun _=>[]) (fun k=>[(6,.box 26 [.lst .V (Geo.dH s.outer),.own 900 .R (bW s k).length]),(900,.row 23 .R (bW s k))]) fun i=>[cnt 7 6 (bW s i).length (aU (qSU s i)),jN 9 6 fun j=>[j<=(bW s i).length,bW s (i+1)=jSU s i j]]]
  ) (fun _=>⟨_,rfl⟩) fun s hp=>bL (q:=s.outer.length<=100000/\(0=(0:Int)/\Geo.dH s.outer=Geo.dH s.outer/\(bW s 0).length=0/\bW s 0=([] :List (List Geo.V))/\(0:Nat)<=s.holes.length)/\
 (∀x:Nat,x<=s.holes.length->((x:Int)<s.holes.length->ix (x:Int) s.holes.length/\(aC s.holes x).length<=100000/\((0=(0:Int)/\(0:Nat)<=(bW s x).length/\aU (qSU s x) 0)/\
    (∀x_1:Nat,x_1<=(bW s x).length/\aU (qSU s x) x_1->((x_1:Int)<(bW s x).length->ix (x_1:Int) (bW s x).length/\x_1<(bW s x).length/\ix 0 (aC (bW s x) x_1).length/\ix 0 (Geo.dH (aC s.holes x)).length/\(Geo.cH (nth (aC (bW s x) x_1) 0) (nth (Geo.dH (aC s.holes x)) 0)=true->aJ ((x_1:Int)+1)/\(x_1:Int)+1=((x_1+1:Nat):Int)/\x_1+1<=(bW s x).length/\aU (qSU s x) (x_1+1)/\(bW s x).length-(x_1+1)<(bW s x).length-x_1)/\
      (Geo.cH (nth (aC (bW s x) x_1) 0) (nth (Geo.dH (aC s.holes x)) 0)=false->(x_1:Int)=x_1/\x_1<=(bW s x).length/\bW s (x+1)=jSU s x x_1))/\
     (¬(x_1:Int)<(bW s x).length->(x_1:Int)=x_1/\x_1<=(bW s x).length/\bW s (x+1)=jSU s x x_1)))/\
   (∀y:Nat,y<=(bW s x).length/\bW s (x+1)=jSU s x y->(0<=(y:Int)/\(y:Int)<=(bW s x).length)/\0+y<=(bW s x).length/\([] :List (List Geo.V)).length+(List.take y (List.drop 0 (bW s x))).length<=1000000/\(([] :List (List Geo.V))++List.take y (List.drop 0 (bW s x))).length=(([] :List (List Geo.V))++List.take y (List.drop 0 (bW s x))).length/\(([] :List (List Geo.V))++List.take y (List.drop 0 (bW s x))).length+[Geo.dH (aC s.holes x)].length<=1000000/\(0<=(y:Int)/\(y:Int)<=(bW s x).length)/\(([] :List (List Geo.V))++List.take y (List.drop 0 (bW s x))++[Geo.dH (aC s.holes x)]).length=(([] :List (List Geo.V))++List.take y (List.drop 0 (bW s x))++[Geo.dH (aC s.holes x)]).length/\y+((bW s x).length-y)<=(bW s x).length/\(([] :List (List Geo.V))++List.take y (List.drop 0 (bW s x))++[Geo.dH (aC s.holes x)]).length+(List.take ((bW s x).length-y) (List.drop y (bW s x))).length<=1000000/\aJ ((x:Int)+1)/\(x:Int)+1=((x+1:Nat):Int)/\Geo.dH s.outer=Geo.dH s.outer/\(([] :List (List Geo.V))++List.take y (List.drop 0 (bW s x))++[Geo.dH (aC s.holes x)] ++List.take ((bW s x).length-y) (List.drop y (bW s x))).length=(bW s (x+1)).length/\([] :List (List Geo.V))++List.take y (List.drop 0 (bW s x))++[Geo.dH (aC s.holes x)] ++List.take ((bW s x).length-y) (List.drop y (bW s x))=bW s (x+1)/\x+1<=s.holes.length/\s.holes.length-(x+1)<s.holes.length-x))/\
  (¬(x:Int)<s.holes.length->(bW s x).length=(bW s x).length/\Geo.dH s.outer=Geo.dH s.outer/\bW s x=bW s s.holes.length))) (by kernel_rfl) (by
  change Fit s/\0<s.outer.length/\((∀r∈s.holes,0<r.length))at hp;obtain⟨hf,hpo,hph⟩:=hp;have h1:=hf.1;have h2:=hf.2.1;have hh:= @Fit.hole s hf;have i0:bW s 0=[] :=rfl;have hl:=vY s;have kf:∀k:Nat,¬(k:Int)<s.holes.length->k<=s.holes.length->bW s k=bW s s.holes.length:=fun k h1 h2=>by rw[show k=s.holes.length by omega]
  have kl:∀i j:Nat,(j:Int)<(bW s i).length->aJ ((j:Int)+1):=fun i j h=>cP (by have:=hl i;omega)
  have hb:∀i,i<s.holes.length->ix 0 (Geo.dH (aC s.holes i)).length:=fun i h=>eE (by rw[Geo.fM];exact hph _ (Geo.eM h))
  have hq:∀i j,j<(bW s i).length->ix 0 (aC (bW s i) j).length:=fun i j h=>eE (Sj hph h)
  have hj1:∀i j:Nat,¬(j:Int)<(bW s i).length->j<=(bW s i).length->aU (qSU s i) j->i<s.holes.length->bW s (i+1)=jSU s i j:=fun i j h1 h2 h3 h=>by rw[Au h];exact Wk h2 h3 (fun h=>by omega)
  have hj2:∀i j:Nat,Geo.cH (nth (aC (bW s i) j) 0) (nth (Geo.dH (aC s.holes i)) 0)=false->j<=(bW s i).length->aU (qSU s i) j->i<s.holes.length->bW s (i+1)=jSU s i j:=fun i j h1 h2 h3 h=>by rw[Au h];exact Wk h2 h3 (fun _=>h1)
  repeat' first|with_reducible apply And.intro|with_reducible intro
  all_goals repeat with_reducible cases‹_/\_›
  all_goals first|assumption|rfl|exact trivial|exact nb ‹_› |exact nb' ‹_› |omega|exact cQ (by omega)|(unfold ix;omega)|(unfold aJ;omega)|exact bC _|exact aE ‹_› ‹_› |(refine aE ‹_› ?_;simp_all;done)|exact kf _ ‹_› ‹_› |exact kl _ _ ‹_› |exact Nat.le_trans (hh (by omega)) (by decide)|exact hb _ (by omega)|exact hq _ _ (by omega)|exact hj1 _ _ ‹_› ‹_› ‹_› (by omega)|exact hj2 _ _ ‹_› ‹_› ‹_› (by omega)|exact aA5 ‹_› |exact congrArg List.length (aA5 ‹_›)|(simp;omega)|grind)
def aIP:Tab:=cC [(130,aKq)] t27
theorem aE5:aIP.Ok Tryz.prog:=aK aHG ⟨aMK,trivial⟩
def c59:Con:=con (a1 aSh) (fun s=>[Fit s,Geo.bP s=true]) (fun s=>aSh.enc (Geo.cY s)
 )
theorem k59:c59.Ok Tryz.prog 59:=aX (bK aE5) (raw:=bO) (fun _=>[]) (fun _=>⟨_,rfl⟩) fun s hp=>bL (q:=Fit s/\((!Geo.bP s)=true->(Geo.cY s).outer=([] :List Geo.V)/\(Geo.cY s).holes=([] :List (List Geo.V)))/\
 ((!Geo.bP s)=false->Fit s/\(0:Nat)<s.outer.length/\(∀r:Geo.aM,r∈s.holes->(0:Nat)<r.length)/\Geo.dH s.outer=(Geo.cY s).outer/\bW s s.holes.length=(Geo.cY s).holes)) (by kernel_rfl) (by
  change Fit s/\Geo.bP s=true at hp;have h:=Pn hp.2;have e:=Jd s;refine⟨hp.1,fun hh=> ?_,fun _=>⟨hp.1,h.1,h.2,by rw[e],by rw[e]⟩⟩
  rw[hp.2]at hh;cases hh)
def t59:Tab:=cC [(59,c59)] aIP
theorem aHu:t59.Ok Tryz.prog:=aK aE5 ⟨k59,trivial⟩
def vOf(s:Geo.Shape):List Geo.V:=if Geo.bP s=true then Geo.eP (Geo.cY s)else []
def eOf(s:Geo.Shape):Int:=if Geo.bP s=true then 0 else 11
def vU(s:Geo.Shape)(k:Nat):List Geo.V:=((Geo.aA (Geo.cY s)).take (k+1)).flatten
theorem Kj{s:Geo.Shape}{k:Nat}(h:k<(Geo.cY s).holes.length):vU s k++aC (Geo.cY s).holes k=vU s (k+1):=by
 unfold vU;rw[Fs (L:=Geo.aA (Geo.cY s)) (k:=k+1) (by simp[Geo.aA];omega)];rfl
def c18:Con:=con (a1 aSh) (fun s=>[Fit s]) (fun s=> .tup [.lst .V (vOf s),.int .i64 (eOf s)])
theorem k18:c18.Ok Tryz.prog 18:=aX (bK aHu) (raw:=bO) (fun s=>[lp 6 6 (Geo.cY s).holes.length (fun _=>[]) [13] (fun k=>[(5,.own 13 .V (vU s k).length)]) (fun k=>[(13,.row 44 .V (vU s k))])]
  ) (fun _=>⟨_,rfl⟩) fun s hp=>bL (q:=Fit s/\((!Geo.bP s)=true->vOf s=([] :List Geo.V)/\11=eOf s)/\
 ((!Geo.bP s)=false->Fit s/\Geo.bP s=true/\([] :List Geo.V).length+(Geo.cY s).outer.length<=1000000/\(0=(0:Int)/\(([] :List Geo.V)++(Geo.cY s).outer).length=(vU s 0).length/\([] :List Geo.V)++(Geo.cY s).outer=vU s 0/\(0:Nat)<=(Geo.cY s).holes.length)/\
  (∀x:Nat,x<=(Geo.cY s).holes.length->((x:Int)<(Geo.cY s).holes.length->ix (x:Int) (Geo.cY s).holes.length/\(vU s x).length=(vU s x).length/\(vU s x).length+(aC (Geo.cY s).holes x).length<=1000000/\aJ ((x:Int)+1)/\(x:Int)+1=((x+1:Nat):Int)/\(vU s x++aC (Geo.cY s).holes x).length=(vU s (x+1)).length/\vU s x++aC (Geo.cY s).holes x=vU s (x+1)/\x+1<=(Geo.cY s).holes.length/\(Geo.cY s).holes.length-(x+1)<(Geo.cY s).holes.length-x)/\
   (¬(x:Int)<(Geo.cY s).holes.length->(vU s x).length=(vU s x).length/\vU s x=vOf s/\0=eOf s)))) (by kernel_rfl) (by
  change Fit s at hp;have hc:=Ad hp;have h1:=hc.1;have h2:=hc.2.1;have e0:vU s 0=[] ++(Geo.cY s).outer:=by simp[vU,Geo.aA]
  have el:∀k,k<(Geo.cY s).holes.length->(vU s k).length+(aC (Geo.cY s).holes k).length<=1000000:=fun k h=>by
   have:=aCe hc.rings (k+2) (by simp[Geo.aA];omega)
   rw[<-List.length_append,Kj h];exact Nat.le_trans this (by omega)
  have ea:∀k:Nat,¬(k:Int)<(Geo.cY s).holes.length->k<=(Geo.cY s).holes.length->(!Geo.bP s)=false->vU s k=vOf s:=fun k h1 h2 h3=>by
   obtain rfl:k=(Geo.cY s).holes.length:=by omega
   unfold vOf;rw[nb h3,if_pos rfl];unfold vU Geo.eP;rw[List.take_of_length_le (by simp[Geo.aA])]
  have hv0:(!Geo.bP s)=true->vOf s=[]/\eOf s=11:=fun h=>by unfold vOf eOf;rw[nb' h];exact⟨rfl,rfl⟩
  have hv1:(!Geo.bP s)=false->eOf s=0:=fun h=>by unfold eOf;rw[nb h];rfl
  repeat' first|with_reducible apply And.intro|with_reducible intro
  all_goals repeat with_reducible cases‹_/\_›
  all_goals first|assumption|rfl|exact trivial|exact nb ‹_› |exact nb' ‹_› |omega|exact cQ (by omega)|(unfold ix;omega)|(unfold aJ;omega)|exact bC _|exact aE ‹_› ‹_› |(refine aE ‹_› ?_;simp_all;done)|exact Kj (by omega)|exact congrArg List.length (Kj (by omega))|exact el _ (by omega)|exact ea _ ‹_› ‹_› ‹_› |exact(hv0 ‹_›).1.symm|exact(hv0 ‹_›).1|exact(hv0 ‹_›).2.symm|exact(hv1 ‹_›).symm|(rw[e0];done)|(simp;omega)|grind)
def t18:Tab:=cC [(18,c18)] t59
theorem aLB:t18.Ok Tryz.prog:=aK aHu ⟨k18,trivial⟩
end
end Go.Proofs.YtdaeofhdgabhjaaGreat
namespace Go.Proofs.YtdaeofhdgabhjaaGreat
open Go.RowKit
noncomputable section
def t31:Tab:=t18
theorem aLx:t31.Ok Tryz.prog:=aLB
def t69:Tab:=t31
theorem aLp:t69.Ok Tryz.prog:=aLx
def t75:Tab:=t69
theorem aLm:t75.Ok Tryz.prog:=aLp
def t72:Tab:=t75
theorem aLo:t72.Ok Tryz.prog:=aLm
theorem Na{s:Geo.Shape}(h:Geo.VS s):(Geo.eP (Geo.cY s)).length<=80:=by
 have h1:=(Geo.kT s).length_eq;have h2:=h.corners;unfold Geo.eN at h2;rw[h1];unfold Geo.eP;rw[List.length_flatten];exact h2
theorem aCU{s:Geo.Shape}(h:Geo.VS s):∀x∈Geo.eP (Geo.cY s),Geo.bG x 2000=true:=by
 intro x hx;have hx:=(Geo.kT s).subset hx;unfold Geo.eP at hx;obtain⟨r,hr,hxr⟩:=List.mem_flatten.1 hx;have hn:=(h.ring hr).near;unfold Geo.near at hn;rw[List.all_eq_true]at hn;exact hn x hxr
theorem vsR{s:Geo.Shape}(hv:Geo.bP s=true):Geo.VS s:=(Geo.iZ s).1 (by rw[Geo.iG];exact hv)
def dOf(s:Geo.Shape):List Geo.S:=if Geo.bP s=true then Geo.aAG s (vOf s)else []
theorem wF(s:Geo.Shape):(vOf s).length<=80:=by
 unfold vOf;split
 ·exact Na (vsR ‹_›)
 ·simp
theorem Jq{s:Geo.Shape}{i:Nat}(h:i<(vOf s).length){M:Int}(hM:2000<=M:=by decide):bd M (Geo.nth (vOf s) i):=by
 by_cases hv:Geo.bP s=true
 ·have e:vOf s=Geo.eP (Geo.cY s):=if_pos hv;rw[e]at h|-;exact xK (aCU (vsR hv) _ (Geo.dV h)) hM
 ·have e:vOf s=[] :=if_neg hv;rw[e]at h;simp at h
theorem aGY{s:Geo.Shape}(h:¬eOf s=0):dOf s=[]/\vOf s=[] :=by
 unfold eOf at h;split at h
 ·exact(h rfl).elim
 ·exact⟨if_neg ‹_›,if_neg ‹_›⟩
theorem Lg{s:Geo.Shape}(h:¬¬eOf s=0):Geo.bP s=true:=by
 unfold eOf at h;split at h
 ·assumption
 ·exact(h (by decide)).elim
def t20:Tab:=t72
theorem aLz:t20.Ok Tryz.prog:=aLo
end
end Go.Proofs.YtdaeofhdgabhjaaGreat
